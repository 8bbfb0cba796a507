/- Entry, Law of the machine, joined. -/
import Derived.Test.YtfppdfmffdkogaaAiDrawU
import GoSem.ClaimChange
import Derived.Carry
namespace Go.Proofs.Ytfppdfmffdkogaa.AI
open Go
set_option linter.unusedSimpArgs false

variable {P : Program} {H : Type}

def absL (f : DataW H → AH → Option (List AVal × AH)) : List (DataW H) → AH → Option (List AVal × AH)
  | [], h => some ([], h)
  | d :: ds, h => match f d h with
    | some (c, h1) => match absL f ds h1 with
      | some (r, h2) => some (c ++ r, h2)
      | none => none
    | none => none
def absF (P : Program) (f : TypeId → DataW H → AH → Option (List AVal × AH)) : Nat → List Field → List (DataW H) → AH → Option (List AVal × AH)
  | _, [], [], h => some ([], h)
  | off, fl :: fs, d :: ds, h => if fl.offset = off then match f fl.type d h with
      | some (c, h1) => if c.length = P.cellsOf fl.type then match absF P f (off + c.length) fs ds h1 with
        | some (r, h2) => some (c ++ r, h2)
        | none => none else none
      | none => none else none
  | _, _, _, _ => none
/-- The cells of a datum. What it leads to is laid into the heap, to be read alone. -/
def absD (P : Program) : Nat → TypeId → DataW H → AH → Option (List AVal × AH)
  | 0, _, _, _ => none
  | k + 1, t, d, h =>
    match P.underlying t, d with
    | some .bool, .lit (.bool b) => some ([.bool b], h)
    | some (.int q), .lit (.int _ n) => some ([.int q n], h)
    | some .string, .lit (.string l) => some ([.str l], h)
    | some (.slice _), .nil => some ([.slice none 0 0], h)
    | some (.slice e), .slice elems spare =>
      if P.cellsOf e = 0 then none else
      match elems, spare with
      | [], [] => some ([.slice (some (h.n, 0, 0)) 0 0], h.push ⟨.row [] e false, .ro, []⟩)
      | _, _ => match absL (absD P k e) elems h with
        | some (c, h1) => if c.length = elems.length * P.cellsOf e then some ([.slice (some (h1.n, 0, P.cellsOf e)) elems.length elems.length], h1.push ⟨.row c e true, .ro, []⟩) else none
        | none => none
    | some (.struct fs), .agg parts => match absF P (absD P k) 0 fs.toList parts h with
        | some (c, h1) => if c.length = P.cellsOf t then some (c, h1) else none
        | none => none
    | some (.array n e), .agg parts => if parts.length = n then match absL (absD P k e) parts h with
        | some (c, h1) => if c.length = P.cellsOf t then some (c, h1) else none
        | none => none else none
    | _, _ => none
def absV (P : Program) (t : TypeId) (c : List AVal) : AVal := match aggT P t with
  | some true => .agg c
  | _ => c.getD 0 .any
def absA (P : Program) : List TypeId → List (DataW H) → AH → Option (List AVal × AH)
  | [], [], h => some ([], h)
  | t :: ts, d :: ds, h => match absD P 20 t d h with
    | some (c, h1) => match absA P ts ds h1 with
      | some (r, h2) => some (absV P t c :: r, h2)
      | none => none
    | none => none
  | _, _, _ => none

/-- Nothing in the heap may be written yet. -/
structure ES (μ : Mu) (h : AH) (w : World) : Prop where
  r : Rel μ h w
  ro : ∀ i b, h.get i = some b → b.mode = .ro

theorem mapM_some {α β : Type} {f : α → Option β} : ∀ {l : List α} {ys : List β}, l.mapM f = some ys → ys.length = l.length ∧ ∀ (i : Nat) (x : α), l[i]? = some x → ∃ y, ys[i]? = some y ∧ f x = some y
  | [], ys, h => by simp at h; subst h; simp
  | a :: l, ys, h => by
      simp only [List.mapM_cons, Option.bind_eq_bind, Option.bind_eq_some_iff, Option.pure_def, Option.some.injEq] at h
      obtain ⟨y, hy, r, hr, rfl⟩ := h
      obtain ⟨h1, h2⟩ := mapM_some hr
      refine ⟨by simp [h1], fun i x hx => ?_⟩
      cases i with
      | zero => simp at hx; subst hx; exact ⟨y, by simp, hy⟩
      | succ i => simpa using h2 i x (by simpa using hx)

theorem cells?_get {w : World} {base : Nat} {a : Addr} {n : Nat} {cs : List Value} (h : w.cells? base a n = some cs) : cs.length = n ∧ ∀ i, i < n → ∃ y, cs[i]? = some y ∧ w.cell? (a.add i) = some y := by
  unfold World.cells? at h
  split at h
  · obtain ⟨h1, h2⟩ := mapM_some h
    refine ⟨by simpa using h1, fun i hi => ?_⟩
    obtain ⟨y, hy, hf⟩ := h2 i i (by simp [hi])
    exact ⟨y, hy, hf⟩
  · cases h

/-- A new block that is read alone. -/
theorem ES.push {μ : Mu} {h : AH} {w : World} (s : ES μ h w) {b : ABlk} {m : MuAt} (hb : b.mode = .ro) (hp : b.par = []) (hcb : m.cb < w.heap.size) (hL : Lies (muNew μ h.n m) w.heap m b) : ES (muNew μ h.n m) (h.push b) w := by
  have hle := muNew_le s.r m
  have ro' : ∀ i b', (h.push b).get i = some b' → b'.mode = .ro := by
    intro i b' hg
    rw [AH.get_push] at hg
    split at hg
    · simp only [Option.some.injEq] at hg; subst hg; exact hb
    · exact s.ro i b' hg
  refine ⟨⟨?_, ?_, ?_, ?_, ?_, ?_⟩, ro'⟩
  · intro i mi hi
    simp only [muNew] at hi
    simp only [AH.n_push]
    split at hi
    · omega
    · have := s.r.dom i mi hi; omega
  · intro i mi hi
    simp only [muNew] at hi
    split at hi
    · simp only [Option.some.injEq] at hi; subst hi; exact hcb
    · exact s.r.hi i mi hi
  · intro i mi hi
    simp only [muNew] at hi
    rw [AH.get_push]
    split at hi
    · rename_i e; rw [if_pos e]; exact ⟨_, rfl⟩
    · rename_i e; rw [if_neg e]; exact s.r.has i mi hi
  · intro i mi bi hi hbi hd
    simp only [muNew] at hi
    rw [AH.get_push] at hbi
    split at hi
    · rename_i e
      rw [if_pos e] at hbi
      simp only [Option.some.injEq] at hi hbi
      subst hi hbi
      exact hL
    · rename_i e
      rw [if_neg e] at hbi
      exact (s.r.lies i mi bi hi hbi hd).mono hle rfl
  · intro i j mi mj bi bj _ _ _ _ hbi _ hri _
    rw [ro' i bi hbi] at hri
    cases hri
  · intro i mi bi hi hbi p hpp
    simp only [muNew] at hi
    rw [AH.get_push] at hbi
    split at hi
    · rename_i e
      rw [if_pos e] at hbi
      simp only [Option.some.injEq] at hbi
      subst hbi
      rw [hp] at hpp; cases hpp
    · rename_i e
      rw [if_neg e] at hbi
      obtain ⟨m', hm', hx⟩ := s.r.par i mi bi hi hbi p hpp
      exact ⟨m', hle p m' hm', hx⟩
/-- An empty one without a place. -/
theorem ES.ghost {μ : Mu} {h : AH} {w : World} (s : ES μ h w) {b : ABlk} (hb : b.mode = .ro) : ES μ (h.push b) w :=
  ⟨s.r.ghost b, fun i b' hg => by
    rw [AH.get_push] at hg
    split at hg
    · simp only [Option.some.injEq] at hg; subst hg; exact hb
    · exact s.ro i b' hg⟩

section
variable {enc : TypeId × Value → H} {w : World}

/-- What is said of one datum. -/
def AbsGood (P : Program) (enc : TypeId × Value → H) (w : World) (f : TypeId → DataW H → AH → Option (List AVal × AH)) : Prop :=
  ∀ (fuel : Nat) (t : TypeId) (cs : List Value) (d : DataW H) (ps : List MemPlace) (h h' : AH) (as : List AVal) (μ : Mu),
    DataW.trod enc P w 0 (fun _ => true) true fuel t cs = some (d, ps) → f t d h = some (as, h') → ES μ h w → ∃ μ', VRs μ' as cs ∧ ES μ' h' w ∧ μ.le μ' ∧ h.n ≤ h'.n

theorem absL_good {f : TypeId → DataW H → AH → Option (List AVal × AH)} (hf : AbsGood P enc w f) {fuel : Nat} {e : TypeId} : ∀ (ds : List (DataW H)) (css : List (List Value)) (h h' : AH) (as : List AVal) (μ : Mu),
    css.length = ds.length → (∀ (i : Nat) (d : DataW H) (cs : List Value), ds[i]? = some d → css[i]? = some cs → ∃ ps, DataW.trod enc P w 0 (fun _ => true) true fuel e cs = some (d, ps)) → absL (f e) ds h = some (as, h') → ES μ h w →
    ∃ μ', VRs μ' as css.flatten ∧ ES μ' h' w ∧ μ.le μ' ∧ h.n ≤ h'.n
  | [], [], h, h', as, μ, _, _, ha, s => by
      simp only [absL, Option.some.injEq, Prod.mk.injEq] at ha
      obtain ⟨rfl, rfl⟩ := ha
      exact ⟨μ, by simpa using VRs.nil, s, Mu.le_refl _, Nat.le_refl _⟩
  | [], _ :: _, _, _, _, _, hl, _, _, _ => by simp at hl
  | _ :: _, [], _, _, _, _, hl, _, _, _ => by simp at hl
  | d :: ds, cs :: css, h, h', as, μ, hl, hd, ha, s => by
      simp only [absL] at ha
      split at ha
      · rename_i c h1 hc
        split at ha
        · rename_i r h2 hr
          simp only [Option.some.injEq, Prod.mk.injEq] at ha
          obtain ⟨rfl, rfl⟩ := ha
          obtain ⟨ps, hps⟩ := hd 0 d cs (by simp) (by simp)
          obtain ⟨μ1, v1, s1, l1, n1⟩ := hf fuel e cs d ps h h1 c μ hps hc s
          obtain ⟨μ2, v2, s2, l2, n2⟩ := absL_good hf ds css h1 h2 r μ1 (by simpa using hl) (fun i d cs hd' hc' => hd (i + 1) d cs (by simpa using hd') (by simpa using hc')) hr s1
          exact ⟨μ2, by simpa using (v1.mono l2).append v2, s2, Mu.le_trans l1 l2, by omega⟩
        · cases ha
      · cases ha

theorem absF_good {f : TypeId → DataW H → AH → Option (List AVal × AH)} (hf : AbsGood P enc w f) {fuel : Nat} {cs : List Value} : ∀ (fs : List Field) (ds : List (DataW H)) (off : Nat) (h h' : AH) (as : List AVal) (μ : Mu),
    ds.length = fs.length → (∀ (i : Nat) (fl : Field) (d : DataW H), fs[i]? = some fl → ds[i]? = some d → ∃ ps, DataW.trod enc P w 0 (fun _ => true) true fuel fl.type ((cs.drop fl.offset).take (P.cellsOf fl.type)) = some (d, ps)) →
    absF P f off fs ds h = some (as, h') → ES μ h w → ∃ μ', VRs μ' as ((cs.drop off).take as.length) ∧ ES μ' h' w ∧ μ.le μ' ∧ h.n ≤ h'.n
  | [], [], off, h, h', as, μ, _, _, ha, s => by
      simp only [absF, Option.some.injEq, Prod.mk.injEq] at ha
      obtain ⟨rfl, rfl⟩ := ha
      exact ⟨μ, by simpa using VRs.nil, s, Mu.le_refl _, Nat.le_refl _⟩
  | [], _ :: _, _, _, _, _, _, hl, _, _, _ => by simp at hl
  | _ :: _, [], _, _, _, _, _, hl, _, _, _ => by simp at hl
  | fl :: fs, d :: ds, off, h, h', as, μ, hl, hd, ha, s => by
      simp only [absF] at ha
      split at ha
      · rename_i ho
        split at ha
        · rename_i c h1 hc
          split at ha
          · rename_i hcl
            split at ha
            · rename_i r h2 hr
              simp only [Option.some.injEq, Prod.mk.injEq] at ha
              obtain ⟨rfl, rfl⟩ := ha
              obtain ⟨ps, hps⟩ := hd 0 fl d (by simp) (by simp)
              obtain ⟨μ1, v1, s1, l1, n1⟩ := hf fuel fl.type _ d ps h h1 c μ hps hc s
              obtain ⟨μ2, v2, s2, l2, n2⟩ := absF_good hf fs ds (off + c.length) h1 h2 r μ1 (by simpa using hl) (fun i fl d hf' hd' => hd (i + 1) fl d (by simpa using hf') (by simpa using hd')) hr s1
              refine ⟨μ2, ?_, s2, Mu.le_trans l1 l2, by omega⟩
              rw [ho, ← hcl] at v1
              have := (v1.mono l2).append v2
              rw [← List.drop_drop] at this
              rw [List.length_append, List.take_add]
              exact this
            · cases ha
          · cases ha
        · cases ha
      · cases ha

theorem add_addr (cb off n : Nat) : Addr.add ⟨cb, off, none⟩ n = ⟨cb, off + n, none⟩ := by unfold Addr.add; split <;> simp_all

theorem absD_good : ∀ k, AbsGood P enc w (absD (H := H) P k)
  | 0 => fun fuel t cs d ps h h' as μ _ ha _ => by simp [absD] at ha
  | k + 1 => fun fuel t cs d ps h h' as μ ht ha s => by
      have ih := absD_good k
      cases fuel with
      | zero => simp [DataW.trod] at ht
      | succ fuel =>
        simp only [absD] at ha
        split at ha
        · rename_i b hu
          simp only [Option.some.injEq, Prod.mk.injEq] at ha
          obtain ⟨rfl, rfl⟩ := ha
          have : cs = [.bool b] := by
            simp only [DataW.trod, hu] at ht
            split at ht <;> simp_all
          subst this
          exact ⟨μ, .cons (.bool b) .nil, s, Mu.le_refl _, Nat.le_refl _⟩
        · rename_i q k2 n hu
          simp only [Option.some.injEq, Prod.mk.injEq] at ha
          obtain ⟨rfl, rfl⟩ := ha
          have : cs = [.int q n] := by
            simp only [DataW.trod, hu] at ht
            split at ht <;> simp_all
          subst this
          exact ⟨μ, .cons (.int q n) .nil, s, Mu.le_refl _, Nat.le_refl _⟩
        · rename_i l hu
          simp only [Option.some.injEq, Prod.mk.injEq] at ha
          obtain ⟨rfl, rfl⟩ := ha
          have : ∃ b, cs = [.string b] ∧ b.data.toList = l := by
            simp only [DataW.trod, hu] at ht
            split at ht <;> simp_all
          obtain ⟨b, rfl, rfl⟩ := this
          exact ⟨μ, .cons (.str _) .nil, s, Mu.le_refl _, Nat.le_refl _⟩
        · rename_i e hu
          simp only [Option.some.injEq, Prod.mk.injEq] at ha
          obtain ⟨rfl, rfl⟩ := ha
          have : cs = [.slice none 0 0] := by
            simp only [DataW.trod, hu] at ht
            split at ht <;> simp_all
            obtain ⟨_, ht⟩ := ht
            simp only [Option.bind_eq_some_iff, Option.map_eq_some_iff, Prod.mk.injEq] at ht
            obtain ⟨_, _, _, _, h3, _⟩ := ht
            cases h3
          subst this
          exact ⟨μ, .cons .slice0 .nil, s, Mu.le_refl _, Nat.le_refl _⟩
        · rename_i e elems spare hu
          split at ha
          · cases ha
          rename_i hsz
          -- the slice in the model
          have key : ∃ (a : Addr) (len cap : Nat), cs = [.slice (some a) len cap] ∧ len = elems.length ∧ cap - len = spare.length ∧ len ≤ cap ∧
              (∀ i d, elems[i]? = some d → ∃ c ps, w.cells? 0 (a.add (i * P.cellsOf e)) (P.cellsOf e) = some c ∧ DataW.trod enc P w 0 (fun _ => true) true fuel e c = some (d, ps)) ∧
              (∀ i, i < cap → ∃ c, w.cells? 0 (a.add (i * P.cellsOf e)) (P.cellsOf e) = some c) := by
            simp only [DataW.trod, hu] at ht
            split at ht
            all_goals first | (exfalso; simp_all; done) | skip
            rename_i e' a len cap heq
            simp only [Option.some.injEq, TypeDesc.slice.injEq] at heq
            subst heq
            split at ht
            · rename_i hc
              simp only [Option.bind_eq_some_iff, Option.map_eq_some_iff, Prod.mk.injEq, DataW.slice.injEq, if_true] at ht
              obtain ⟨xs, hxs, ys, hys, ⟨rfl, rfl⟩, _⟩ := ht
              obtain ⟨x1, x2⟩ := mapM_some hxs
              obtain ⟨y1, y2⟩ := mapM_some hys
              simp only [List.length_range] at x1 y1
              refine ⟨a, len, cap, rfl, by simp [x1], by simp [y1], hc.2.1, ?_, ?_⟩
              · intro i d hd
                rw [List.getElem?_map, Option.map_eq_some_iff] at hd
                obtain ⟨x, hx, rfl⟩ := hd
                have hi : i < len := by
                  rcases Nat.lt_or_ge i len with h' | h'
                  · exact h'
                  · rw [List.getElem?_eq_none (by omega)] at hx; cases hx
                obtain ⟨y, hy, hf⟩ := x2 i i (by simp [hi])
                rw [hx] at hy
                simp only [Option.some.injEq] at hy
                subst hy
                simp only [Option.bind_eq_some_iff] at hf
                obtain ⟨c, hc1, hc2⟩ := hf
                exact ⟨c, x.2, hc1, hc2⟩
              · intro i hi
                by_cases h1 : i < len
                · obtain ⟨y, hy, hf⟩ := x2 i i (by simp [h1])
                  simp only [Option.bind_eq_some_iff] at hf
                  obtain ⟨c, hc1, _⟩ := hf
                  exact ⟨c, hc1⟩
                · obtain ⟨y, hy, hf⟩ := y2 (i - len) (i - len) (List.getElem?_range (by omega))
                  rw [show len + (i - len) = i by omega] at hf
                  simp only [Option.bind_eq_some_iff] at hf
                  obtain ⟨c, hc1, _⟩ := hf
                  exact ⟨c, hc1⟩
            · cases ht
          obtain ⟨a, len, cap, rfl, hlen, hspare, hle, hel, hall⟩ := key
          split at ha
          · -- empty, and no room
            simp only [Option.some.injEq, Prod.mk.injEq] at ha
            obtain ⟨rfl, rfl⟩ := ha
            simp only [List.length_nil] at hlen hspare
            have hc0 : cap = 0 := by omega
            subst hlen hc0
            exact ⟨μ, .cons (.sliceE _ _ _ a (.inl rfl)) .nil, s.ghost rfl, Mu.le_refl _, by simp⟩
          · rename_i hne
            split at ha
            · rename_i c h1 hc
              split at ha
              · rename_i hcl
                simp only [Option.some.injEq, Prod.mk.injEq] at ha
                obtain ⟨rfl, rfl⟩ := ha
                have hcap : 0 < cap := by
                  rcases Nat.eq_zero_or_pos cap with h0 | h0
                  · exfalso
                    have h2 : elems = [] := List.eq_nil_of_length_eq_zero (by omega)
                    have h3 : spare = [] := List.eq_nil_of_length_eq_zero (by omega)
                    exact hne h2 h3
                  · exact h0
                -- the cells
                have hz : 0 < P.cellsOf e := by omega
                have hspot : a.spot = none := by
                  obtain ⟨c0, hc0⟩ := hall 0 hcap
                  obtain ⟨_, h2⟩ := cells?_get hc0
                  obtain ⟨y, _, hy⟩ := h2 0 hz
                  simp only [Nat.zero_mul, Addr.add, if_true] at hy
                  unfold World.cell? at hy
                  split at hy
                  · split at hy
                    · cases hy
                    · rename_i hs; cases hx : a.spot <;> simp_all
                  · cases hy
                obtain ⟨ab, ao, asp⟩ := a
                simp only at hspot
                subst hspot
                have hcell : ∀ j, j < cap * P.cellsOf e → ∃ y, w.cell? ⟨ab, ao + j, none⟩ = some y := by
                  intro j hj
                  have hi : j / P.cellsOf e < cap := (Nat.div_lt_iff_lt_mul hz).2 hj
                  obtain ⟨c0, hc0⟩ := hall _ hi
                  obtain ⟨_, h2⟩ := cells?_get hc0
                  obtain ⟨y, _, hy⟩ := h2 (j % P.cellsOf e) (Nat.mod_lt _ hz)
                  rw [add_addr, add_addr, Nat.add_assoc, Nat.mul_comm, Nat.div_add_mod] at hy
                  exact ⟨y, hy⟩
                have hrow : ∃ C el fr, w.heap[ab]? = some (.cells C el fr) ∧ ao + cap * P.cellsOf e ≤ C.size := by
                  obtain ⟨y, hy⟩ := hcell (cap * P.cellsOf e - 1) (by have := Nat.mul_pos hcap hz; omega)
                  unfold World.cell? at hy
                  split at hy
                  · rename_i C el fr hb
                    refine ⟨C, el, fr, hb, ?_⟩
                    simp only [Option.isSome_none, Bool.false_eq_true, if_false] at hy
                    have := (Array.getElem?_eq_some_iff.1 hy).1
                    have := Nat.mul_pos hcap hz
                    omega
                  · cases hy
                obtain ⟨C, el, fr, hb, hCs⟩ := hrow
                have hcellC : ∀ j, w.cell? ⟨ab, ao + j, none⟩ = C[ao + j]? := fun j => by simp [World.cell?, hb]
                -- the elements' cells
                have hmulle : len * P.cellsOf e ≤ cap * P.cellsOf e := Nat.mul_le_mul_right _ hle
                let css : List (List Value) := (List.range len).map fun i => (C.toList.drop (ao + i * P.cellsOf e)).take (P.cellsOf e)
                have hcss : css.length = elems.length := by simp [css, hlen]
                have helt : ∀ (i : Nat) (d : DataW H) (cs : List Value), elems[i]? = some d → css[i]? = some cs → ∃ ps, DataW.trod enc P w 0 (fun _ => true) true fuel e cs = some (d, ps) := by
                  intro i d cs hd hcs
                  obtain ⟨c0, ps0, hc0, ht0⟩ := hel i d hd
                  have hi : i < len := by
                    rcases Nat.lt_or_ge i len with h' | h'
                    · exact h'
                    · rw [List.getElem?_eq_none (by omega)] at hd; cases hd
                  have : cs = c0 := by
                    simp only [css, List.getElem?_map, List.getElem?_range hi, Option.map_some, Option.some.injEq] at hcs
                    subst hcs
                    obtain ⟨h1, h2⟩ := cells?_get hc0
                    apply List.ext_getElem?
                    intro j
                    by_cases hj : j < P.cellsOf e
                    · obtain ⟨y, hy1, hy2⟩ := h2 j hj
                      rw [add_addr, add_addr, Nat.add_assoc, hcellC] at hy2
                      rw [hy1, List.getElem?_take_of_lt hj, List.getElem?_drop, ← hy2]
                      simp [Nat.add_assoc]
                    · rw [List.getElem?_eq_none (by simp; omega), List.getElem?_eq_none (by omega)]
                  rw [this]
                  exact ⟨ps0, ht0⟩
                obtain ⟨μ1, v1, s1, l1, n1⟩ := absL_good ih elems css h h1 c μ hcss helt hc s
                have hflat : ∀ n, n ≤ len → ((List.range n).map fun i => (C.toList.drop (ao + i * P.cellsOf e)).take (P.cellsOf e)).flatten = (C.toList.drop ao).take (n * P.cellsOf e) := by
                  intro n
                  induction n with
                  | zero => simp
                  | succ n ihn =>
                    intro hn
                    rw [List.range_succ, List.map_append, List.flatten_append, ihn (by omega)]
                    simp only [List.map_cons, List.map_nil, List.flatten_cons, List.flatten_nil, List.append_nil]
                    rw [Nat.add_mul, Nat.one_mul, List.take_add, List.drop_drop]
                have hcv : VRs μ1 c ((C.toList.drop ao).take c.length) := by
                  rw [hcl, ← hlen, ← hflat len (Nat.le_refl _)]
                  exact v1
                have hhi : ab < w.heap.size := by
                  rcases Nat.lt_or_ge ab w.heap.size with h' | h'
                  · exact h'
                  · rw [Array.getElem?_eq_none h'] at hb; cases hb
                have hpush := s1.push (b := ⟨.row c e true, .ro, []⟩) (m := ⟨ab, ao, c.length, cap * P.cellsOf e, true⟩) rfl rfl hhi
                  ⟨rfl, rfl, by show c.length ≤ cap * P.cellsOf e; rw [hcl, ← hlen]; exact hmulle, by simp, C, el, fr, hb, hCs, hcv.mono (muNew_le s1.r _), by simp, by simp⟩
                refine ⟨_, .cons ?_ .nil, hpush, Mu.le_trans l1 (muNew_le s1.r _), by simp only [AH.n_push]; omega⟩
                have := VR.slice (μ := muNew μ1 h1.n ⟨ab, ao, c.length, cap * P.cellsOf e, true⟩) (i := h1.n) (off := 0) (sz := P.cellsOf e) (len := elems.length) (cap := elems.length) (cap' := cap) (m := ⟨ab, ao, c.length, cap * P.cellsOf e, true⟩)
                  (by simp [muNew]) hz (Nat.le_refl _) (by show 0 + _ ≤ c.length; omega) (.inr ⟨rfl, by show 0 + _ = c.length; omega, by omega⟩) (by show 0 + _ ≤ cap * P.cellsOf e; omega)
                rw [hlen]
                simpa using this
              · cases ha
            · cases ha
        · rename_i fs parts hu
          split at ha
          · rename_i c h1 hc
            split at ha
            · rename_i hcl
              simp only [Option.some.injEq, Prod.mk.injEq] at ha
              obtain ⟨rfl, rfl⟩ := ha
              simp only [DataW.trod, hu] at ht
              split at ht
              all_goals first | (exfalso; simp_all; done) | skip
              simp only [Option.map_eq_some_iff, Prod.mk.injEq, DataW.agg.injEq] at ht
              obtain ⟨xs, hxs, rfl, _⟩ := ht
              rename_i hl
              obtain ⟨x1, x2⟩ := mapM_some hxs
              obtain ⟨μ1, v1, s1, l1, n1⟩ := absF_good ih (fuel := fuel) (cs := cs) fs.toList _ 0 h h1 c μ (by simp [x1]) (by
                intro i fl d hfl hd
                obtain ⟨y, hy, hf⟩ := x2 i fl hfl
                rw [List.getElem?_map, hy] at hd
                simp only [Option.map_some, Option.some.injEq] at hd
                subst hd
                exact ⟨y.2, hf⟩) hc s
              refine ⟨μ1, ?_, s1, l1, n1⟩
              rw [List.drop_zero, List.take_of_length_le (by omega)] at v1
              exact v1
            · cases ha
          · cases ha
        · rename_i n e parts hu
          split at ha
          · rename_i hn
            split at ha
            · rename_i c h1 hc
              split at ha
              · rename_i hcl
                simp only [Option.some.injEq, Prod.mk.injEq] at ha
                obtain ⟨rfl, rfl⟩ := ha
                simp only [DataW.trod, hu] at ht
                split at ht
                all_goals first | (exfalso; simp_all; done) | skip
                simp only [Option.map_eq_some_iff, Prod.mk.injEq, DataW.agg.injEq] at ht
                obtain ⟨xs, hxs, rfl, _⟩ := ht
                rename_i hl
                obtain ⟨x1, x2⟩ := mapM_some hxs
                simp only [List.length_range] at x1
                let css : List (List Value) := (List.range n).map fun i => (cs.drop (i * P.cellsOf e)).take (P.cellsOf e)
                obtain ⟨μ1, v1, s1, l1, n1⟩ := absL_good ih (fuel := fuel) (e := e) _ css h h1 c μ (by simp [css, x1]) (by
                  intro i d cs' hd hcs
                  have hi : i < n := by
                    rcases Nat.lt_or_ge i n with h' | h'
                    · exact h'
                    · rw [List.getElem?_eq_none (by simp [x1]; omega)] at hd; cases hd
                  obtain ⟨y, hy, hf⟩ := x2 i i (by simp [hi])
                  rw [List.getElem?_map, hy] at hd
                  simp only [Option.map_some, Option.some.injEq] at hd
                  subst hd
                  simp only [css, List.getElem?_map, List.getElem?_range hi, Option.map_some, Option.some.injEq] at hcs
                  subst hcs
                  exact ⟨y.2, hf⟩) hc s
                have hflat : ∀ m, m ≤ n → ((List.range m).map fun i => (cs.drop (i * P.cellsOf e)).take (P.cellsOf e)).flatten = cs.take (m * P.cellsOf e) := by
                  intro m
                  induction m with
                  | zero => simp
                  | succ m ihn =>
                    intro hn
                    rw [List.range_succ, List.map_append, List.flatten_append, ihn (by omega)]
                    simp only [List.map_cons, List.map_nil, List.flatten_cons, List.flatten_nil, List.append_nil]
                    rw [Nat.add_mul, Nat.one_mul, List.take_add]
                simp only [css] at v1
                rw [hflat n (Nat.le_refl _)] at v1
                have hlen := v1.length
                rw [List.length_take] at hlen
                rw [List.take_of_length_le (by omega)] at v1
                exact ⟨μ1, v1, s1, l1, n1⟩
              · cases ha
            · cases ha
          · cases ha
        · cases ha

theorem absV_good {μ : Mu} {base : Nat} {t : TypeId} {v : Value} {c : List AVal} (hv : Value.okWide P w .any base t v) (h : VRs μ c v.cells.toList) : VR μ (absV P t c) v := by
  unfold absV aggT
  unfold Value.okWide at hv
  have sc : ∀ {v : Value}, (∀ cs, v ≠ .agg cs) → VRs μ c v.cells.toList → VR μ (c.getD 0 .any) v := by
    intro v hn h
    have hc : v.cells = #[v] := by cases v <;> first | rfl | exact absurd rfl (hn _)
    rw [hc] at h
    cases h with
    | cons h _ => exact h
  split at hv
  · rename_i fs hu
    obtain ⟨cs, rfl, _, _⟩ := hv
    simp only [hu, Option.map_some]
    exact .agg h
  · rename_i n e hu
    obtain ⟨cs, rfl, _, _⟩ := hv
    simp only [hu, Option.map_some]
    exact .agg h
  · rename_i hn1 hn2
    have hna : ∀ cs, v ≠ .agg cs := by
      rintro cs rfl
      unfold Cell.okWide Cell.ok at hv
      split at hv <;> simp_all
    rcases hP : P.underlying t with _ | d
    · exact sc hna h
    · cases d <;> first | exact sc hna h | exact (hn1 _ hP).elim | exact (hn2 _ _ hP).elim

theorem absA_good : ∀ (ts : List TypeId) (vs : List Value) (ds : List (DataW H)) (p : List MemPlace) (h h' : AH) (as : List AVal) (μ : Mu) (base : Nat),
    (∀ (j : Nat) (t : TypeId) (v : Value), ts[j]? = some t → vs[j]? = some v → Value.okWide P w .any base t v) →
    DataW.TrodAll enc P w 0 (fun _ => true) true ts vs ds p → absA P ts ds h = some (as, h') → ES μ h w → ∃ μ', VRs μ' as vs ∧ ES μ' h' w ∧ μ.le μ'
  | [], [], [], _, h, h', as, μ, _, _, _, ha, s => by
      simp only [absA, Option.some.injEq, Prod.mk.injEq] at ha
      obtain ⟨rfl, rfl⟩ := ha
      exact ⟨μ, .nil, s, Mu.le_refl _⟩
  | t :: ts, v :: vs, d :: ds, p, h, h', as, μ, base, hok, ht, ha, s => by
      simp only [absA] at ha
      obtain ⟨p1, q1, ⟨fuel, hd⟩, hr, _⟩ := ht
      split at ha
      · rename_i c h1 hc
        split at ha
        · rename_i r h2 hr2
          simp only [Option.some.injEq, Prod.mk.injEq] at ha
          obtain ⟨rfl, rfl⟩ := ha
          obtain ⟨μ1, v1, s1, l1, _⟩ := absD_good 20 fuel t _ d _ h h1 c μ hd hc s
          obtain ⟨μ2, v2, s2, l2⟩ := absA_good ts vs ds q1 h1 h2 r μ1 base (fun j t v hj hv => hok (j + 1) t v (by simpa using hj) (by simpa using hv)) hr hr2 s1
          exact ⟨μ2, .cons ((absV_good (hok 0 t v (by simp) (by simp)) v1).mono l2) v2, s2, Mu.le_trans l1 l2⟩
        · cases ha
      · cases ha
  | [], _ :: _, _, _, _, _, _, _, _, _, ht, _, _ => by simp [DataW.TrodAll] at ht
  | [], [], _ :: _, _, _, _, _, _, _, _, ht, _, _ => by simp [DataW.TrodAll] at ht
  | _ :: _, [], _, _, _, _, _, _, _, _, ht, _, _ => by simp [DataW.TrodAll] at ht
  | _ :: _, _ :: _, [], _, _, _, _, _, _, _, ht, _, _ => by simp [DataW.TrodAll] at ht
end
end Go.Proofs.Ytfppdfmffdkogaa.AI
namespace Go.Proofs.Ytfppdfmffdkogaa.AI
open Go Go.RowKit Go.ChangeShapes
set_option linter.unusedSimpArgs false

variable {P : Program} {H : Type}

/-- The shape of a datum of a type, to a depth. -/
def TD (P : Program) : Nat → TypeId → DataW H → Prop
  | 0, _, _ => True
  | k + 1, t, d =>
    match P.underlying t with
    | some .bool => ∃ b, d = .lit (.bool b)
    | some (.int q) => ∃ n, d = .lit (.int q n) ∧ (Lit.int q n).wf = true
    | some .string => ∃ l : List UInt8, d = .lit (.string l) ∧ l.length ≤ maxLen
    | some (.slice e) => d = .nil ∨ ∃ es sp, d = .slice es sp ∧ es.length ≤ maxLen ∧ ∀ (i : Nat) x, es[i]? = some x → TD P k e x
    | some (.struct fs) => ∃ ps, d = .agg ps ∧ ps.length = fs.size ∧ ∀ (i : Nat) f x, fs[i]? = some f → ps[i]? = some x → TD P k f.type x
    | some (.array n e) => ∃ ps, d = .agg ps ∧ ps.length = n ∧ ∀ (i : Nat) x, ps[i]? = some x → TD P k e x
    | _ => True
def TDs (P : Program) (k : Nat) : List TypeId → List (DataW H) → Prop
  | [], [] => True
  | t :: ts, d :: ds => TD P k t d ∧ TDs P k ts ds
  | _, _ => False

section
variable {enc : TypeId × Value → H} {w : World} {base : Nat} {sp : Nat → Bool} {hd : Bool}

theorem td_of_trod : ∀ (k fuel : Nat) (t : TypeId) (cs : List Value) (d : DataW H) (ps : List MemPlace), DataW.trod enc P w base sp hd fuel t cs = some (d, ps) → TD P k t d
  | 0, _, _, _, _, _, _ => trivial
  | _ + 1, 0, _, _, _, _, h => by simp [DataW.trod] at h
  | k + 1, fuel + 1, t, cs, d, ps, h => by
      have ih := td_of_trod k fuel
      unfold TD
      simp only [DataW.trod] at h
      split
      · rename_i hu
        simp only [hu] at h
        split at h
        all_goals first | (exfalso; simp_all; done) | skip
        simp only [Option.some.injEq, Prod.mk.injEq] at h
        exact ⟨_, h.1.symm⟩
      · rename_i q hu
        simp only [hu] at h
        split at h
        all_goals first | (exfalso; simp_all; done) | skip
        rename_i he
        simp only [Option.some.injEq, TypeDesc.int.injEq] at he
        subst he
        split at h
        · rename_i hc
          simp only [Option.some.injEq, Prod.mk.injEq] at h
          exact ⟨_, h.1.symm, hc.2⟩
        · cases h
      · rename_i hu
        simp only [hu] at h
        split at h
        all_goals first | (exfalso; simp_all; done) | skip
        split at h
        · rename_i hc
          simp only [Option.some.injEq, Prod.mk.injEq] at h
          exact ⟨_, h.1.symm, by simpa using hc⟩
        · cases h
      · rename_i e hu
        simp only [hu] at h
        split at h
        all_goals first | (exfalso; simp_all; done) | skip
        · simp only [Option.some.injEq, Prod.mk.injEq] at h
          exact .inl h.1.symm
        · rename_i he
          simp only [Option.some.injEq, TypeDesc.slice.injEq] at he
          subst he
          right
          split at h
          · rename_i hc
            simp only [Option.bind_eq_some_iff, Option.map_eq_some_iff, Prod.mk.injEq] at h
            obtain ⟨xs, hxs, ys, hys, rfl, _⟩ := h
            obtain ⟨x1, x2⟩ := mapM_some hxs
            simp only [List.length_range] at x1
            refine ⟨_, _, rfl, by simp [x1]; omega, fun i x hx => ?_⟩
            rw [List.getElem?_map, Option.map_eq_some_iff] at hx
            obtain ⟨y, hy, rfl⟩ := hx
            have hi := (List.getElem?_eq_some_iff.1 hy).1
            obtain ⟨y', hy', hf⟩ := x2 i i (List.getElem?_range (by omega))
            rw [hy] at hy'
            simp only [Option.some.injEq] at hy'
            subst hy'
            simp only [Option.bind_eq_some_iff] at hf
            obtain ⟨c, _, hc2⟩ := hf
            exact ih _ _ _ _ hc2
          · cases h
      · rename_i fs hu
        simp only [hu] at h
        split at h
        all_goals first | (exfalso; simp_all; done) | skip
        simp only [Option.map_eq_some_iff, Prod.mk.injEq] at h
        obtain ⟨xs, hxs, rfl, _⟩ := h
        obtain ⟨x1, x2⟩ := mapM_some hxs
        refine ⟨_, rfl, by simp [x1], fun i f x hf hx => ?_⟩
        rw [List.getElem?_map, Option.map_eq_some_iff] at hx
        obtain ⟨y, hy, rfl⟩ := hx
        obtain ⟨y', hy', hf'⟩ := x2 i f (by simpa using hf)
        rw [hy] at hy'
        simp only [Option.some.injEq] at hy'
        subst hy'
        exact ih _ _ _ _ hf'
      · rename_i n e hu
        simp only [hu] at h
        split at h
        all_goals first | (exfalso; simp_all; done) | skip
        simp only [Option.map_eq_some_iff, Prod.mk.injEq] at h
        obtain ⟨xs, hxs, rfl, _⟩ := h
        obtain ⟨x1, x2⟩ := mapM_some hxs
        simp only [List.length_range] at x1
        refine ⟨_, rfl, by simp [x1], fun i x hx => ?_⟩
        rw [List.getElem?_map, Option.map_eq_some_iff] at hx
        obtain ⟨y, hy, rfl⟩ := hx
        have hi := (List.getElem?_eq_some_iff.1 hy).1
        obtain ⟨y', hy', hf'⟩ := x2 i i (List.getElem?_range (by omega))
        rw [hy] at hy'
        simp only [Option.some.injEq] at hy'
        subst hy'
        exact ih _ _ _ _ hf'
      · trivial

theorem tds_of_trodAll (k : Nat) : ∀ {ts : List TypeId} {vs : List Value} {ds : List (DataW H)} {ps : List MemPlace}, DataW.TrodAll enc P w base sp hd ts vs ds ps → TDs P k ts ds
  | [], [], [], _, _ => trivial
  | _ :: _, _ :: _, _ :: _, _, ⟨_, _, ⟨fuel, h⟩, hr, _⟩ => ⟨td_of_trod k fuel _ _ _ _ h, tds_of_trodAll k hr⟩
  | [], _ :: _, _, _, h => by simp [DataW.TrodAll] at h
  | [], [], _ :: _, _, h => by simp [DataW.TrodAll] at h
  | _ :: _, [], _, _, h => by simp [DataW.TrodAll] at h
  | _ :: _, _ :: _, [], _, h => by simp [DataW.TrodAll] at h

theorem trodAll_below (hl : laidOutB P = true) {W W' : World} (hb : Below W.heap.size W W') : ∀ {ts : List TypeId} {vs : List Value} {ds : List (DataW H)} {ps : List MemPlace}, ts.all (fun t => P.readableRec t && decide (t < P.types.size)) = true →
    DataW.TrodAll enc P W 0 (fun _ => true) true ts vs ds ps → (∀ x ∈ ps, x.block < W.heap.size) → DataW.TrodAll enc P W' 0 (fun b => decide (b < W.heap.size)) true ts vs ds ps
  | [], [], [], _, _, h, _ => h
  | t :: ts, v :: vs, d :: ds, _, ht, ⟨p, q, h, hr, e⟩, hlt => by
      subst e
      simp only [List.all_cons, Bool.and_eq_true, decide_eq_true_eq] at ht
      exact ⟨p, q, Below.trod hl ht.1.1 ht.1.2 h hb (fun x hx => hlt x (by simp [hx])), trodAll_below hl hb ht.2 hr (fun x hx => hlt x (by simp [hx])), rfl⟩
  | [], _ :: _, _, _, _, h, _ => by simp [DataW.TrodAll] at h
  | [], [], _ :: _, _, _, h, _ => by simp [DataW.TrodAll] at h
  | _ :: _, [], _, _, _, h, _ => by simp [DataW.TrodAll] at h
  | _ :: _, _ :: _, [], _, _, h, _ => by simp [DataW.TrodAll] at h
end

def AH.empty : AH := ⟨0, .lf⟩
/-- The start: nothing is known of. -/
theorem es_empty (w : World) : ES (fun _ => none) AH.empty w :=
  ⟨⟨(fun _ _ h => by cases h), (fun _ _ h => by cases h), (fun _ _ h => by cases h), (fun _ _ _ h => by cases h), (fun _ _ _ _ _ _ _ h => by cases h), (fun _ _ _ h => by cases h)⟩,
    fun i b h => by simp [AH.empty, AH.get, Tr.get] at h⟩

/-- What a law's text comes to: true, and nothing that was there has turned. -/
theorem law_calls (hP : progOk P = true) {F : Nat} (hen : entersB P F = true) {ov : AOver} (hov : ∀ f g, ov f = some g → CallSound P [] (fun f' args h => if f' = f then g args h else none))
    {enc : TypeId × Value → H} {W : World} {n : Nat} {base : Nat} {ts : List TypeId} {args : Array Value} {ds : List (DataW H)} {p : List MemPlace}
    (hok : ∀ (j : Nat) (t : TypeId) (v : Value), ts[j]? = some t → args.toList[j]? = some v → Value.okWide P W .any base t v)
    (hA : DataW.TrodAll enc P W 0 (fun _ => true) true ts args.toList ds p)
    {as : List AVal} {h0 h' : AH} (ha : absA P ts ds AH.empty = some (as, h0)) (hc : acall P [] ov n F as h0 = some (.bool true, h')) :
    Calls P F args W fun e W' => e = .returned (.bool true) ∧ Below W.heap.size W W' := by
  obtain ⟨μ, v, s, _⟩ := absA_good ts args.toList ds p _ _ _ _ base hok hA ha (es_empty W)
  have hs := (acall_sound (progOk_spec hP) hov n).enter (enters_of hen) hc
  refine (hs μ W args s.r (fun g hg => by cases hg) v).mono fun e W' ⟨μ', v', he, hv, _, hx⟩ => ?_
  cases hv
  refine ⟨he, hx.os, hx.tape, hx.output, hx.size, fun k hk => hx.keep k hk ?_⟩
  rintro ⟨i, m, b, h1, h2, h3, h4⟩
  rw [s.ro i b h3] at h4
  cases h4
end Go.Proofs.Ytfppdfmffdkogaa.AI
