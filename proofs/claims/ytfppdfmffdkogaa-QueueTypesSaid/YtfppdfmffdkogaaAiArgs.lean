/- Arguments: what they read as, by their types. -/
import Derived.Test.YtfppdfmffdkogaaAiLib2
import Derived.Test.YtfppdfmffdkogaaAiLaw
namespace Go.Proofs.Ytfppdfmffdkogaa.AI
open Go
set_option linter.unusedSimpArgs false
set_option linter.unusedVariables false

variable {P : Program} {H : Type} {α β : Type}

/-- Nothing may be written yet. -/
structure Ro (h : AH) : Prop where
  w : Wf h
  ro : ∀ i b, h.get i = some b → b.mode = .ro
theorem Ro.empty : Ro AH.empty := ⟨⟨fun i b h => by simp [AH.empty, AH.get, Tr.get] at h, fun i b h => by simp [AH.empty, AH.get, Tr.get] at h⟩, fun i b h => by simp [AH.empty, AH.get, Tr.get] at h⟩
theorem Ro.push {h : AH} (r : Ro h) (o : AObj) : Ro (h.push ⟨o, .ro, []⟩) ∧ Kp h (h.push ⟨o, .ro, []⟩) := by
  have k := Kp.push0 r.w o .ro
  refine ⟨⟨k.w', fun i b e => ?_⟩, k⟩
  rw [AH.get_push] at e
  split at e
  · simp only [Option.some.injEq] at e; subst e; rfl
  · exact r.ro i b e

/-- The cells read as x. -/
abbrev Rep (α : Type) := AH → List AVal → α → Prop
/-- It stays so. -/
def Rep.Stay (R : Rep α) : Prop := ∀ {h h' : AH} {c : List AVal} {x : α} {S : Nat → Prop}, Ke S h h' → R h c x → R h' c x
/-- Nothing in it weighs more than may be reached. -/
def Wt (P : Program) (t : TypeId) (d : DataW H) : Prop := ∀ x ∈ d.weights P t, x ≤ reachBytes
/-- Its shape and its weight. -/
def TW (P : Program) (k : Nat) (t : TypeId) (d : DataW H) : Prop := TD P k t d ∧ Wt P t d
theorem mem_weightsAll {e : TypeId} : ∀ {ds : List (DataW H)} {i : Nat} {x : DataW H} {y : Nat}, ds[i]? = some x → y ∈ x.weights P e → y ∈ DataW.weightsAll P e ds
  | d :: ds, 0, x, y, h, hy => by
      simp only [List.getElem?_cons_zero, Option.some.injEq] at h
      subst h
      simp only [DataW.weightsAll, List.mem_append]; exact .inl hy
  | d :: ds, i + 1, x, y, h, hy => by
      simp only [List.getElem?_cons_succ] at h
      simp only [DataW.weightsAll, List.mem_append]; exact .inr (mem_weightsAll h hy)
theorem mem_weightsEach : ∀ {ts : List TypeId} {ds : List (DataW H)} {i : Nat} {u : TypeId} {x : DataW H} {y : Nat}, ts[i]? = some u → ds[i]? = some x → y ∈ x.weights P u → y ∈ DataW.weightsEach P ts ds
  | t :: ts, d :: ds, 0, u, x, y, ht, h, hy => by
      simp only [List.getElem?_cons_zero, Option.some.injEq] at h ht
      subst h ht
      simp only [DataW.weightsEach, List.mem_append]; exact .inl hy
  | t :: ts, d :: ds, i + 1, u, x, y, ht, h, hy => by
      simp only [List.getElem?_cons_succ] at h ht
      simp only [DataW.weightsEach, List.mem_append]; exact .inr (mem_weightsEach ht h hy)
/-- Data of this type are laid so that they read by R. -/
def Abs (P : Program) (H : Type) (k : Nat) (t : TypeId) (R : Rep α) : Prop :=
  (∀ {h h' : AH} {c : List AVal} {x : α} {S : Nat → Prop}, Ke S h h' → R h c x → R h' c x) ∧
  ∀ (d : DataW H) (h : AH), Ro h → TW P k t d → ∃ c h' x, absD P k t d h = some (c, h') ∧ Ro h' ∧ Kp h h' ∧ R h' c x ∧ c.length = P.cellsOf t

def rBool : Rep Bool := fun _ c b => c = [.bool b]
def rInt (q : IntKind) : Rep Int := fun _ c n => c = [.int q n] ∧ q.min ≤ n ∧ n ≤ q.max
def rU8 : Rep UInt8 := fun _ c b => c = [.int .u8 b.toNat]
def rStr : Rep (List UInt8) := fun _ c l => c = [.str l] ∧ l.length ≤ reachBytes
/-- A slice of which each element reads by R. -/
def rSl (R : Rep α) (sz : Nat) : Rep (List α) := fun h c xs => ∃ v cs, c = [v] ∧ Sz h v sz xs.length cs .ro ∧ xs.length ≤ reachBytes ∧ ∀ (i : Nat) x, xs[i]? = some x → R h ((cs.drop (i * sz)).take sz) x
def rUnit : Rep Unit := fun _ c _ => c = []
/-- One thing behind another. -/
def rCons (n : Nat) (R : Rep α) (S : Rep β) : Rep (α × β) := fun h c x => R h (c.take n) x.1 ∧ S h (c.drop n) x.2

variable {k : Nat} {t : TypeId}
theorem abs_bool (hu : P.underlying t = some .bool) (hc : P.cellsOf t = 1) : Abs P H (k + 1) t rBool := by
  refine ⟨fun _ r => r, fun d h r td => ?_⟩
  replace td := td.1
  simp only [TD, hu] at td
  obtain ⟨b, rfl⟩ := td
  exact ⟨_, _, b, by simp only [absD, hu], r, Ke.refl r.w, rfl, hc.symm⟩
theorem abs_int {q : IntKind} (hu : P.underlying t = some (.int q)) (hc : P.cellsOf t = 1) : Abs P H (k + 1) t (rInt q) := by
  refine ⟨fun _ r => r, fun d h r td => ?_⟩
  replace td := td.1
  simp only [TD, hu] at td
  obtain ⟨n, rfl, hw⟩ := td
  refine ⟨_, _, n, by simp only [absD, hu], r, Ke.refl r.w, ⟨rfl, ?_⟩, hc.symm⟩
  simpa [Lit.wf] using hw
theorem abs_u8 (hu : P.underlying t = some (.int .u8)) (hc : P.cellsOf t = 1) : Abs P H (k + 1) t rU8 := by
  refine ⟨fun _ r => r, fun d h r td => ?_⟩
  obtain ⟨c, h', n, h1, h2, h3, ⟨rfl, h4, h5⟩, h6⟩ := (abs_int (k := k) hu hc).2 d h r td
  have e1 : IntKind.min .u8 = 0 := rfl
  have e2 : IntKind.max .u8 = 255 := rfl
  refine ⟨_, h', UInt8.ofNat n.toNat, h1, h2, h3, ?_, h6⟩
  simp only [rU8, List.cons.injEq, AVal.int.injEq, true_and, and_true]
  rw [UInt8.toNat_ofNat_of_lt' (by simp; omega)]
  omega
theorem abs_str (hu : P.underlying t = some .string) (hc : P.cellsOf t = 1) : Abs P H (k + 1) t rStr := by
  refine ⟨fun _ r => r, fun d h r td => ?_⟩
  obtain ⟨td, tw⟩ := td
  simp only [TD, hu] at td
  obtain ⟨l, rfl, hl⟩ := td
  replace hl : l.length ≤ reachBytes := tw _ (by simp [DataW.weights])
  exact ⟨_, _, l, by simp only [absD, hu], r, Ke.refl r.w, ⟨rfl, hl⟩, hc.symm⟩

theorem absL_reads {e : TypeId} {R : Rep α} {sz : Nat} (ha : Abs P H k e R) (hc : P.cellsOf e = sz) : ∀ (ds : List (DataW H)) (h : AH), Ro h → (∀ (i : Nat) x, ds[i]? = some x → TW P k e x) →
    ∃ (c : List AVal) (h' : AH) (xs : List α), absL (absD P k e) ds h = some (c, h') ∧ Ro h' ∧ Kp h h' ∧ xs.length = ds.length ∧ c.length = ds.length * sz ∧ ∀ (i : Nat) (x : α), xs[i]? = some x → R h' ((c.drop (i * sz)).take sz) x
  | [], h, r, _ => ⟨[], h, [], rfl, r, Ke.refl r.w, rfl, by simp, fun i x hx => by simp at hx⟩
  | d :: ds, h, r, td => by
      obtain ⟨c1, h1, x1, e1, r1, k1, p1, l1⟩ := ha.2 d h r (td 0 d rfl)
      obtain ⟨c2, h2, xs, e2, r2, k2, n2, l2, p2⟩ := absL_reads ha hc ds h1 r1 (fun i x hx => td (i + 1) x (by simpa using hx))
      rw [hc] at l1
      refine ⟨c1 ++ c2, h2, x1 :: xs, by simp only [absL, e1, e2], r2, k1.trans k2, by simp [n2], by simp [l1, l2, Nat.add_mul, Nat.add_comm], fun i x hx => ?_⟩
      cases i with
      | zero =>
        simp at hx
        subst hx
        rw [Nat.zero_mul, List.drop_zero, List.take_left' l1]
        exact ha.1 k2 p1
      | succ i =>
        rw [show (i + 1) * sz = c1.length + i * sz by rw [l1, Nat.add_mul]; omega, List.drop_append]
        rw [List.drop_of_length_le (by omega), List.nil_append, Nat.add_sub_cancel_left]
        exact p2 i x (by simpa using hx)

theorem abs_slice {e : TypeId} {R : Rep α} {sz : Nat} (hu : P.underlying t = some (.slice e)) (ht : P.cellsOf t = 1) (hc : P.cellsOf e = sz) (hs : 0 < sz) (hb : Nat.blt 0 (P.bytesOf e) = true) (ha : Abs P H k e R) : Abs P H (k + 1) t (rSl R sz) := by
  refine ⟨fun {h h' c x S} ke r => ?_, fun d h r td => ?_⟩
  · obtain ⟨v, cs, rfl, s, hl, p⟩ := r
    exact ⟨v, cs, rfl, s.ro ke, hl, fun i x hx => ha.1 ke (p i x hx)⟩
  · obtain ⟨td, tw⟩ := td
    simp only [TD, hu] at td
    rcases td with rfl | ⟨es, sp, rfl, hl, td⟩
    · exact ⟨_, _, [], by simp only [absD, hu], r, Ke.refl r.w, ⟨_, [], rfl, Sz.nil h sz hs _, by simp, fun i x hx => by simp at hx⟩, ht.symm⟩
    · by_cases h0 : es = [] ∧ sp = []
      · obtain ⟨rfl, rfl⟩ := h0
        obtain ⟨r', k'⟩ := r.push (.row [] e false)
        refine ⟨[.slice (some (h.n, 0, 0)) 0 0], _, [], by simp only [absD, hu, hc, if_neg (show ¬ sz = 0 by omega)], r', k', ⟨_, [], rfl, ?_, by simp, fun i x hx => by simp at hx⟩, ht.symm⟩
        exact ⟨_, _, rfl, by simp, Nat.le_refl _, hs, .inr (.inl ⟨_, _, rfl, rfl, rfl⟩)⟩
      · replace hl : es.length ≤ reachBytes := by
          have h1 := tw ((es.length + sp.length) * P.bytesOf e) (by simp [DataW.weights, hu])
          have h2 : 0 < P.bytesOf e := by simpa using hb
          exact Nat.le_trans (Nat.le_trans (Nat.le_add_right _ _) (Nat.le_mul_of_pos_right _ h2)) h1
        replace td : ∀ (i : Nat) x, es[i]? = some x → TW P k e x := fun i x hx => ⟨td i x hx, fun y hy => tw y (by simp only [DataW.weights, hu, List.mem_cons, List.mem_append]; exact .inr (.inl (mem_weightsAll hx hy)))⟩
        obtain ⟨c, h1, xs, e1, r1, k1, n1, l1, p1⟩ := absL_reads ha hc es h r td
        obtain ⟨r', k'⟩ := r1.push (.row c e true)
        refine ⟨[.slice (some (h1.n, 0, sz)) es.length es.length], h1.push ⟨.row c e true, .ro, []⟩, xs, ?_, r', k1.trans k', ⟨_, c, rfl, ?_, by omega, fun i x hx => ha.1 k' (p1 i x hx)⟩, ht.symm⟩
        · simp only [absD, hu, hc, if_neg (show ¬ sz = 0 by omega)]
          split
          · exact absurd ⟨rfl, rfl⟩ h0
          · simp only [e1, l1, if_true]
        · rw [n1]
          refine ⟨_, _, rfl, l1, Nat.le_refl _, hs, .inr (.inr ⟨h1.n, 0, rfl, ⟨c, e, true, [], by simp, by simp, by simp⟩, .inl rfl⟩)⟩

/-- Fields one behind another. -/
def AbsF (P : Program) (H : Type) (k : Nat) (off : Nat) (fs : List Field) (R : Rep α) : Prop :=
  (∀ {h h' : AH} {c : List AVal} {x : α} {S : Nat → Prop}, Ke S h h' → R h c x → R h' c x) ∧
  ∀ (ds : List (DataW H)) (h : AH), Ro h → ds.length = fs.length → (∀ (i : Nat) f x, fs[i]? = some f → ds[i]? = some x → TW P k f.type x) →
    ∃ c h' x, absF P (absD P k) off fs ds h = some (c, h') ∧ Ro h' ∧ Kp h h' ∧ R h' c x
theorem absF_nil {off : Nat} : AbsF P H k off [] rUnit := by
  refine ⟨fun _ r => r, fun ds h r hl _ => ?_⟩
  have : ds = [] := List.eq_nil_of_length_eq_zero (by simpa using hl)
  subst this
  exact ⟨[], h, (), rfl, r, Ke.refl r.w, rfl⟩
theorem absF_cons {off n : Nat} {f : Field} {fs : List Field} {R : Rep α} {S : Rep β} (ho : f.offset = off) (hc : P.cellsOf f.type = n) (ha : Abs P H k f.type R) (hf : AbsF P H k (off + n) fs S) : AbsF P H k off (f :: fs) (rCons n R S) := by
  refine ⟨fun ke r => ⟨ha.1 ke r.1, hf.1 ke r.2⟩, fun ds h r hl td => ?_⟩
  cases ds with
  | nil => simp at hl
  | cons d ds =>
    obtain ⟨c1, h1, x1, e1, r1, k1, p1, l1⟩ := ha.2 d h r (td 0 f d rfl rfl)
    rw [hc] at l1
    obtain ⟨c2, h2, x2, e2, r2, k2, p2⟩ := hf.2 ds h1 r1 (by simpa using hl) (fun i f x hf hx => td (i + 1) f x (by simpa using hf) (by simpa using hx))
    rw [← l1] at e2
    refine ⟨c1 ++ c2, h2, (x1, x2), by simp only [absF, ho, if_true, e1, l1, hc, l1 ▸ e2], r2, k1.trans k2, ?_, ?_⟩
    · rw [List.take_left' l1]; exact ha.1 k2 p1
    · rw [List.drop_left' l1]; exact p2
theorem abs_struct {fs : Array Field} {R : Rep α} (hu : P.underlying t = some (.struct fs)) (hf : AbsF P H k 0 fs.toList R) (hc : ∀ (ds : List (DataW H)) (h h' : AH) (c : List AVal), absF P (absD P k) 0 fs.toList ds h = some (c, h') → c.length = P.cellsOf t) : Abs P H (k + 1) t R := by
  refine ⟨hf.1, fun d h r td => ?_⟩
  obtain ⟨td, tw⟩ := td
  simp only [TD, hu] at td
  obtain ⟨ps, rfl, hl, td⟩ := td
  replace td : ∀ (i : Nat) f x, fs[i]? = some f → ps[i]? = some x → TW P k f.type x := fun i f x hf hx => ⟨td i f x hf hx, fun y hy => tw y (by
    simp only [DataW.weights, hu]
    exact mem_weightsEach (i := i) (by rw [List.getElem?_map, Array.getElem?_toList, hf]; rfl) hx hy)⟩
  obtain ⟨c, h', x, e, r', k', p⟩ := hf.2 ps h r (by simpa using hl) (fun i f x hf hx => td i f x (by simpa using hf) hx)
  have := hc _ _ _ _ e
  exact ⟨c, h', x, by simp only [absD, hu, e, this, if_true], r', k', p, this⟩
/-- The cells of fields, how many. -/
theorem absF_length {f : TypeId → DataW H → AH → Option (List AVal × AH)} : ∀ (fs : List Field) (off : Nat) (ds : List (DataW H)) (h h' : AH) (c : List AVal), absF P f off fs ds h = some (c, h') → c.length = (fs.map fun fl => P.cellsOf fl.type).sum
  | [], _, [], h, h', c, e => by simp only [absF, Option.some.injEq, Prod.mk.injEq] at e; rw [← e.1]; rfl
  | [], _, _ :: _, h, h', c, e => by simp [absF] at e
  | _ :: _, _, [], h, h', c, e => by simp [absF] at e
  | fl :: fs, off, d :: ds, h, h', c, e => by
      simp only [absF] at e
      split at e
      · split at e
        · split at e
          · rename_i c1 h1 e1 hl
            split at e
            · rename_i r h2 e2
              simp only [Option.some.injEq, Prod.mk.injEq] at e
              have := absF_length fs _ ds _ _ _ e2
              rw [← e.1, List.length_append, this, hl]
              simp
            · cases e
          · cases e
        · cases e
      · cases e
theorem abs_struct' {fs : Array Field} {R : Rep α} (hu : P.underlying t = some (.struct fs)) (hc : (fs.toList.map fun fl => P.cellsOf fl.type).sum = P.cellsOf t) (hf : AbsF P H k 0 fs.toList R) : Abs P H (k + 1) t R :=
  abs_struct hu hf fun ds h h' c e => (absF_length _ _ _ _ _ _ e).trans hc

/-! ### Arguments, one behind another -/
def TWs (P : Program) : List TypeId → List (DataW H) → Prop
  | [], [] => True
  | t :: ts, d :: ds => TW P 20 t d ∧ TWs P ts ds
  | _, _ => False
theorem tws_of : ∀ {ts : List TypeId} {ds : List (DataW H)}, TDs P 20 ts ds → (∀ x ∈ DataW.weightsEach P ts ds, x ≤ reachBytes) → TWs P ts ds
  | [], [], _, _ => trivial
  | t :: ts, d :: ds, h, w => ⟨⟨h.1, fun x hx => w x (by simp only [DataW.weightsEach, List.mem_append]; exact .inl hx)⟩, tws_of h.2 fun x hx => w x (by simp only [DataW.weightsEach, List.mem_append]; exact .inr hx)⟩
  | [], _ :: _, h, _ => h.elim
  | _ :: _, [], h, _ => h.elim
def AbsAs (P : Program) (H : Type) (ts : List TypeId) (R : AH → List AVal → α → Prop) : Prop :=
  (∀ {h h' : AH} {c : List AVal} {x : α} {S : Nat → Prop}, Ke S h h' → R h c x → R h' c x) ∧
  ∀ (ds : List (DataW H)) (h : AH), Ro h → TWs P ts ds → ∃ as h' x, absA P ts ds h = some (as, h') ∧ Ro h' ∧ Kp h h' ∧ R h' as x
theorem absAs_nil : AbsAs P H [] (fun _ as (_ : Unit) => as = []) := by
  refine ⟨fun _ r => r, fun ds h r td => ?_⟩
  cases ds with
  | nil => exact ⟨[], h, (), rfl, r, Ke.refl r.w, rfl⟩
  | cons d ds => exact td.elim
theorem absAs_cons {ts : List TypeId} {R : Rep α} {S : AH → List AVal → β → Prop} (ha : Abs P H 20 t R) (hs : AbsAs P H ts S) :
    AbsAs P H (t :: ts) (fun h as (x : α × β) => ∃ c r, as = absV P t c :: r ∧ R h c x.1 ∧ S h r x.2) := by
  refine ⟨fun ke r => ?_, fun ds h r td => ?_⟩
  · obtain ⟨c, r, rfl, h1, h2⟩ := r
    exact ⟨c, r, rfl, ha.1 ke h1, hs.1 ke h2⟩
  · cases ds with
    | nil => exact td.elim
    | cons d ds =>
      obtain ⟨c, h1, x, e1, r1, k1, p1, _⟩ := ha.2 d h r td.1
      obtain ⟨as, h2, y, e2, r2, k2, p2⟩ := hs.2 ds h1 r1 td.2
      exact ⟨_, h2, (x, y), by simp only [absA, e1, e2], r2, k1.trans k2, c, as, rfl, ha.1 k2 p1, p2⟩
/-- An argument of one cell. -/
theorem absV_one {a : AVal} (h : aggT P t ≠ some true) : absV P t [a] = a := by
  unfold absV
  split
  · rename_i e; exact absurd e h
  · rfl
theorem absV_agg {c : List AVal} (h : aggT P t = some true) : absV P t c = .agg c := by unfold absV; rw [h]

/-! ### What they come to -/
theorem take_drop_one {l : List AVal} {i : Nat} (h : i < l.length) : (l.drop (i * 1)).take 1 = [l[i]] := by
  rw [Nat.mul_one, List.drop_eq_getElem_cons h]; rfl
/-- A slice of single cells. -/
theorem rSl_map {R : Rep α} {f : α → AVal} (hR : ∀ {h : AH} {c : List AVal} {x : α}, R h c x → c = [f x]) {h : AH} {c : List AVal} {xs : List α} (r : rSl R 1 h c xs) : ∃ v, c = [v] ∧ Sz h v 1 xs.length (xs.map f) .ro := by
  obtain ⟨v, cs, rfl, s, hl, p⟩ := r
  have hlen := s.clen
  refine ⟨v, rfl, s.to ?_ rfl⟩
  apply List.ext_getElem?
  intro i
  by_cases hi : i < xs.length
  · have h1 := hR (p i xs[i] (List.getElem?_eq_getElem hi))
    rw [take_drop_one (by omega)] at h1
    simp only [List.cons.injEq, and_true] at h1
    rw [List.getElem?_eq_getElem (by omega), h1]
    simp [hi]
  · rw [List.getElem?_eq_none (by omega), List.getElem?_eq_none (by simp; omega)]
theorem rSl_bytes {h : AH} {c : List AVal} {l : List UInt8} (r : rSl rU8 1 h c l) : ∃ v, c = [v] ∧ Bs h v l .ro ∧ l.length ≤ reachBytes := by
  have hl : l.length ≤ reachBytes := by obtain ⟨_, _, _, _, hl, _⟩ := r; exact hl
  obtain ⟨v, e, s⟩ := rSl_map (f := fun b : UInt8 => AVal.int .u8 b.toNat) (fun r => r) r
  exact ⟨v, e, s, hl⟩
end Go.Proofs.Ytfppdfmffdkogaa.AI
