/- Lib, Lib2 of the machine, joined. -/
import Derived.Test.YtfppdfmffdkogaaAiWp
namespace Go.Proofs.Ytfppdfmffdkogaa.AI
open Go
set_option linter.unusedSimpArgs false
set_option linter.unusedVariables false

/-! ### Heaps -/
/-- No block from the end on; elder versions of a slice are never written. -/
structure Wf (h : AH) : Prop where
  lt : ∀ i b, h.get i = some b → i < h.n
  par : ∀ i b, h.get i = some b → ∀ j ∈ b.par, ∃ b', h.get j = some b' ∧ b'.mode ≠ .rw ∧ b'.mode ≠ .ro
/-- What may be read is as it was, but for the blocks of S. -/
structure Ke (S : Nat → Prop) (h h' : AH) : Prop where
  w : Wf h
  w' : Wf h'
  n : h.n ≤ h'.n
  get : ∀ i b, h.get i = some b → (b.mode = .ro ∨ b.mode = .rw ∧ ¬ S i) → h'.get i = some b
abbrev Kp (h h' : AH) : Prop := Ke (fun _ => False) h h'
theorem Ke.refl {S : Nat → Prop} {h : AH} (w : Wf h) : Ke S h h := ⟨w, w, Nat.le_refl _, fun _ _ e _ => e⟩
theorem Ke.mono {S T : Nat → Prop} {h h' : AH} (k : Ke S h h') (m : ∀ i, S i → T i) : Ke T h h' :=
  ⟨k.w, k.w', k.n, fun i b e c => k.get i b e (c.imp id fun x => ⟨x.1, fun s => x.2 (m i s)⟩)⟩
theorem Kp.ke {S : Nat → Prop} {h h' : AH} (k : Kp h h') : Ke S h h' := k.mono fun _ f => f.elim
theorem Ke.trans {S : Nat → Prop} {a b c : AH} (h : Ke S a b) (k : Ke S b c) : Ke S a c :=
  ⟨h.w, k.w', Nat.le_trans h.n k.n, fun i x e m => k.get i x (h.get i x e m) m⟩
/-- What is turned besides is new. -/
theorem Ke.new {S T : Nat → Prop} {a b c : AH} (h : Ke S a b) (k : Ke T b c) (m : ∀ i, T i → S i ∨ a.n ≤ i) : Ke S a c :=
  ⟨h.w, k.w', Nat.le_trans h.n k.n, fun i x e y => k.get i x (h.get i x e y) (y.imp id fun z => ⟨z.1, fun t => by
    rcases m i t with s | l
    · exact z.2 s
    · have := h.w.lt i x e; omega⟩)⟩
theorem Ke.new_p {T : Nat → Prop} {a b c : AH} (h : Kp a b) (k : Ke T b c) (m : ∀ i, T i → a.n ≤ i) : Kp a c := Ke.new h k fun i t => .inr (m i t)
theorem Ke.getP {S : Nat → Prop} {h h' : AH} (k : Ke S h h') {i : Nat} {b : ABlk} (e : h.get i = some b) (hm : b.mode = .rw) (hS : ¬ S i) : h'.get i = some b := k.get i b e (.inr ⟨hm, hS⟩)
theorem Kp.gt {h h' : AH} (k : Kp h h') {i : Nat} {o : AObj} {p : List Nat} (e : h.get i = some ⟨o, .rw, p⟩) : h'.get i = some ⟨o, .rw, p⟩ := k.get i _ e (.inr ⟨rfl, id⟩)
theorem Ke.gt {S : Nat → Prop} {h h' : AH} (k : Ke S h h') {i : Nat} {o : AObj} {p : List Nat} (e : h.get i = some ⟨o, .rw, p⟩) (hS : ¬ S i) : h'.get i = some ⟨o, .rw, p⟩ := k.get i _ e (.inr ⟨rfl, hS⟩)
theorem Wf.no {h : AH} (w : Wf h) : h.get h.n = none := by
  cases e : h.get h.n with
  | none => rfl
  | some b => exact absurd (w.lt _ _ e) (Nat.lt_irrefl _)

theorem Wf.push {h : AH} (w : Wf h) {b : ABlk} (hp : ∀ j ∈ b.par, ∃ b', h.get j = some b' ∧ b'.mode ≠ .rw ∧ b'.mode ≠ .ro) : Wf (h.push b) := by
  constructor
  · intro i x e
    rw [AH.get_push] at e
    simp only [AH.n_push]
    split at e
    · omega
    · have := w.lt i x e; omega
  · intro i x e j hj
    rw [AH.get_push] at e
    rw [AH.get_push]
    have key : ∀ b', h.get j = some b' → ¬ j = h.n := fun b' e' => by have := w.lt _ _ e'; omega
    split at e
    · simp only [Option.some.injEq] at e
      subst e
      obtain ⟨b', e', m⟩ := hp j hj
      exact ⟨b', by rw [if_neg (key _ e')]; exact e', m⟩
    · obtain ⟨b', e', m⟩ := w.par i x e j hj
      exact ⟨b', by rw [if_neg (key _ e')]; exact e', m⟩
theorem Kp.push {h : AH} (w : Wf h) {b : ABlk} (hp : ∀ j ∈ b.par, ∃ b', h.get j = some b' ∧ b'.mode ≠ .rw ∧ b'.mode ≠ .ro) : Kp h (h.push b) :=
  ⟨w, w.push hp, by simp, fun i x e _ => by rw [AH.get_push, if_neg (by have := w.lt i x e; omega)]; exact e⟩
theorem Kp.push0 {h : AH} (w : Wf h) (o : AObj) (m : AMode) : Kp h (h.push ⟨o, m, []⟩) := Kp.push w (by simp)
theorem Wf.set {h : AH} (w : Wf h) {i : Nat} {b b' : ABlk} (e : h.get i = some b) (hp : ∀ j ∈ b'.par, ∃ x, h.get j = some x ∧ x.mode ≠ .rw ∧ x.mode ≠ .ro) (hm : b.mode = .rw ∨ b.mode = .ro ∨ (b'.mode ≠ .rw ∧ b'.mode ≠ .ro)) : Wf (h.set i b') := by
  have key : ∀ j x, h.get j = some x → x.mode ≠ .rw → x.mode ≠ .ro → ∃ y, (h.set i b').get j = some y ∧ y.mode ≠ .rw ∧ y.mode ≠ .ro := by
    intro j x hx h1 h2
    rw [AH.get_set]
    by_cases c : j = i
    · subst c
      rw [hx] at e
      simp only [Option.some.injEq] at e
      subst e
      rw [if_pos rfl]
      rcases hm with hm | hm | hm
      · exact absurd hm h1
      · exact absurd hm h2
      · exact ⟨_, rfl, hm⟩
    · rw [if_neg c]; exact ⟨x, hx, h1, h2⟩
  constructor
  · intro j x hj
    rw [AH.get_set] at hj
    simp only [AH.n_set]
    split at hj
    · rename_i c; subst c; exact w.lt _ _ e
    · exact w.lt _ _ hj
  · intro j x hj k hk
    rw [AH.get_set] at hj
    split at hj
    · simp only [Option.some.injEq] at hj
      subst hj
      obtain ⟨y, h1, h2, h3⟩ := hp k hk
      exact key k y h1 h2 h3
    · obtain ⟨y, h1, h2, h3⟩ := w.par j x hj k hk
      exact key k y h1 h2 h3
theorem kill1_get (h : AH) (p i : Nat) : (h.kill1 p).get i = if i = p then (h.get p).map fun b => { b with mode := .dead } else h.get i := by
  unfold AH.kill1
  split
  · rename_i b e
    rw [AH.get_set]
    split
    · simp [e]
    · rfl
  · rename_i e
    split
    · rename_i c; subst c; simp [e]
    · rfl
@[simp] theorem kill1_n (h : AH) (p : Nat) : (h.kill1 p).n = h.n := by unfold AH.kill1; split <;> rfl
theorem Ke.kill1 {h : AH} (w : Wf h) {p : Nat} {b : ABlk} (e : h.get p = some b) (h1 : b.mode ≠ .rw) (h2 : b.mode ≠ .ro) : Kp h (h.kill1 p) := by
  have w' : Wf (h.kill1 p) := by
    unfold AH.kill1
    rw [e]
    exact w.set e (b' := { b with mode := .dead }) (fun j hj => w.par _ _ e j hj) (.inr (.inr ⟨by simp, by simp⟩))
  refine ⟨w, w', by simp, fun i x hx hm => ?_⟩
  rw [kill1_get]
  split
  · rename_i c
    subst c
    rw [hx] at e
    simp only [Option.some.injEq] at e
    subst e
    rcases hm with hm | hm
    · exact absurd hm h2
    · exact absurd hm.1 h1
  · exact hx
theorem kill_get_ne : ∀ (ps : List Nat) (h : AH) (i : Nat), i ∉ ps → (h.kill ps).get i = h.get i
  | [], h, i, _ => rfl
  | p :: ps, h, i, hi => by
      have := kill_get_ne ps (h.kill1 p) i (fun hm => hi (by simp [hm]))
      unfold AH.kill at this ⊢
      simp only [List.foldl_cons]
      rw [this, kill1_get, if_neg (fun c => hi (by simp [c]))]
theorem Ke.kill : ∀ (ps : List Nat) {h : AH} (w : Wf h), (∀ j ∈ ps, ∃ b', h.get j = some b' ∧ b'.mode ≠ .rw ∧ b'.mode ≠ .ro) → Kp h (h.kill ps)
  | [], h, w, _ => Ke.refl w
  | p :: ps, h, w, hp => by
      obtain ⟨b, e, h1, h2⟩ := hp p (by simp)
      have k := Ke.kill1 w e h1 h2
      have := Ke.kill ps k.w' (fun j hj => by
        obtain ⟨b', e', m⟩ := hp j (by simp [hj])
        rw [kill1_get]
        split
        · rename_i c; subst c; exact ⟨{ b' with mode := .dead }, by rw [e']; rfl, by simp, by simp⟩
        · exact ⟨b', e', m⟩)
      unfold AH.kill at this ⊢
      simp only [List.foldl_cons]
      exact k.trans this
theorem kill_n : ∀ (ps : List Nat) (h : AH), (h.kill ps).n = h.n
  | [], _ => rfl
  | p :: ps, h => by
      have := kill_n ps (h.kill1 p)
      unfold AH.kill at this ⊢
      simp only [List.foldl_cons]
      rw [this, kill1_n]
/-- A block of its own that is written. -/
theorem Ke.set {h : AH} (w : Wf h) {i : Nat} {o o' : AObj} {p : List Nat} (e : h.get i = some ⟨o, .rw, p⟩) : Ke (· = i) h (h.set i ⟨o', .rw, []⟩) :=
  ⟨w, w.set e (by simp) (.inl rfl), by simp, fun j b hj hm => by
    rw [AH.get_set]
    split
    · rename_i c
      subst c
      rw [hj] at e
      simp only [Option.some.injEq] at e
      subst e
      rcases hm with hm | hm
      · cases hm
      · exact absurd rfl hm.2
    · exact hj⟩
theorem write_own {h : AH} (w : Wf h) {i off : Nat} {cs vs : List AVal} {e : TypeId} {o : Bool} {p : List Nat} (g : h.get i = some ⟨.row cs e o, .rw, p⟩) (hl : off + vs.length ≤ cs.length) (hc : vs.all AVal.isCell = true) :
    ∃ h', h.write i off vs = some h' ∧ h'.get i = some ⟨.row (splice cs off vs) e o, .rw, []⟩ ∧ Ke (· = i) h h' ∧ h'.n = h.n := by
  refine ⟨_, by unfold AH.write; rw [g]; simp only [hl, hc, and_self, if_true]; rfl, by simp, ?_, by simp [kill_n]⟩
  have hpar := w.par _ _ g
  have k := Ke.kill p w hpar
  have g' : (h.kill p).get i = some ⟨.row cs e o, .rw, p⟩ := k.gt g
  exact (Kp.ke k).trans (Ke.set k.w' g')

/-! ### Boxes -/
theorem row_rw {h : AH} {i : Nat} {cs : List AVal} {e : TypeId} {o : Bool} {p : List Nat} (g : h.get i = some ⟨.row cs e o, .rw, p⟩) : h.row i = some cs := by unfold AH.row; rw [g]; rfl
theorem row_ro {h : AH} {i : Nat} {cs : List AVal} {e : TypeId} {o : Bool} {p : List Nat} (g : h.get i = some ⟨.row cs e o, .ro, p⟩) : h.row i = some cs := by unfold AH.row; rw [g]; rfl
theorem rLoad_ptr (h : AH) (i k : Nat) : rLoad (.ptr (some (i, k))) h = (h.row i).bind (·[k]?) := rfl
theorem rLoadA_ptr (n : Nat) (h : AH) (i k : Nat) : rLoadA n (.ptr (some (i, k))) h = (h.row i).bind fun cs => if k + n ≤ cs.length then some (.agg ((cs.drop k).take n)) else none := rfl
theorem cells_of {v : AVal} (h : v.isCell = true) : v.cells = some [v] := by cases v <;> first | rfl | cases h
theorem cells_int (k : IntKind) (n : Int) : (AVal.int k n).cells = some [.int k n] := rfl
theorem cells_bool (b : Bool) : (AVal.bool b).cells = some [.bool b] := rfl
theorem cells_str (b : List UInt8) : (AVal.str b).cells = some [.str b] := rfl
theorem cells_slice (a : Option (Nat × Nat × Nat)) (n c : Nat) : (AVal.slice a n c).cells = some [.slice a n c] := rfl
theorem cells_ptr (a : Option (Nat × Nat)) : (AVal.ptr a).cells = some [.ptr a] := rfl
theorem cells_agg (l : List AVal) : (AVal.agg l).cells = some l := rfl
theorem rBuild_def (z : List AVal) (pl : List (Nat × Nat)) (ps : List (Nat × AVal)) : rBuild z pl ps = (aFill (fun i => pl[i]?) z ps).map .agg := rfl
theorem rBuildA_def (z : List AVal) (n : Nat) (ps : List (Nat × AVal)) : rBuildA z n ps = (aFill (fun i => some (i * n, n)) z ps).map .agg := rfl
theorem aFill_nil (p : Nat → Option (Nat × Nat)) (cs : List AVal) : aFill p cs [] = some cs := rfl
theorem aFill_cons (p : Nat → Option (Nat × Nat)) (cs : List AVal) (i : Nat) (v : AVal) (r : List (Nat × AVal)) : aFill p cs ((i, v) :: r) = match p i, v.cells with
    | some (off, size), some vs => if vs.length = size ∧ off + vs.length ≤ cs.length then aFill p (splice cs off vs) r else none
    | _, _ => none := rfl
theorem aExtract_cons (a : AVal) (l : List AVal) (i : Nat) : aExtract (.tuple (a :: l)) i = (a :: l)[i]? := rfl
theorem ic :
    (∀ (k : IntKind) (n : Int), (AVal.int k n).isCell = true) ∧ (∀ b : Bool, (AVal.bool b).isCell = true) ∧ (∀ b : List UInt8, (AVal.str b).isCell = true) ∧ (∀ (a : Option (Nat × Nat × Nat)) (n c : Nat), (AVal.slice a n c).isCell = true) ∧
    (∀ a : Option (Nat × Nat), (AVal.ptr a).isCell = true) ∧ (∀ (a : AVal) (l : List AVal), (a :: l).all AVal.isCell = (a.isCell && l.all AVal.isCell)) ∧ ([] : List AVal).all AVal.isCell = true ∧ (∀ b : Bool, (b && true) = b) ∧ (∀ b : Bool, (true && b) = b) ∧
    AVal.nilIface.isCell = true ∧ AVal.nilFunc.isCell = true ∧ (∀ (t : TypeId) (v : AVal), (AVal.iface t v).isCell = true) ∧ (∀ (f : Fn) (a b : List AVal), (AVal.func f a b).isCell = true) :=
  ⟨fun _ _ => rfl, fun _ => rfl, fun _ => rfl, fun _ _ _ => rfl, fun _ => rfl, fun _ _ => rfl, rfl, Bool.and_true, Bool.true_and, rfl, rfl, fun _ _ => rfl, fun _ _ _ => rfl⟩
/-- A new box. -/
theorem wp_box {Q : AVal → AH → Prop} {e : TypeId} {v : AVal} {cs : List AVal} {h : AH} {K : AVal → AH → Ans} (w : Wf h) (hv : v.cells = some cs) (hc : cs.all AVal.isCell = true)
    (k : ∀ (p : Nat) (h1 : AH), p = h.n → Kp h h1 → h1.n = h.n + 1 → h1.get p = some ⟨.row cs e false, .rw, []⟩ → Wp (K (.ptr (some (p, 0))) h1) Q) : Wp (km (pBox e v) h K) Q := by
  have : pBox e v = some (⟨.row cs e false, .rw, []⟩, fun i => .ptr (some (i, 0))) := by
    simp only [pBox, hv, Option.bind_some, rowPlan, hc, if_true]
  rw [this]
  exact k h.n _ rfl (Kp.push0 w _ _) (by simp) (by simp)
/-- A slice, built. -/
theorem wp_buildSl {Q : AVal → AH → Prop} {e : TypeId} {sz len : Nat} {z cs : List AVal} {parts : List (Nat × AVal)} {h : AH} {K : AVal → AH → Ans} (w : Wf h) (hl : len * sz ≤ 2 ^ 24 ∧ z.length = sz ∧ 0 < sz)
    (hcs : aFill (fun i => some (i * sz, sz)) (manyT len z) parts = some cs) (hc : cs.all AVal.isCell = true)
    (k : ∀ (p : Nat) (h1 : AH), p = h.n → Kp h h1 → h1.n = h.n + 1 → h1.get p = some ⟨.row cs e false, .rw, []⟩ → Wp (K (.slice (some (p, 0, sz)) len len) h1) Q) : Wp (km (mBuildSl e sz z len parts) h K) Q := by
  have : mBuildSl e sz z len parts = some (⟨.row cs e false, .rw, []⟩, fun i => .slice (some (i, 0, sz)) len len) := by
    unfold mBuildSl
    rw [if_pos hl, hcs]
    simp only [Option.bind_some, rowPlan, hc, if_true]
  rw [this]
  exact k h.n _ rfl (Kp.push0 w _ _) (by simp) (by simp)
/-- A slice, made of zeros. -/
theorem wp_makeSl {Q : AVal → AH → Prop} {e : TypeId} {sz by_ : Nat} {z : List AVal} {q r : IntKind} {l c : Int} {h : AH} {K : AVal → AH → Ans} (w : Wf h) (h0 : 0 ≤ l) (h1 : l ≤ c) (h2 : c < 2 ^ 48) (h3 : by_ * c ≤ 2 ^ 48) (hz : z.length = sz) (hs : 0 < sz) (hc : z.all AVal.isCell = true)
    (k : ∀ (p : Nat) (h1 : AH), p = h.n → Kp h h1 → h1.n = h.n + 1 → h1.get p = some ⟨.row (manyT c.toNat z) e false, .rw, []⟩ → Wp (K (.slice (some (p, 0, sz)) l.toNat c.toNat) h1) Q) : Wp (km (mMakeSl e sz by_ z (.int q l) (.int r c)) h K) Q := by
  have hall : (manyT c.toNat z).all AVal.isCell = true := by
    rw [List.all_eq_true] at hc ⊢
    intro x hx
    simp only [manyT, List.mem_flatten, List.mem_replicate] at hx
    obtain ⟨l, ⟨_, rfl⟩, hx⟩ := hx
    exact hc x hx
  have : mMakeSl e sz by_ z (.int q l) (.int r c) = some (⟨.row (manyT c.toNat z) e false, .rw, []⟩, fun i => .slice (some (i, 0, sz)) l.toNat c.toNat) := by
    unfold mMakeSl
    simp only
    rw [if_pos ⟨h0, h1, h2, h3, hz, hs⟩]
    simp only [rowPlan, hall, if_true]
  rw [this]
  exact k h.n _ rfl (Kp.push0 w _ _) (by simp) (by simp)
/-- A store into cells of its own. -/
theorem wp_store {Q : AVal → AH → Prop} {i off n : Nat} {v : AVal} {cs vs : List AVal} {e : TypeId} {o : Bool} {p : List Nat} {h : AH} {K : AVal → AH → Ans} (w : Wf h)
    (g : h.get i = some ⟨.row cs e o, .rw, p⟩) (hv : v.cells = some vs) (hn : vs.length = n) (hl : off + n ≤ cs.length) (hc : vs.all AVal.isCell = true)
    (k : ∀ h1, Ke (· = i) h h1 → h1.n = h.n → h1.get i = some ⟨.row (splice cs off vs) e o, .rw, []⟩ → Wp (K (.tuple []) h1) Q) :
    Wp (ke ((rStore n (.ptr (some (i, off))) v h).map fun h' => (.tuple [], h')) K) Q := by
  subst hn
  obtain ⟨h', e1, e2, e3, e4⟩ := write_own w g hl hc
  have : rStore vs.length (.ptr (some (i, off))) v h = some h' := by
    unfold rStore
    simp only [hv, if_true, e1]
  rw [this]
  exact k h' e3 e4 e2

/-! ### Slices -/
/-- Cells of a block that may be read. -/
structure Rd (h : AH) (i off : Nat) (c : List AVal) (md : AMode) : Prop where
  ex : ∃ cs e o p, h.get i = some ⟨.row cs e o, md, p⟩ ∧ off + c.length ≤ cs.length ∧ (cs.drop off).take c.length = c
  md : md = .ro ∨ md = .rw
theorem Rd.row {h : AH} {i off : Nat} {c : List AVal} {md : AMode} (r : Rd h i off c md) : ∃ cs, h.row i = some cs ∧ off + c.length ≤ cs.length ∧ (cs.drop off).take c.length = c := by
  obtain ⟨⟨cs, e, o, p, g, h1, h2⟩, hm⟩ := r
  refine ⟨cs, ?_, h1, h2⟩
  rcases hm with rfl | rfl
  · exact row_ro g
  · exact row_rw g
theorem Rd.ke {S : Nat → Prop} {h h' : AH} {i off : Nat} {c : List AVal} {md : AMode} (r : Rd h i off c md) (k : Ke S h h') (hS : md = .ro ∨ ¬ S i) : Rd h' i off c md := by
  obtain ⟨⟨cs, e, o, p, g, h1, h2⟩, hm⟩ := r
  refine ⟨⟨cs, e, o, p, k.get _ _ g ?_, h1, h2⟩, hm⟩
  rcases hm with rfl | rfl
  · exact .inl rfl
  · exact .inr ⟨rfl, by rcases hS with hS | hS; cases hS; exact hS⟩
theorem Rd.read {h : AH} {i off : Nat} {c : List AVal} {md : AMode} (r : Rd h i off c md) : h.read i off c.length = some c := by
  obtain ⟨cs, e, h1, h2⟩ := r.row
  unfold AH.read
  simp only [e, Option.bind_some, h1, if_true, h2]
theorem Rd.get {h : AH} {i off : Nat} {c : List AVal} {md : AMode} (r : Rd h i off c md) {j : Nat} (hj : j < c.length) : rLoad (.ptr (some (i, off + j))) h = c[j]? := by
  obtain ⟨cs, e, h1, h2⟩ := r.row
  simp only [rLoad_ptr, e, Option.bind_some]
  rw [← h2, List.getElem?_take_of_lt hj, List.getElem?_drop]
theorem Rd.getA {h : AH} {i off : Nat} {c : List AVal} {md : AMode} (r : Rd h i off c md) {j n : Nat} (hj : j + n ≤ c.length) : rLoadA n (.ptr (some (i, off + j))) h = some (.agg ((c.drop j).take n)) := by
  obtain ⟨cs, e, h1, h2⟩ := r.row
  simp only [rLoadA_ptr, e, Option.bind_some]
  rw [if_pos (by omega), ← h2, List.drop_take, List.drop_drop, List.take_take, Nat.min_eq_left (by omega)]
theorem Rd.sub {h : AH} {i off : Nat} {c : List AVal} {md : AMode} (r : Rd h i off c md) (a b : Nat) (hab : a ≤ b) (hb : b ≤ c.length) : Rd h i (off + a) ((c.take b).drop a) md := by
  obtain ⟨⟨cs, e, o, p, g, h1, h2⟩, hm⟩ := r
  have hl : ((c.take b).drop a).length = b - a := by simp; omega
  refine ⟨⟨cs, e, o, p, g, by rw [hl]; omega, ?_⟩, hm⟩
  rw [hl]
  conv => rhs; rw [← h2]
  rw [List.take_take, Nat.min_eq_left hb, List.drop_take, List.drop_drop]

/-- The block, the first cell of a slice. -/
def bk : AVal → Nat
  | .slice (some (i, _, _)) _ _ => i
  | _ => 0
def ofs : AVal → Nat
  | .slice (some (_, o, _)) _ _ => o
  | _ => 0
/-- The address of a slice's cell. -/
def ea (v : AVal) (j : Nat) : AVal := .ptr (some (bk v, ofs v + j))
theorem rFieldP_ea (k : Nat) (v : AVal) (j : Nat) : rFieldP k (ea v j) = some (ea v (j + k)) := by simp [rFieldP, ea, Nat.add_assoc]

/-- The slice has n elements of sz cells, and reads as c; what may be done with its block. -/
def Sz (h : AH) (v : AVal) (sz n : Nat) (c : List AVal) (md : AMode) : Prop :=
  ∃ a cap, v = .slice a n cap ∧ c.length = n * sz ∧ n ≤ cap ∧ 0 < sz ∧ ((a = none ∧ n = 0 ∧ cap = 0) ∨ (∃ i off, a = some (i, off, 0) ∧ n = 0 ∧ cap = 0) ∨ ∃ i off, a = some (i, off, sz) ∧ Rd h i off c md)
/-- Of single cells. -/
abbrev Sl (h : AH) (v : AVal) (c : List AVal) (md : AMode) : Prop := Sz h v 1 c.length c md
variable {h : AH} {v : AVal} {sz n : Nat} {c : List AVal} {md : AMode}
theorem Sz.len (s : Sz h v sz n c md) : rLen v = some (.int .i64 n) := by
  obtain ⟨a, cap, rfl, _⟩ := s; rfl
theorem Sz.isCell (s : Sz h v sz n c md) : v.isCell = true := by
  obtain ⟨a, cap, rfl, _⟩ := s; rfl
theorem Sz.clen (s : Sz h v sz n c md) : c.length = n * sz := by
  obtain ⟨a, cap, rfl, h1, _⟩ := s; exact h1
theorem Sz.rd (s : Sz h v sz n c md) (hn : 0 < n) : Rd h (bk v) (ofs v) c md ∧ ∃ cap, v = .slice (some (bk v, ofs v, sz)) n cap := by
  obtain ⟨a, cap, rfl, h1, h2, h3, h4⟩ := s
  rcases h4 with ⟨_, h4, _⟩ | ⟨_, _, _, h4, _⟩ | ⟨i, off, rfl, r⟩
  · omega
  · omega
  · exact ⟨r, cap, rfl⟩
theorem Sz.at (s : Sz h v sz n c md) {k : IntKind} {i : Int} (h0 : 0 ≤ i) (h1 : i < n) : rAt sz v (.int k i) = some (ea v (i.toNat * sz)) := by
  obtain ⟨_, cap, e⟩ := s.rd (by omega)
  generalize bk v = b at e
  generalize ofs v = o at e
  subst e
  simp [rAt, h0, h1, ea, bk, ofs]
theorem Sz.pos (s : Sz h v sz n c md) (hc : 0 < c.length) : 0 < n := by
  have := s.clen
  rcases Nat.eq_zero_or_pos n with e | e
  · subst e; simp at this; subst this; simp at hc
  · exact e
theorem Sz.ld (s : Sz h v sz n c md) {j : Nat} (hj : j < c.length) : rLoad (ea v j) h = c[j]? := by
  have := s.clen
  have hn : 0 < n := s.pos (by omega)
  exact (s.rd hn).1.get hj
theorem Sz.ldA (s : Sz h v sz n c md) {j m : Nat} (hj : j + m ≤ c.length) (hm : 0 < m) : rLoadA m (ea v j) h = some (.agg ((c.drop j).take m)) := by
  have := s.clen
  have hn : 0 < n := s.pos (by omega)
  exact (s.rd hn).1.getA hj
theorem Sz.src (s : Sz h v sz n c md) : aSource sz v h = some (n, c) := by
  have hl := s.clen
  rcases Nat.eq_zero_or_pos n with e | e
  · subst e
    have : c = [] := List.eq_nil_of_length_eq_zero (by simpa using hl)
    subst this
    obtain ⟨a, cap, rfl, _⟩ := s
    rcases a with _ | ⟨i, off, z⟩ <;> rfl
  · obtain ⟨r, cap, e2⟩ := s.rd e
    generalize bk v = b at e2 r
    generalize ofs v = o at e2 r
    subst e2
    unfold aSource
    simp only [if_neg (show ¬ n = 0 by omega), if_true]
    rw [← hl, r.read]; rfl
theorem Sz.ke {S : Nat → Prop} {h' : AH} (s : Sz h v sz n c md) (k : Ke S h h') (hS : md = .ro ∨ ¬ S (bk v)) : Sz h' v sz n c md := by
  obtain ⟨a, cap, rfl, h1, h2, h3, h4⟩ := s
  refine ⟨a, cap, rfl, h1, h2, h3, ?_⟩
  rcases h4 with h4 | h4 | ⟨i, off, rfl, r⟩
  · exact .inl h4
  · exact .inr (.inl h4)
  · exact .inr (.inr ⟨i, off, rfl, r.ke k hS⟩)
theorem Sz.kp {h' : AH} (s : Sz h v sz n c md) (k : Kp h h') : Sz h' v sz n c md := s.ke k (.inr id)
theorem Sz.ro {S : Nat → Prop} {h' : AH} (s : Sz h v sz n c .ro) (k : Ke S h h') : Sz h' v sz n c .ro := s.ke k (.inl rfl)
theorem Sz.to {n' : Nat} {c' : List AVal} (s : Sz h v sz n c md) (hc : c = c') (hn : n = n') : Sz h v sz n' c' md := by subst hc hn; exact s
theorem Sz.nil (h : AH) (sz : Nat) (hz : 0 < sz) (md : AMode) : Sz h (.slice none 0 0) sz 0 [] md := ⟨none, 0, rfl, by simp, Nat.le_refl _, hz, .inl ⟨rfl, rfl, rfl⟩⟩
theorem aBound_none (d m : Nat) : aBound none d m = some d := rfl
theorem aBound_int {q : IntKind} {i : Int} {d m : Nat} (h0 : 0 ≤ i) (h1 : i ≤ m) : aBound (some (.int q i)) d m = some i.toNat := by simp [aBound, h0, h1]
/-- A cut. -/
theorem Sz.cut (s : Sz h v sz n c md) {lo hi mx : Option AVal} {a b : Nat} (hb : ∀ cap, n ≤ cap → ∃ m, aBound mx cap cap = some m ∧ aBound hi n m = some b ∧ b ≤ m ∧ m ≤ cap) (ha : aBound lo 0 b = some a) (hab : a ≤ b) (hbn : b ≤ n) :
    ∃ v', rCut sz v lo hi mx = some v' ∧ Sz h v' sz (b - a) ((c.take (b * sz)).drop (a * sz)) md ∧ (n = 0 ∨ bk v' = bk v) := by
  obtain ⟨x, cap, rfl, h1, h2, h3, h4⟩ := s
  have hlen : ((c.take (b * sz)).drop (a * sz)).length = (b - a) * sz := by
    have : b * sz ≤ n * sz := Nat.mul_le_mul_right _ hbn
    simp [Nat.sub_mul]; omega
  obtain ⟨m, e1, e2, e3, e4⟩ := hb cap h2
  unfold rCut
  simp only [e1, e2, ha, Option.bind_some]
  rcases h4 with ⟨rfl, rfl, rfl⟩ | ⟨i, off, rfl, rfl, rfl⟩ | ⟨i, off, rfl, r⟩
  · have hb0 : b = 0 := by omega
    have ha0 : a = 0 := by omega
    have hm0 : m = 0 := by omega
    have : c = [] := List.eq_nil_of_length_eq_zero (by simpa using h1)
    subst this hb0 ha0 hm0
    exact ⟨_, rfl, by simpa using Sz.nil h sz h3 md, .inl rfl⟩
  · have hb0 : b = 0 := by omega
    have ha0 : a = 0 := by omega
    have hm0 : m = 0 := by omega
    have : c = [] := List.eq_nil_of_length_eq_zero (by simpa using h1)
    subst this hb0 ha0 hm0
    exact ⟨.slice (some (i, off, 0)) 0 0, by simp, ⟨_, _, rfl, by simp, Nat.le_refl _, h3, .inr (.inl ⟨_, _, rfl, rfl, rfl⟩)⟩, .inl rfl⟩
  · simp only
    rw [if_neg (by omega), if_pos (by simp [h3, e3])]
    refine ⟨_, rfl, ⟨_, _, rfl, hlen, by omega, h3, .inr (.inr ⟨_, _, rfl, ?_⟩)⟩, .inr rfl⟩
    exact r.sub _ _ (Nat.mul_le_mul_right _ hab) (by rw [h1]; exact Nat.mul_le_mul_right _ hbn)
theorem Sz.cut2 (s : Sz h v sz n c md) {p q : IntKind} {a b : Int} (h0 : 0 ≤ a) (hab : a ≤ b) (hbn : b ≤ n) :
    ∃ v', rCut sz v (some (.int p a)) (some (.int q b)) none = some v' ∧ Sz h v' sz (b.toNat - a.toNat) ((c.take (b.toNat * sz)).drop (a.toNat * sz)) md ∧ (n = 0 ∨ bk v' = bk v) :=
  s.cut (fun cap hc => ⟨cap, rfl, aBound_int (by omega) (by omega), by omega, Nat.le_refl _⟩) (aBound_int h0 (by omega)) (by omega) (by omega)
theorem Sz.cut3 (s : Sz h v sz n c md) {p q r : IntKind} {a b : Int} (h0 : 0 ≤ a) (hab : a ≤ b) (hbn : b ≤ n) :
    ∃ v', rCut sz v (some (.int p a)) (some (.int q b)) (some (.int r b)) = some v' ∧ Sz h v' sz (b.toNat - a.toNat) ((c.take (b.toNat * sz)).drop (a.toNat * sz)) md ∧ (n = 0 ∨ bk v' = bk v) :=
  s.cut (fun cap hc => ⟨b.toNat, aBound_int (by omega) (by omega), aBound_int (by omega) (by omega), Nat.le_refl _, by omega⟩) (aBound_int h0 (by omega)) (by omega) (by omega)
theorem Sz.cutL (s : Sz h v sz n c md) {p : IntKind} {a : Int} (h0 : 0 ≤ a) (ha : a ≤ n) :
    ∃ v', rCut sz v (some (.int p a)) none none = some v' ∧ Sz h v' sz (n - a.toNat) (c.drop (a.toNat * sz)) md ∧ (n = 0 ∨ bk v' = bk v) := by
  obtain ⟨v', e, s', f⟩ := s.cut (lo := some (.int p a)) (hi := none) (mx := none) (a := a.toNat) (b := n) (fun cap hc => ⟨cap, rfl, rfl, hc, Nat.le_refl _⟩) (aBound_int h0 ha) (by omega) (Nat.le_refl _)
  refine ⟨v', e, ?_, f⟩
  rw [← s.clen, List.take_length] at s'
  exact s'
theorem Sz.cutR (s : Sz h v sz n c md) {q : IntKind} {b : Int} (h0 : 0 ≤ b) (hbn : b ≤ n) :
    ∃ v', rCut sz v none (some (.int q b)) none = some v' ∧ Sz h v' sz b.toNat (c.take (b.toNat * sz)) md ∧ (n = 0 ∨ bk v' = bk v) := by
  obtain ⟨v', e, s', f⟩ := s.cut (lo := none) (hi := some (.int q b)) (mx := none) (a := 0) (b := b.toNat) (fun cap hc => ⟨cap, rfl, aBound_int (by omega) (by omega), by omega, Nat.le_refl _⟩) rfl (by omega) (by omega)
  exact ⟨v', e, by simpa using s', f⟩

/-- A slice of its own, at the end of its block: it grows by append. -/
def Ow (h : AH) (v : AVal) (e : TypeId) (sz n : Nat) (c : List AVal) : Prop :=
  0 < sz ∧ c.length = n * sz ∧ c.all AVal.isCell = true ∧ ((v = .slice none 0 0 ∧ n = 0) ∨ ∃ i off cs opn par, v = .slice (some (i, off, sz)) n n ∧ h.get i = some ⟨.row cs e opn, .rw, par⟩ ∧ cs.length = off + n * sz ∧ cs.drop off = c)
/-- Is it this slice's block? -/
def isBk : AVal → Nat → Prop
  | .slice (some (i, _, _)) _ _, j => j = i
  | _, _ => False
variable {e : TypeId}
theorem Ow.nil (h : AH) (e : TypeId) (sz : Nat) (hz : 0 < sz) : Ow h (.slice none 0 0) e sz 0 [] := ⟨hz, by simp, rfl, .inl ⟨rfl, rfl⟩⟩
theorem Ow.rd (o : Ow h v e sz n c) : Sz h v sz n c .rw := by
  obtain ⟨hz, hl, hc, ho⟩ := o
  rcases ho with ⟨rfl, rfl⟩ | ⟨i, off, cs, opn, par, rfl, hg, h1, h2⟩
  · have : c = [] := List.eq_nil_of_length_eq_zero (by simpa using hl)
    subst this; exact Sz.nil h sz hz _
  · refine ⟨_, _, rfl, hl, Nat.le_refl _, hz, .inr (.inr ⟨i, off, rfl, ⟨⟨cs, e, opn, par, hg, by omega, ?_⟩, .inr rfl⟩⟩)⟩
    rw [hl, h2, ← hl, List.take_length]
theorem Ow.isCell (o : Ow h v e sz n c) : v.isCell = true := (Ow.rd o).isCell
theorem Ow.ke {S : Nat → Prop} {h' : AH} (o : Ow h v e sz n c) (k : Ke S h h') (hS : ∀ i, isBk v i → ¬ S i) : Ow h' v e sz n c := by
  obtain ⟨hz, hl, hc, ho⟩ := o
  refine ⟨hz, hl, hc, ?_⟩
  rcases ho with ho | ⟨i, off, cs, opn, par, rfl, hg, h1, h2⟩
  · exact .inl ho
  · exact .inr ⟨i, off, cs, opn, par, rfl, k.gt hg (hS i rfl), h1, h2⟩
theorem Ow.to {n' : Nat} {c' : List AVal} (o : Ow h v e sz n c) (hc : c = c') (hn : n = n') : Ow h v e sz n' c' := by subst hc hn; exact o
theorem Ow.kp {h' : AH} (o : Ow h v e sz n c) (k : Kp h h') : Ow h' v e sz n c := o.ke k fun _ _ => id
theorem Ow.new {cs : List AVal} {o : Bool} {p : List Nat} (g : h.get n = some ⟨.row cs e o, .rw, p⟩) (hz : 0 < sz) (m : Nat) (hl : cs.length = m * sz) (hc : cs.all AVal.isCell = true) : Ow h (.slice (some (n, 0, sz)) m m) e sz m cs :=
  ⟨hz, hl, hc, .inr ⟨n, 0, cs, o, p, rfl, g, by simpa using hl, rfl⟩⟩
/-- Its block was not there. -/
def Fresh (h : AH) (v : AVal) : Prop := ∀ i, isBk v i → h.n ≤ i
theorem append_own (w : Wf h) {x : AVal} {by_ m : Nat} {d : List AVal} {md : AMode} (o : Ow h v e sz n c) (s : Sz h x sz m d md) (hc : d.all AVal.isCell = true) (hb : 0 < by_) (hl : 2 * (n + m) * by_ ≤ 2 ^ 48) :
    ∃ v' h', rAppend e sz by_ v x h = some (v', h') ∧ Ow h' v' e sz (n + m) (c ++ d) ∧ Ke (isBk v) h h' ∧ (∀ i, isBk v' i → isBk v i ∨ h.n ≤ i) := by
  obtain ⟨hz, hlc, hcc, ho⟩ := o
  have hld := s.clen
  have hcd : (c ++ d).all AVal.isCell = true := by rw [List.all_append, hcc, hc]; rfl
  have hlcd : (c ++ d).length = (n + m) * sz := by simp [hlc, hld, Nat.add_mul]
  unfold rAppend
  rw [s.src]
  unfold rAppendTo
  simp only [Option.bind_some]
  by_cases h0 : m = 0
  · rw [if_pos h0]
    subst h0
    have : d = [] := List.eq_nil_of_length_eq_zero (by simpa using hld)
    subst this
    rcases ho with ⟨rfl, rfl⟩ | ⟨i, off, cs, opn, par, rfl, hg, h1, h2⟩
    · have : c = [] := List.eq_nil_of_length_eq_zero (by simpa using hlc)
      subst this
      exact ⟨_, _, rfl, Ow.nil h e sz hz, Ke.refl w, fun i hi => .inl hi⟩
    · exact ⟨_, _, rfl, ⟨hz, by simpa using hlc, by simpa using hcc, .inr ⟨i, off, cs, opn, par, rfl, hg, by simpa using h1, by simpa using h2⟩⟩, Ke.refl w, fun i hi => .inl hi⟩
  · rw [if_neg h0]
    rcases ho with ⟨rfl, rfl⟩ | ⟨i, off, cs, opn, par, rfl, hg, h1, h2⟩
    · have : c = [] := List.eq_nil_of_length_eq_zero (by simpa using hlc)
      subst this
      simp only
      rw [if_pos ⟨hb, by simpa using hl⟩]
      unfold AH.newRow
      rw [if_pos hc]
      have k := Kp.push0 w (.row d e true) .rw
      refine ⟨_, _, rfl, ?_, k.ke, fun i hi => .inr (by simp only [isBk] at hi; omega)⟩
      simpa using Ow.new (h := h.push ⟨.row d e true, .rw, []⟩) (n := h.n) (e := e) (o := true) (p := []) (by simp) hz m hld hc
    · simp only [ne_eq, not_true_eq_false, if_false, hg]
      rw [if_neg (by omega), if_pos ⟨hb, hl⟩, if_neg (by simp)]
      have hcap : ¬ (off + n * sz < cs.length) := by omega
      have htake : (cs.drop off).take (n * sz) = c := by rw [h2, ← hlc, List.take_length]
      rw [htake]
      cases opn with
      | false =>
        rw [if_pos (.inr ⟨rfl, h1.symm⟩)]
        unfold AH.newRow
        rw [if_pos hcd]
        have k := Kp.push0 w (.row (c ++ d) e true) .rw
        exact ⟨_, _, rfl, Ow.new (o := true) (p := []) (by simp) hz _ hlcd hcd, k.ke, fun j hj => .inr (by simp only [isBk] at hj; omega)⟩
      | true =>
        rw [if_neg (by simp [hcap]), if_pos (by simp [h1, hc])]
        simp only [if_true]
        have hw2 : Wf (h.set i ⟨.row cs e true, .sup, par⟩) := w.set hg (fun j hj => w.par _ _ hg j hj) (.inl rfl)
        have k2 : Ke (isBk (.slice (some (i, off, sz)) n n)) h (h.set i ⟨.row cs e true, .sup, par⟩) := by
          refine ⟨w, hw2, by simp, fun j b hj hm => ?_⟩
          rw [AH.get_set]
          split
          · rename_i c'
            subst c'
            rw [hg] at hj
            simp only [Option.some.injEq] at hj
            subst hj
            rcases hm with hm | hm
            · cases hm
            · exact absurd rfl hm.2
          · exact hj
        have hpar : ∀ j ∈ i :: par, ∃ b', (h.set i ⟨.row cs e true, .sup, par⟩).get j = some b' ∧ b'.mode ≠ .rw ∧ b'.mode ≠ .ro := by
          intro j hj
          rw [AH.get_set]
          by_cases c' : j = i
          · rw [if_pos c']; exact ⟨_, rfl, by simp, by simp⟩
          · rw [if_neg c']
            rcases List.mem_cons.1 hj with hj | hj
            · exact absurd hj c'
            · exact w.par _ _ hg j hj
        have k3 := Kp.push hw2 (b := ⟨.row (c ++ d) e true, .rw, i :: par⟩) hpar
        refine ⟨_, _, rfl, Ow.new (o := true) (p := i :: par) ?_ hz _ hlcd hcd, k2.trans (Kp.ke k3), fun j hj => .inr (by simp only [isBk] at hj; omega)⟩
        have := AH.get_push (h.set i ⟨.row cs e true, .sup, par⟩) h.n ⟨.row (c ++ d) e true, .rw, i :: par⟩
        simp only [AH.n_set, if_true] at this
        exact this
/-- Append, stepped over. -/
theorem wp_append {Q : AVal → AH → Prop} {K : AVal → AH → Ans} (w : Wf h) {x : AVal} {by_ m : Nat} {d : List AVal} {md : AMode} (o : Ow h v e sz n c) (s : Sz h x sz m d md) (hc : d.all AVal.isCell = true) (hb : 0 < by_) (hl : 2 * (n + m) * by_ ≤ 2 ^ 48)
    (k : ∀ v' h', Ow h' v' e sz (n + m) (c ++ d) → Ke (isBk v) h h' → (∀ i, isBk v' i → isBk v i ∨ h.n ≤ i) → Wp (K v' h') Q) : Wp (ke (rAppend e sz by_ v x h) K) Q := by
  obtain ⟨v', h', e1, o', k', f⟩ := append_own w o s hc hb hl
  rw [e1]
  exact k v' h' o' k' f

/-! ### Bytes -/
theorem bytesOf_length (l : List UInt8) : (bytesOf l).length = l.length := by simp [bytesOf]
theorem bytesOf_get (l : List UInt8) (i : Nat) : (bytesOf l)[i]? = l[i]?.map fun b => .int .u8 b.toNat := by simp [bytesOf]
theorem isCell_bytes (l : List UInt8) : (bytesOf l).all AVal.isCell = true := by simp [bytesOf, AVal.isCell]
theorem bytesOf_append (a b : List UInt8) : bytesOf (a ++ b) = bytesOf a ++ bytesOf b := by simp [bytesOf]
theorem bytesOf_drop (a : List UInt8) (n : Nat) : (bytesOf a).drop n = bytesOf (a.drop n) := by simp [bytesOf, List.map_drop]
theorem bytesOf_take (a : List UInt8) (n : Nat) : (bytesOf a).take n = bytesOf (a.take n) := by simp [bytesOf, List.map_take]
/-- A slice of bytes reads as l. -/
abbrev Bs (h : AH) (v : AVal) (l : List UInt8) (md : AMode) : Prop := Sz h v 1 l.length (bytesOf l) md
/-- A byte of a list; 0 behind its end. -/
def gb (l : List UInt8) (i : Nat) : Nat := (l.getD i 0).toNat
theorem gb_lt (l : List UInt8) (i : Nat) : gb l i < 256 := UInt8.toNat_lt _
theorem Sz.ldb {l : List UInt8} (s : Sz h v 1 l.length (bytesOf l) md) {j : Nat} (hj : j < l.length) : rLoad (ea v j) h = some (.int .u8 (gb l j)) := by
  rw [Sz.ld s (by rw [bytesOf_length]; exact hj), bytesOf_get, List.getElem?_eq_getElem hj]
  simp [gb, List.getD, List.getElem?_eq_getElem hj]
theorem toBytes_bytesOf : ∀ l : List UInt8, toBytes (bytesOf l) = some l
  | [] => rfl
  | b :: l => by
      have := toBytes_bytesOf l
      unfold bytesOf at this
      simp [bytesOf, toBytes, this]
theorem Sz.text {l : List UInt8} (s : Sz h v 1 l.length (bytesOf l) md) : rText v h = some (.str l) := by
  rcases Nat.eq_zero_or_pos l.length with e | e
  · have : l = [] := List.eq_nil_of_length_eq_zero e
    subst this
    obtain ⟨a, cap, rfl, _⟩ := s
    rcases a with _ | ⟨i, off, z⟩ <;> rfl
  · obtain ⟨r, cap, e2⟩ := s.rd e
    generalize bk v = b at e2 r
    generalize ofs v = o at e2 r
    subst e2
    have := r.read
    rw [bytesOf_length] at this
    unfold rText
    simp only [if_neg (show ¬ l.length = 0 by omega), if_true, this, Option.bind_some, toBytes_bytesOf, Option.map_some]

/-! ### Steps, in three bundles -/
theorem pre :
    (∀ (v : AVal) (K : AVal → Ans), kq (some v) K = K v) ∧
    (∀ (v : AVal) (h : AH) (K : AVal → AH → Ans), ke (some (v, h)) K = K v h) ∧
    (∀ (A B : Ans), kIf (.bool true) A B = A) ∧
    (∀ (A B : Ans), kIf (.bool false) A B = B) ∧
    (∀ (p : Prop) [Decidable p] (A B : Ans), kIf (.bool (decide p)) A B = if p then A else B) ∧
    (∀ (b : Bool) (A : (AVal → Ans) → Ans) (K : AVal → Ans), kgq (.bool b) b A K = A K) ∧
    (∀ (A : (AVal → Ans) → Ans) (K : AVal → Ans), kgq (.bool true) false A K = K (.tuple [])) ∧
    (∀ (A : (AVal → Ans) → Ans) (K : AVal → Ans), kgq (.bool false) true A K = K (.tuple [])) ∧
    (∀ (b : Bool) (h : AH) (A : (AVal → AH → Ans) → Ans) (K : AVal → AH → Ans), kgh (.bool b) b h A K = A K) ∧
    (∀ (h : AH) (A : (AVal → AH → Ans) → Ans) (K : AVal → AH → Ans), kgh (.bool true) false h A K = K (.tuple []) h) ∧
    (∀ (h : AH) (A : (AVal → AH → Ans) → Ans) (K : AVal → AH → Ans), kgh (.bool false) true h A K = K (.tuple []) h) ∧
    (∀ (w : Bool) (A : (AVal → Ans) → Ans) (K : AVal → Ans), kgq (.tuple []) w A K = K (.tuple [])) ∧
    (∀ (w : Bool) (h : AH) (A : (AVal → AH → Ans) → Ans) (K : AVal → AH → Ans), kgh (.tuple []) w h A K = K (.tuple []) h) ∧
    (∀ (A : Ans), kChk true A = A) ∧
    (∀ (Q : AVal → AH → Prop) {r : AVal} {h : AH}, Wp (some (r, h)) Q = Q r h) :=
  ⟨kq_some, ke_some, kIf_true, kIf_false, by intros; exact kIf_decide .., kgq_on, kgq_tf, kgq_ft, kgh_on, kgh_tf, kgh_ft, kgq_skip, kgh_skip, kChk_true, by intros; exact wp_some⟩
theorem stp :
    (∀ (a : AVal) (l : List AVal), gd (a :: l) 0 = a) ∧
    (∀ (a : AVal) (l : List AVal) (n : Nat), gd (a :: l) (n + 1) = gd l n) ∧
    (∀ (off i o : Nat), rFieldP off (.ptr (some (i, o))) = some (.ptr (some (i, o + off)))) ∧
    (∀ (a b : AVal), rPick (.bool true) a b = some a) ∧
    (∀ (a b : AVal), rPick (.bool false) a b = some b) ∧
    (∀ (a : Option (Nat × Nat × Nat)) (n c : Nat), rLen (.slice a n c) = some (.int .i64 n)) ∧
    (∀ (k q : IntKind) (n : Int), rConvI k (.int q n) = some (.int k (k.wrap n))) ∧
    (∀ (e : EqK) (c : Bool) (k : IntKind) (x y : Int), rBin .add e c (.int k x) (.int k y) = some (.int k (k.wrap (x + y)))) ∧
    (∀ (e : EqK) (c : Bool) (k : IntKind) (x y : Int), rBin .sub e c (.int k x) (.int k y) = some (.int k (k.wrap (x - y)))) ∧
    (∀ (e : EqK) (c : Bool) (k : IntKind) (x y : Int), rBin .mul e c (.int k x) (.int k y) = some (.int k (k.wrap (x * y)))) ∧
    (∀ (e : EqK) (c : Bool) (k : IntKind) (x y : Int), rBin .lss e c (.int k x) (.int k y) = some (.bool (decide (x < y)))) ∧
    (∀ (e : EqK) (c : Bool) (k : IntKind) (x y : Int), rBin .leq e c (.int k x) (.int k y) = some (.bool (decide (x ≤ y)))) ∧
    (∀ (e : EqK) (c : Bool) (k : IntKind) (x y : Int), rBin .gtr e c (.int k x) (.int k y) = some (.bool (decide (x > y)))) ∧
    (∀ (e : EqK) (c : Bool) (k : IntKind) (x y : Int), rBin .geq e c (.int k x) (.int k y) = some (.bool (decide (x ≥ y)))) ∧
    (∀ (e : EqK) (c : Bool) (k : IntKind) (x y : Int), rBin .eql e c (.int k x) (.int k y) = some (.bool (decide (x = y)))) ∧
    (∀ (e : EqK) (c : Bool) (k : IntKind) (x y : Int), rBin .neq e c (.int k x) (.int k y) = some (.bool (decide (x ≠ y)))) ∧
    (∀ (e : EqK) (c : Bool) (k : IntKind) (x y : Int), rBin .or e c (.int k x) (.int k y) = some (.int k (iOr k x y))) ∧
    (∀ (e : EqK) (c : Bool) (k : IntKind) (x y : Int), rBin .and e c (.int k x) (.int k y) = some (.int k (iAnd k x y))) ∧
    (∀ (e : EqK) (c : Bool) (k : IntKind) (x y : Int), rBin .xor e c (.int k x) (.int k y) = some (.int k (iXor k x y))) ∧
    (∀ (e : EqK) (c : Bool) (x y : List UInt8), rBin .eql e c (.str x) (.str y) = some (.bool (decide (x = y)))) ∧
    (∀ (b : Bool), aUn .not (.bool b) = some (.bool !b)) ∧
    (∀ (h : AH) (i k : Nat), rLoad (.ptr (some (i, k))) h = (h.row i).bind (·[k]?)) ∧
    (∀ (n : Nat) (h : AH) (i k : Nat), rLoadA n (.ptr (some (i, k))) h = (h.row i).bind fun cs => if k + n ≤ cs.length then some (.agg ((cs.drop k).take n)) else none) ∧
    (∀ (k : Nat) (v : AVal) (j : Nat), rFieldP k (ea v j) = some (ea v (j + k))) ∧
    (∀ (k : IntKind) (n : Int), (AVal.int k n).cells = some [.int k n]) ∧
    (∀ (b : Bool), (AVal.bool b).cells = some [.bool b]) ∧
    (∀ (b : List UInt8), (AVal.str b).cells = some [.str b]) ∧
    (∀ (a : Option (Nat × Nat × Nat)) (n c : Nat), (AVal.slice a n c).cells = some [.slice a n c]) ∧
    (∀ (a : Option (Nat × Nat)), (AVal.ptr a).cells = some [.ptr a]) ∧
    (∀ (l : List AVal), (AVal.agg l).cells = some l) ∧
    (∀ (z : List AVal) (pl : List (Nat × Nat)) (ps : List (Nat × AVal)), rBuild z pl ps = (aFill (fun i => pl[i]?) z ps).map .agg) ∧
    (∀ (z : List AVal) (n : Nat) (ps : List (Nat × AVal)), rBuildA z n ps = (aFill (fun i => some (i * n, n)) z ps).map .agg) ∧
    (∀ (p : Nat → Option (Nat × Nat)) (cs : List AVal), aFill p cs [] = some cs) ∧
    (∀ (p : Nat → Option (Nat × Nat)) (cs : List AVal) (i : Nat) (v : AVal) (r : List (Nat × AVal)), aFill p cs ((i, v) :: r) = match p i, v.cells with
    | some (off, size), some vs => if vs.length = size ∧ off + vs.length ≤ cs.length then aFill p (splice cs off vs) r else none
    | _, _ => none) ∧
    (∀ (a : AVal) (l : List AVal) (i : Nat), aExtract (.tuple (a :: l)) i = (a :: l)[i]?) :=
  ⟨by intros; first | exact gd_zero .. | exact gd_zero,
   by intros; first | exact gd_succ .. | exact gd_succ,
   by intros; first | exact rFieldP_some .. | exact rFieldP_some,
   by intros; first | exact rPick_true .. | exact rPick_true,
   by intros; first | exact rPick_false .. | exact rPick_false,
   by intros; first | exact rLen_slice .. | exact rLen_slice,
   by intros; first | exact rConvI_int .. | exact rConvI_int,
   by intros; first | exact rBin_add .. | exact rBin_add,
   by intros; first | exact rBin_sub .. | exact rBin_sub,
   by intros; first | exact rBin_mul .. | exact rBin_mul,
   by intros; first | exact rBin_lss .. | exact rBin_lss,
   by intros; first | exact rBin_leq .. | exact rBin_leq,
   by intros; first | exact rBin_gtr .. | exact rBin_gtr,
   by intros; first | exact rBin_geq .. | exact rBin_geq,
   by intros; first | exact rBin_eql .. | exact rBin_eql,
   by intros; first | exact rBin_neq .. | exact rBin_neq,
   by intros; first | exact rBin_or .. | exact rBin_or,
   by intros; first | exact rBin_and .. | exact rBin_and,
   by intros; first | exact rBin_xor .. | exact rBin_xor,
   by intros; first | exact rBin_seql .. | exact rBin_seql,
   by intros; first | exact aUn_not .. | exact aUn_not,
   by intros; first | exact rLoad_ptr .. | exact rLoad_ptr,
   by intros; first | exact rLoadA_ptr .. | exact rLoadA_ptr,
   by intros; first | exact rFieldP_ea .. | exact rFieldP_ea,
   by intros; first | exact cells_int .. | exact cells_int,
   by intros; first | exact cells_bool .. | exact cells_bool,
   by intros; first | exact cells_str .. | exact cells_str,
   by intros; first | exact cells_slice .. | exact cells_slice,
   by intros; first | exact cells_ptr .. | exact cells_ptr,
   by intros; first | exact cells_agg .. | exact cells_agg,
   by intros; first | exact rBuild_def .. | exact rBuild_def,
   by intros; first | exact rBuildA_def .. | exact rBuildA_def,
   by intros; first | exact aFill_nil .. | exact aFill_nil,
   by intros; first | exact aFill_cons .. | exact aFill_cons,
   by intros; first | exact aExtract_cons .. | exact aExtract_cons⟩
theorem lst :
    (∀ {α β : Type} (a : α) (f : α → Option β), (some a).bind f = f a) ∧
    (∀ {α β : Type} (a : α) (f : α → β), (some a).map f = some (f a)) ∧
    (∀ {α : Type} (a : α) (l : List α), (a :: l)[0]? = some a) ∧
    (∀ {α : Type} (a : α) (l : List α) (i : Nat), (a :: l)[i + 1]? = l[i]?) ∧
    (∀ {α : Type} (a : α) (l : List α), (a :: l).length = l.length + 1) ∧
    (∀ {α : Type}, ([] : List α).length = 0) ∧
    (∀ {α : Type} (l : List α), l.take 0 = []) ∧
    (∀ {α : Type} (l : List α), l.drop 0 = l) ∧
    (∀ {α : Type} (a : α) (l : List α) (i : Nat), (a :: l).take (i + 1) = a :: l.take i) ∧
    (∀ {α : Type} (a : α) (l : List α) (i : Nat), (a :: l).drop (i + 1) = l.drop i) ∧
    (∀ {α : Type} (l : List α), [] ++ l = l) ∧
    (∀ {α : Type} (l : List α), l ++ [] = l) ∧
    (∀ {α : Type} (a : α) (l m : List α), (a :: l) ++ m = a :: (l ++ m)) ∧
    (∀ {α : Type} (i : Nat), ([] : List α).take i = []) ∧
    (∀ {α : Type} (i : Nat), ([] : List α).drop i = []) ∧
    (∀ {α : Type} (a b : α), (a ≠ b) = ¬ (a = b)) ∧ (¬ True) = False ∧ (¬ False) = True ∧ (∀ a : Int, (a = a) = True) ∧ (∀ a : Nat, (a = a) = True) ∧ (∀ a : AVal, (a = a) = True) ∧
    ((0 : Nat) : Int) = 0 ∧ ((1 : Nat) : Int) = 1 ∧ (∀ [Decidable True], decide True = true) ∧ (∀ [Decidable False], decide False = false) ∧ (!true) = false ∧ (!false) = true ∧ (∀ b : Bool, (true || b) = true) ∧ (∀ b : Bool, (false || b) = b) ∧
    (∀ v : AVal, kSame (some v) v = true) ∧ (∀ b : Bool, (!true || b) = b) ∧ (∀ b : Bool, (!false || b) = true) ∧
    (∀ n : Nat, 0 + n = n) ∧ (∀ n : Nat, n * 1 = n) ∧ (∀ n : Nat, ((n : Int)).toNat = n) ∧ (∀ p : Prop, (p ∧ True) = p) ∧ (∀ p : Prop, (True ∧ p) = p) ∧
    (∀ {α : Type} (a b : α), (if True then a else b) = a) ∧ (∀ {α : Type} (a b : α), (if False then a else b) = b) :=
  ⟨fun _ _ => rfl, fun _ _ => rfl, fun _ _ => rfl, fun _ _ _ => rfl, fun _ _ => rfl, rfl, fun _ => rfl, fun _ => rfl, fun _ _ _ => rfl, fun _ _ _ => rfl, fun _ => rfl, List.append_nil, fun _ _ _ => rfl, fun _ => List.take_nil, fun _ => List.drop_nil,
    fun _ _ => rfl, by simp, by simp, fun _ => by simp, fun _ => by simp, fun _ => by simp, rfl, rfl, by intros; simp, by intros; simp, rfl, rfl, fun _ => rfl, fun _ => rfl,
    AVal.same_refl, fun _ => rfl, fun _ => rfl, Nat.zero_add, Nat.mul_one, fun n => Int.toNat_natCast n, fun _ => propext ⟨fun h => h.1, fun h => ⟨h, trivial⟩⟩, fun _ => propext ⟨fun h => h.2, fun h => ⟨trivial, h⟩⟩, fun _ _ => rfl, fun _ _ => rfl⟩
/-- A splice. -/
theorem splice_def (cs : List AVal) (off : Nat) (vs : List AVal) : splice cs off vs = cs.take off ++ vs ++ cs.drop (off + vs.length) := rfl

/-! ### Numbers -/
theorem IntKind_wrap_i8 (n : Int) : IntKind.i8.wrap n = (n + 128) % 256 - 128 := by
  simp [IntKind.wrap, IntKind.bits, IntKind.signed]
  split <;> omega
theorem IntKind_wrap_i16 (n : Int) : IntKind.i16.wrap n = (n + 32768) % 65536 - 32768 := by
  simp [IntKind.wrap, IntKind.bits, IntKind.signed]
  split <;> omega
theorem wr_i8 {n : Int} (h0 : -128 ≤ n) (h1 : n < 128) : IntKind.wrap .i8 n = n := by rw [IntKind_wrap_i8]; omega
theorem shl_i8 {e : EqK} {c : Bool} {q : IntKind} {x n : Int} (h0 : 0 ≤ n) (h1 : n ≤ 8) : rBin .shl e c (.int .i8 x) (.int q n) = some (.int .i8 (IntKind.wrap .i8 (x * 2 ^ n.toNat))) := by
  rw [rBin_shl, if_neg (by omega), Nat.min_eq_left (by simp only [IntKind.bits]; omega)]
theorem shr_i8 {e : EqK} {c : Bool} {q : IntKind} {x n : Int} (h : 0 ≤ x) (h0 : 0 ≤ n) (h1 : n ≤ 8) : rBin .shr e c (.int .i8 x) (.int q n) = some (.int .i8 (x / 2 ^ n.toNat)) := by
  rw [rBin_shr, if_neg (by omega), Nat.min_eq_left (by simp only [IntKind.bits]; omega), Int.fdiv_eq_ediv_of_nonneg _ (Int.le_of_lt (Int.pow_pos (by omega)))]
theorem wr_i16 {n : Int} (h0 : -32768 ≤ n) (h1 : n < 32768) : IntKind.wrap .i16 n = n := by rw [IntKind_wrap_i16]; omega
theorem shl_i16 {e : EqK} {c : Bool} {q : IntKind} {x n : Int} (h0 : 0 ≤ n) (h1 : n ≤ 16) : rBin .shl e c (.int .i16 x) (.int q n) = some (.int .i16 (IntKind.wrap .i16 (x * 2 ^ n.toNat))) := by
  rw [rBin_shl, if_neg (by omega), Nat.min_eq_left (by simp only [IntKind.bits]; omega)]
theorem shr_i16 {e : EqK} {c : Bool} {q : IntKind} {x n : Int} (h : 0 ≤ x) (h0 : 0 ≤ n) (h1 : n ≤ 16) : rBin .shr e c (.int .i16 x) (.int q n) = some (.int .i16 (x / 2 ^ n.toNat)) := by
  rw [rBin_shr, if_neg (by omega), Nat.min_eq_left (by simp only [IntKind.bits]; omega), Int.fdiv_eq_ediv_of_nonneg _ (Int.le_of_lt (Int.pow_pos (by omega)))]
theorem wr_i32 {n : Int} (h0 : -2147483648 ≤ n) (h1 : n < 2147483648) : IntKind.wrap .i32 n = n := by rw [IntKind.wrap_i32]; omega
theorem shl_i32 {e : EqK} {c : Bool} {q : IntKind} {x n : Int} (h0 : 0 ≤ n) (h1 : n ≤ 32) : rBin .shl e c (.int .i32 x) (.int q n) = some (.int .i32 (IntKind.wrap .i32 (x * 2 ^ n.toNat))) := by
  rw [rBin_shl, if_neg (by omega), Nat.min_eq_left (by simp only [IntKind.bits]; omega)]
theorem shr_i32 {e : EqK} {c : Bool} {q : IntKind} {x n : Int} (h : 0 ≤ x) (h0 : 0 ≤ n) (h1 : n ≤ 32) : rBin .shr e c (.int .i32 x) (.int q n) = some (.int .i32 (x / 2 ^ n.toNat)) := by
  rw [rBin_shr, if_neg (by omega), Nat.min_eq_left (by simp only [IntKind.bits]; omega), Int.fdiv_eq_ediv_of_nonneg _ (Int.le_of_lt (Int.pow_pos (by omega)))]
theorem wr_i64 {n : Int} (h0 : -9223372036854775808 ≤ n) (h1 : n < 9223372036854775808) : IntKind.wrap .i64 n = n := by rw [IntKind.wrap_i64]; omega
theorem shl_i64 {e : EqK} {c : Bool} {q : IntKind} {x n : Int} (h0 : 0 ≤ n) (h1 : n ≤ 64) : rBin .shl e c (.int .i64 x) (.int q n) = some (.int .i64 (IntKind.wrap .i64 (x * 2 ^ n.toNat))) := by
  rw [rBin_shl, if_neg (by omega), Nat.min_eq_left (by simp only [IntKind.bits]; omega)]
theorem shr_i64 {e : EqK} {c : Bool} {q : IntKind} {x n : Int} (h : 0 ≤ x) (h0 : 0 ≤ n) (h1 : n ≤ 64) : rBin .shr e c (.int .i64 x) (.int q n) = some (.int .i64 (x / 2 ^ n.toNat)) := by
  rw [rBin_shr, if_neg (by omega), Nat.min_eq_left (by simp only [IntKind.bits]; omega), Int.fdiv_eq_ediv_of_nonneg _ (Int.le_of_lt (Int.pow_pos (by omega)))]
theorem wr_u8 {n : Int} (h0 : 0 ≤ n) (h1 : n < 256) : IntKind.wrap .u8 n = n := by rw [IntKind.wrap_u8]; omega
theorem shl_u8 {e : EqK} {c : Bool} {q : IntKind} {x n : Int} (h0 : 0 ≤ n) (h1 : n ≤ 8) : rBin .shl e c (.int .u8 x) (.int q n) = some (.int .u8 (IntKind.wrap .u8 (x * 2 ^ n.toNat))) := by
  rw [rBin_shl, if_neg (by omega), Nat.min_eq_left (by simp only [IntKind.bits]; omega)]
theorem shr_u8 {e : EqK} {c : Bool} {q : IntKind} {x n : Int} (h : 0 ≤ x) (h0 : 0 ≤ n) (h1 : n ≤ 8) : rBin .shr e c (.int .u8 x) (.int q n) = some (.int .u8 (x / 2 ^ n.toNat)) := by
  rw [rBin_shr, if_neg (by omega), Nat.min_eq_left (by simp only [IntKind.bits]; omega), Int.fdiv_eq_ediv_of_nonneg _ (Int.le_of_lt (Int.pow_pos (by omega)))]
theorem wr_u16 {n : Int} (h0 : 0 ≤ n) (h1 : n < 65536) : IntKind.wrap .u16 n = n := by rw [IntKind.wrap_u16]; omega
theorem shl_u16 {e : EqK} {c : Bool} {q : IntKind} {x n : Int} (h0 : 0 ≤ n) (h1 : n ≤ 16) : rBin .shl e c (.int .u16 x) (.int q n) = some (.int .u16 (IntKind.wrap .u16 (x * 2 ^ n.toNat))) := by
  rw [rBin_shl, if_neg (by omega), Nat.min_eq_left (by simp only [IntKind.bits]; omega)]
theorem shr_u16 {e : EqK} {c : Bool} {q : IntKind} {x n : Int} (h : 0 ≤ x) (h0 : 0 ≤ n) (h1 : n ≤ 16) : rBin .shr e c (.int .u16 x) (.int q n) = some (.int .u16 (x / 2 ^ n.toNat)) := by
  rw [rBin_shr, if_neg (by omega), Nat.min_eq_left (by simp only [IntKind.bits]; omega), Int.fdiv_eq_ediv_of_nonneg _ (Int.le_of_lt (Int.pow_pos (by omega)))]
theorem wr_u32 {n : Int} (h0 : 0 ≤ n) (h1 : n < 4294967296) : IntKind.wrap .u32 n = n := by rw [IntKind.wrap_u32]; omega
theorem shl_u32 {e : EqK} {c : Bool} {q : IntKind} {x n : Int} (h0 : 0 ≤ n) (h1 : n ≤ 32) : rBin .shl e c (.int .u32 x) (.int q n) = some (.int .u32 (IntKind.wrap .u32 (x * 2 ^ n.toNat))) := by
  rw [rBin_shl, if_neg (by omega), Nat.min_eq_left (by simp only [IntKind.bits]; omega)]
theorem shr_u32 {e : EqK} {c : Bool} {q : IntKind} {x n : Int} (h : 0 ≤ x) (h0 : 0 ≤ n) (h1 : n ≤ 32) : rBin .shr e c (.int .u32 x) (.int q n) = some (.int .u32 (x / 2 ^ n.toNat)) := by
  rw [rBin_shr, if_neg (by omega), Nat.min_eq_left (by simp only [IntKind.bits]; omega), Int.fdiv_eq_ediv_of_nonneg _ (Int.le_of_lt (Int.pow_pos (by omega)))]
theorem wr_u64 {n : Int} (h0 : 0 ≤ n) (h1 : n < 18446744073709551616) : IntKind.wrap .u64 n = n := by rw [IntKind.wrap_u64]; omega
theorem shl_u64 {e : EqK} {c : Bool} {q : IntKind} {x n : Int} (h0 : 0 ≤ n) (h1 : n ≤ 64) : rBin .shl e c (.int .u64 x) (.int q n) = some (.int .u64 (IntKind.wrap .u64 (x * 2 ^ n.toNat))) := by
  rw [rBin_shl, if_neg (by omega), Nat.min_eq_left (by simp only [IntKind.bits]; omega)]
theorem shr_u64 {e : EqK} {c : Bool} {q : IntKind} {x n : Int} (h : 0 ≤ x) (h0 : 0 ≤ n) (h1 : n ≤ 64) : rBin .shr e c (.int .u64 x) (.int q n) = some (.int .u64 (x / 2 ^ n.toNat)) := by
  rw [rBin_shr, if_neg (by omega), Nat.min_eq_left (by simp only [IntKind.bits]; omega), Int.fdiv_eq_ediv_of_nonneg _ (Int.le_of_lt (Int.pow_pos (by omega)))]
theorem or_u16 {a b : Nat} (h0 : a < 256) (h1 : b < 256) : iOr .u16 ((a : Int) * 256) (b : Int) = (a : Int) * 256 + b := iOr_bytes h1 (by simp only [IntKind.bits]; omega) (wr_u16 (by omega) (by omega))
theorem or_i64 {a b : Nat} (h0 : a < 256) (h1 : b < 256) : iOr .i64 ((a : Int) * 256) (b : Int) = (a : Int) * 256 + b := iOr_bytes h1 (by simp only [IntKind.bits]; omega) (wr_i64 (by omega) (by omega))
theorem or_u32 {a b : Nat} (h0 : a < 256) (h1 : b < 256) : iOr .u32 ((a : Int) * 256) (b : Int) = (a : Int) * 256 + b := iOr_bytes h1 (by simp only [IntKind.bits]; omega) (wr_u32 (by omega) (by omega))
theorem or_u64 {a b : Nat} (h0 : a < 256) (h1 : b < 256) : iOr .u64 ((a : Int) * 256) (b : Int) = (a : Int) * 256 + b := iOr_bytes h1 (by simp only [IntKind.bits]; omega) (wr_u64 (by omega) (by omega))
theorem num :
    (∀ n : Int, -128 ≤ n → n < 128 → IntKind.wrap .i8 n = n) ∧
    (∀ n : Int, -32768 ≤ n → n < 32768 → IntKind.wrap .i16 n = n) ∧
    (∀ n : Int, -2147483648 ≤ n → n < 2147483648 → IntKind.wrap .i32 n = n) ∧
    (∀ n : Int, -9223372036854775808 ≤ n → n < 9223372036854775808 → IntKind.wrap .i64 n = n) ∧
    (∀ n : Int, 0 ≤ n → n < 256 → IntKind.wrap .u8 n = n) ∧
    (∀ n : Int, 0 ≤ n → n < 65536 → IntKind.wrap .u16 n = n) ∧
    (∀ n : Int, 0 ≤ n → n < 4294967296 → IntKind.wrap .u32 n = n) ∧
    (∀ n : Int, 0 ≤ n → n < 18446744073709551616 → IntKind.wrap .u64 n = n) ∧
    (∀ (e : EqK) (c : Bool) (q : IntKind) (x n : Int), 0 ≤ n → n ≤ 8 → rBin .shl e c (.int .i8 x) (.int q n) = some (.int .i8 (IntKind.wrap .i8 (x * 2 ^ n.toNat)))) ∧
    (∀ (e : EqK) (c : Bool) (q : IntKind) (x n : Int), 0 ≤ x → 0 ≤ n → n ≤ 8 → rBin .shr e c (.int .i8 x) (.int q n) = some (.int .i8 (x / 2 ^ n.toNat))) ∧
    (∀ (e : EqK) (c : Bool) (q : IntKind) (x n : Int), 0 ≤ n → n ≤ 16 → rBin .shl e c (.int .i16 x) (.int q n) = some (.int .i16 (IntKind.wrap .i16 (x * 2 ^ n.toNat)))) ∧
    (∀ (e : EqK) (c : Bool) (q : IntKind) (x n : Int), 0 ≤ x → 0 ≤ n → n ≤ 16 → rBin .shr e c (.int .i16 x) (.int q n) = some (.int .i16 (x / 2 ^ n.toNat))) ∧
    (∀ (e : EqK) (c : Bool) (q : IntKind) (x n : Int), 0 ≤ n → n ≤ 32 → rBin .shl e c (.int .i32 x) (.int q n) = some (.int .i32 (IntKind.wrap .i32 (x * 2 ^ n.toNat)))) ∧
    (∀ (e : EqK) (c : Bool) (q : IntKind) (x n : Int), 0 ≤ x → 0 ≤ n → n ≤ 32 → rBin .shr e c (.int .i32 x) (.int q n) = some (.int .i32 (x / 2 ^ n.toNat))) ∧
    (∀ (e : EqK) (c : Bool) (q : IntKind) (x n : Int), 0 ≤ n → n ≤ 64 → rBin .shl e c (.int .i64 x) (.int q n) = some (.int .i64 (IntKind.wrap .i64 (x * 2 ^ n.toNat)))) ∧
    (∀ (e : EqK) (c : Bool) (q : IntKind) (x n : Int), 0 ≤ x → 0 ≤ n → n ≤ 64 → rBin .shr e c (.int .i64 x) (.int q n) = some (.int .i64 (x / 2 ^ n.toNat))) ∧
    (∀ (e : EqK) (c : Bool) (q : IntKind) (x n : Int), 0 ≤ n → n ≤ 8 → rBin .shl e c (.int .u8 x) (.int q n) = some (.int .u8 (IntKind.wrap .u8 (x * 2 ^ n.toNat)))) ∧
    (∀ (e : EqK) (c : Bool) (q : IntKind) (x n : Int), 0 ≤ x → 0 ≤ n → n ≤ 8 → rBin .shr e c (.int .u8 x) (.int q n) = some (.int .u8 (x / 2 ^ n.toNat))) ∧
    (∀ (e : EqK) (c : Bool) (q : IntKind) (x n : Int), 0 ≤ n → n ≤ 16 → rBin .shl e c (.int .u16 x) (.int q n) = some (.int .u16 (IntKind.wrap .u16 (x * 2 ^ n.toNat)))) ∧
    (∀ (e : EqK) (c : Bool) (q : IntKind) (x n : Int), 0 ≤ x → 0 ≤ n → n ≤ 16 → rBin .shr e c (.int .u16 x) (.int q n) = some (.int .u16 (x / 2 ^ n.toNat))) ∧
    (∀ (e : EqK) (c : Bool) (q : IntKind) (x n : Int), 0 ≤ n → n ≤ 32 → rBin .shl e c (.int .u32 x) (.int q n) = some (.int .u32 (IntKind.wrap .u32 (x * 2 ^ n.toNat)))) ∧
    (∀ (e : EqK) (c : Bool) (q : IntKind) (x n : Int), 0 ≤ x → 0 ≤ n → n ≤ 32 → rBin .shr e c (.int .u32 x) (.int q n) = some (.int .u32 (x / 2 ^ n.toNat))) ∧
    (∀ (e : EqK) (c : Bool) (q : IntKind) (x n : Int), 0 ≤ n → n ≤ 64 → rBin .shl e c (.int .u64 x) (.int q n) = some (.int .u64 (IntKind.wrap .u64 (x * 2 ^ n.toNat)))) ∧
    (∀ (e : EqK) (c : Bool) (q : IntKind) (x n : Int), 0 ≤ x → 0 ≤ n → n ≤ 64 → rBin .shr e c (.int .u64 x) (.int q n) = some (.int .u64 (x / 2 ^ n.toNat))) ∧
    (∀ a b : Nat, a < 256 → b < 256 → iOr .u16 ((a : Int) * 256) (b : Int) = (a : Int) * 256 + b) ∧
    (∀ a b : Nat, a < 256 → b < 256 → iOr .i64 ((a : Int) * 256) (b : Int) = (a : Int) * 256 + b) ∧
    (∀ a b : Nat, a < 256 → b < 256 → iOr .u32 ((a : Int) * 256) (b : Int) = (a : Int) * 256 + b) ∧
    (∀ a b : Nat, a < 256 → b < 256 → iOr .u64 ((a : Int) * 256) (b : Int) = (a : Int) * 256 + b) :=
  ⟨fun _ => wr_i8, fun _ => wr_i16, fun _ => wr_i32, fun _ => wr_i64, fun _ => wr_u8, fun _ => wr_u16, fun _ => wr_u32, fun _ => wr_u64, fun _ _ _ _ _ => shl_i8, fun _ _ _ _ _ => shr_i8, fun _ _ _ _ _ => shl_i16, fun _ _ _ _ _ => shr_i16, fun _ _ _ _ _ => shl_i32, fun _ _ _ _ _ => shr_i32, fun _ _ _ _ _ => shl_i64, fun _ _ _ _ _ => shr_i64, fun _ _ _ _ _ => shl_u8, fun _ _ _ _ _ => shr_u8, fun _ _ _ _ _ => shl_u16, fun _ _ _ _ _ => shr_u16, fun _ _ _ _ _ => shl_u32, fun _ _ _ _ _ => shr_u32, fun _ _ _ _ _ => shl_u64, fun _ _ _ _ _ => shr_u64, fun _ _ => or_u16, fun _ _ => or_i64, fun _ _ => or_u32, fun _ _ => or_u64⟩
/-- All of them. -/
theorem sp :
    ((∀ (a : AVal) (l : List AVal), gd (a :: l) 0 = a) ∧
    (∀ (a : AVal) (l : List AVal) (n : Nat), gd (a :: l) (n + 1) = gd l n) ∧
    (∀ (off i o : Nat), rFieldP off (.ptr (some (i, o))) = some (.ptr (some (i, o + off)))) ∧
    (∀ (a b : AVal), rPick (.bool true) a b = some a) ∧
    (∀ (a b : AVal), rPick (.bool false) a b = some b) ∧
    (∀ (a : Option (Nat × Nat × Nat)) (n c : Nat), rLen (.slice a n c) = some (.int .i64 n)) ∧
    (∀ (k q : IntKind) (n : Int), rConvI k (.int q n) = some (.int k (k.wrap n))) ∧
    (∀ (e : EqK) (c : Bool) (k : IntKind) (x y : Int), rBin .add e c (.int k x) (.int k y) = some (.int k (k.wrap (x + y)))) ∧
    (∀ (e : EqK) (c : Bool) (k : IntKind) (x y : Int), rBin .sub e c (.int k x) (.int k y) = some (.int k (k.wrap (x - y)))) ∧
    (∀ (e : EqK) (c : Bool) (k : IntKind) (x y : Int), rBin .mul e c (.int k x) (.int k y) = some (.int k (k.wrap (x * y)))) ∧
    (∀ (e : EqK) (c : Bool) (k : IntKind) (x y : Int), rBin .lss e c (.int k x) (.int k y) = some (.bool (decide (x < y)))) ∧
    (∀ (e : EqK) (c : Bool) (k : IntKind) (x y : Int), rBin .leq e c (.int k x) (.int k y) = some (.bool (decide (x ≤ y)))) ∧
    (∀ (e : EqK) (c : Bool) (k : IntKind) (x y : Int), rBin .gtr e c (.int k x) (.int k y) = some (.bool (decide (x > y)))) ∧
    (∀ (e : EqK) (c : Bool) (k : IntKind) (x y : Int), rBin .geq e c (.int k x) (.int k y) = some (.bool (decide (x ≥ y)))) ∧
    (∀ (e : EqK) (c : Bool) (k : IntKind) (x y : Int), rBin .eql e c (.int k x) (.int k y) = some (.bool (decide (x = y)))) ∧
    (∀ (e : EqK) (c : Bool) (k : IntKind) (x y : Int), rBin .neq e c (.int k x) (.int k y) = some (.bool (decide (x ≠ y)))) ∧
    (∀ (e : EqK) (c : Bool) (k : IntKind) (x y : Int), rBin .or e c (.int k x) (.int k y) = some (.int k (iOr k x y))) ∧
    (∀ (e : EqK) (c : Bool) (k : IntKind) (x y : Int), rBin .and e c (.int k x) (.int k y) = some (.int k (iAnd k x y))) ∧
    (∀ (e : EqK) (c : Bool) (k : IntKind) (x y : Int), rBin .xor e c (.int k x) (.int k y) = some (.int k (iXor k x y))) ∧
    (∀ (e : EqK) (c : Bool) (x y : List UInt8), rBin .eql e c (.str x) (.str y) = some (.bool (decide (x = y)))) ∧
    (∀ (b : Bool), aUn .not (.bool b) = some (.bool !b)) ∧
    (∀ (h : AH) (i k : Nat), rLoad (.ptr (some (i, k))) h = (h.row i).bind (·[k]?)) ∧
    (∀ (n : Nat) (h : AH) (i k : Nat), rLoadA n (.ptr (some (i, k))) h = (h.row i).bind fun cs => if k + n ≤ cs.length then some (.agg ((cs.drop k).take n)) else none) ∧
    (∀ (k : Nat) (v : AVal) (j : Nat), rFieldP k (ea v j) = some (ea v (j + k))) ∧
    (∀ (k : IntKind) (n : Int), (AVal.int k n).cells = some [.int k n]) ∧
    (∀ (b : Bool), (AVal.bool b).cells = some [.bool b]) ∧
    (∀ (b : List UInt8), (AVal.str b).cells = some [.str b]) ∧
    (∀ (a : Option (Nat × Nat × Nat)) (n c : Nat), (AVal.slice a n c).cells = some [.slice a n c]) ∧
    (∀ (a : Option (Nat × Nat)), (AVal.ptr a).cells = some [.ptr a]) ∧
    (∀ (l : List AVal), (AVal.agg l).cells = some l) ∧
    (∀ (z : List AVal) (pl : List (Nat × Nat)) (ps : List (Nat × AVal)), rBuild z pl ps = (aFill (fun i => pl[i]?) z ps).map .agg) ∧
    (∀ (z : List AVal) (n : Nat) (ps : List (Nat × AVal)), rBuildA z n ps = (aFill (fun i => some (i * n, n)) z ps).map .agg) ∧
    (∀ (p : Nat → Option (Nat × Nat)) (cs : List AVal), aFill p cs [] = some cs) ∧
    (∀ (p : Nat → Option (Nat × Nat)) (cs : List AVal) (i : Nat) (v : AVal) (r : List (Nat × AVal)), aFill p cs ((i, v) :: r) = match p i, v.cells with
    | some (off, size), some vs => if vs.length = size ∧ off + vs.length ≤ cs.length then aFill p (splice cs off vs) r else none
    | _, _ => none) ∧
    (∀ (a : AVal) (l : List AVal) (i : Nat), aExtract (.tuple (a :: l)) i = (a :: l)[i]?)) ∧
    ((∀ {α β : Type} (a : α) (f : α → Option β), (some a).bind f = f a) ∧
    (∀ {α β : Type} (a : α) (f : α → β), (some a).map f = some (f a)) ∧
    (∀ {α : Type} (a : α) (l : List α), (a :: l)[0]? = some a) ∧
    (∀ {α : Type} (a : α) (l : List α) (i : Nat), (a :: l)[i + 1]? = l[i]?) ∧
    (∀ {α : Type} (a : α) (l : List α), (a :: l).length = l.length + 1) ∧
    (∀ {α : Type}, ([] : List α).length = 0) ∧
    (∀ {α : Type} (l : List α), l.take 0 = []) ∧
    (∀ {α : Type} (l : List α), l.drop 0 = l) ∧
    (∀ {α : Type} (a : α) (l : List α) (i : Nat), (a :: l).take (i + 1) = a :: l.take i) ∧
    (∀ {α : Type} (a : α) (l : List α) (i : Nat), (a :: l).drop (i + 1) = l.drop i) ∧
    (∀ {α : Type} (l : List α), [] ++ l = l) ∧
    (∀ {α : Type} (l : List α), l ++ [] = l) ∧
    (∀ {α : Type} (a : α) (l m : List α), (a :: l) ++ m = a :: (l ++ m)) ∧
    (∀ {α : Type} (i : Nat), ([] : List α).take i = []) ∧
    (∀ {α : Type} (i : Nat), ([] : List α).drop i = []) ∧
    (∀ {α : Type} (a b : α), (a ≠ b) = ¬ (a = b)) ∧ (¬ True) = False ∧ (¬ False) = True ∧ (∀ a : Int, (a = a) = True) ∧ (∀ a : Nat, (a = a) = True) ∧ (∀ a : AVal, (a = a) = True) ∧
    ((0 : Nat) : Int) = 0 ∧ ((1 : Nat) : Int) = 1 ∧ (∀ [Decidable True], decide True = true) ∧ (∀ [Decidable False], decide False = false) ∧ (!true) = false ∧ (!false) = true ∧ (∀ b : Bool, (true || b) = true) ∧ (∀ b : Bool, (false || b) = b) ∧
    (∀ v : AVal, kSame (some v) v = true) ∧ (∀ b : Bool, (!true || b) = b) ∧ (∀ b : Bool, (!false || b) = true) ∧
    (∀ n : Nat, 0 + n = n) ∧ (∀ n : Nat, n * 1 = n) ∧ (∀ n : Nat, ((n : Int)).toNat = n) ∧ (∀ p : Prop, (p ∧ True) = p) ∧ (∀ p : Prop, (True ∧ p) = p) ∧
    (∀ {α : Type} (a b : α), (if True then a else b) = a) ∧ (∀ {α : Type} (a b : α), (if False then a else b) = b)) ∧
    ((∀ n : Int, -128 ≤ n → n < 128 → IntKind.wrap .i8 n = n) ∧
    (∀ n : Int, -32768 ≤ n → n < 32768 → IntKind.wrap .i16 n = n) ∧
    (∀ n : Int, -2147483648 ≤ n → n < 2147483648 → IntKind.wrap .i32 n = n) ∧
    (∀ n : Int, -9223372036854775808 ≤ n → n < 9223372036854775808 → IntKind.wrap .i64 n = n) ∧
    (∀ n : Int, 0 ≤ n → n < 256 → IntKind.wrap .u8 n = n) ∧
    (∀ n : Int, 0 ≤ n → n < 65536 → IntKind.wrap .u16 n = n) ∧
    (∀ n : Int, 0 ≤ n → n < 4294967296 → IntKind.wrap .u32 n = n) ∧
    (∀ n : Int, 0 ≤ n → n < 18446744073709551616 → IntKind.wrap .u64 n = n) ∧
    (∀ (e : EqK) (c : Bool) (q : IntKind) (x n : Int), 0 ≤ n → n ≤ 8 → rBin .shl e c (.int .i8 x) (.int q n) = some (.int .i8 (IntKind.wrap .i8 (x * 2 ^ n.toNat)))) ∧
    (∀ (e : EqK) (c : Bool) (q : IntKind) (x n : Int), 0 ≤ x → 0 ≤ n → n ≤ 8 → rBin .shr e c (.int .i8 x) (.int q n) = some (.int .i8 (x / 2 ^ n.toNat))) ∧
    (∀ (e : EqK) (c : Bool) (q : IntKind) (x n : Int), 0 ≤ n → n ≤ 16 → rBin .shl e c (.int .i16 x) (.int q n) = some (.int .i16 (IntKind.wrap .i16 (x * 2 ^ n.toNat)))) ∧
    (∀ (e : EqK) (c : Bool) (q : IntKind) (x n : Int), 0 ≤ x → 0 ≤ n → n ≤ 16 → rBin .shr e c (.int .i16 x) (.int q n) = some (.int .i16 (x / 2 ^ n.toNat))) ∧
    (∀ (e : EqK) (c : Bool) (q : IntKind) (x n : Int), 0 ≤ n → n ≤ 32 → rBin .shl e c (.int .i32 x) (.int q n) = some (.int .i32 (IntKind.wrap .i32 (x * 2 ^ n.toNat)))) ∧
    (∀ (e : EqK) (c : Bool) (q : IntKind) (x n : Int), 0 ≤ x → 0 ≤ n → n ≤ 32 → rBin .shr e c (.int .i32 x) (.int q n) = some (.int .i32 (x / 2 ^ n.toNat))) ∧
    (∀ (e : EqK) (c : Bool) (q : IntKind) (x n : Int), 0 ≤ n → n ≤ 64 → rBin .shl e c (.int .i64 x) (.int q n) = some (.int .i64 (IntKind.wrap .i64 (x * 2 ^ n.toNat)))) ∧
    (∀ (e : EqK) (c : Bool) (q : IntKind) (x n : Int), 0 ≤ x → 0 ≤ n → n ≤ 64 → rBin .shr e c (.int .i64 x) (.int q n) = some (.int .i64 (x / 2 ^ n.toNat))) ∧
    (∀ (e : EqK) (c : Bool) (q : IntKind) (x n : Int), 0 ≤ n → n ≤ 8 → rBin .shl e c (.int .u8 x) (.int q n) = some (.int .u8 (IntKind.wrap .u8 (x * 2 ^ n.toNat)))) ∧
    (∀ (e : EqK) (c : Bool) (q : IntKind) (x n : Int), 0 ≤ x → 0 ≤ n → n ≤ 8 → rBin .shr e c (.int .u8 x) (.int q n) = some (.int .u8 (x / 2 ^ n.toNat))) ∧
    (∀ (e : EqK) (c : Bool) (q : IntKind) (x n : Int), 0 ≤ n → n ≤ 16 → rBin .shl e c (.int .u16 x) (.int q n) = some (.int .u16 (IntKind.wrap .u16 (x * 2 ^ n.toNat)))) ∧
    (∀ (e : EqK) (c : Bool) (q : IntKind) (x n : Int), 0 ≤ x → 0 ≤ n → n ≤ 16 → rBin .shr e c (.int .u16 x) (.int q n) = some (.int .u16 (x / 2 ^ n.toNat))) ∧
    (∀ (e : EqK) (c : Bool) (q : IntKind) (x n : Int), 0 ≤ n → n ≤ 32 → rBin .shl e c (.int .u32 x) (.int q n) = some (.int .u32 (IntKind.wrap .u32 (x * 2 ^ n.toNat)))) ∧
    (∀ (e : EqK) (c : Bool) (q : IntKind) (x n : Int), 0 ≤ x → 0 ≤ n → n ≤ 32 → rBin .shr e c (.int .u32 x) (.int q n) = some (.int .u32 (x / 2 ^ n.toNat))) ∧
    (∀ (e : EqK) (c : Bool) (q : IntKind) (x n : Int), 0 ≤ n → n ≤ 64 → rBin .shl e c (.int .u64 x) (.int q n) = some (.int .u64 (IntKind.wrap .u64 (x * 2 ^ n.toNat)))) ∧
    (∀ (e : EqK) (c : Bool) (q : IntKind) (x n : Int), 0 ≤ x → 0 ≤ n → n ≤ 64 → rBin .shr e c (.int .u64 x) (.int q n) = some (.int .u64 (x / 2 ^ n.toNat))) ∧
    (∀ a b : Nat, a < 256 → b < 256 → iOr .u16 ((a : Int) * 256) (b : Int) = (a : Int) * 256 + b) ∧
    (∀ a b : Nat, a < 256 → b < 256 → iOr .i64 ((a : Int) * 256) (b : Int) = (a : Int) * 256 + b) ∧
    (∀ a b : Nat, a < 256 → b < 256 → iOr .u32 ((a : Int) * 256) (b : Int) = (a : Int) * 256 + b) ∧
    (∀ a b : Nat, a < 256 → b < 256 → iOr .u64 ((a : Int) * 256) (b : Int) = (a : Int) * 256 + b)) :=
  ⟨stp, lst, num⟩
end Go.Proofs.Ytfppdfmffdkogaa.AI
namespace Go.Proofs.Ytfppdfmffdkogaa.AI
open Go
set_option linter.unusedSimpArgs false
set_option linter.unusedVariables false

theorem Wp.eq {x : Ans} {a : AVal} {b : AH} (w : Wp x fun r h' => r = a ∧ h' = b) : x = some (a, b) := by
  obtain ⟨r, h', e, rfl, rfl⟩ := w
  exact e
theorem aMax_int (k q : IntKind) (x y : Int) : aMM aMax2 [.int k x, .int q y] = some (.int k (max x y)) := by
  simp only [aMM, aFold, aMax2, Option.bind_some]
  congr 2
  rw [Int.max_def]
  split <;> split <;> omega
theorem aMin_int (k q : IntKind) (x y : Int) : aMM aMin2 [.int k x, .int q y] = some (.int k (min x y)) := by
  simp only [aMM, aFold, aMin2, Option.bind_some]
  congr 2
  rw [Int.min_def]
  split <;> split <;> omega
theorem rBin_quo (e : EqK) (c : Bool) (k : IntKind) (x y : Int) (h : ¬ y = 0) : rBin .quo e c (.int k x) (.int k y) = some (.int k (k.wrap (x.tdiv y))) := by simp [rBin, aInt, h]
theorem rBin_rem (e : EqK) (c : Bool) (k : IntKind) (x y : Int) (h : ¬ y = 0) : rBin .rem e c (.int k x) (.int k y) = some (.int k (x.tmod y)) := by simp [rBin, aInt, h]
theorem rBin_beql (c : Bool) (x y : Bool) : rBin .eql .bool c (.bool x) (.bool y) = some (.bool (x == y)) := rfl
theorem rBin_bneq (c : Bool) (x y : Bool) : rBin .neq .bool c (.bool x) (.bool y) = some (.bool (!(x == y))) := rfl
/-- More steps. -/
theorem sp2 :
    (∀ a : Nat × Nat, aNilCheck (.ptr (some a)) = some (.ptr (some a))) ∧
    (∀ (k q : IntKind) (x y : Int), aMM aMax2 [.int k x, .int q y] = some (.int k (max x y))) ∧
    (∀ (k q : IntKind) (x y : Int), aMM aMin2 [.int k x, .int q y] = some (.int k (min x y))) ∧
    (∀ (c : Bool) (a : Nat × Nat), rBin .eql .ptr c (.ptr (some a)) (.ptr none) = some (.bool false)) ∧
    (∀ (c : Bool) (a : Nat × Nat), rBin .neq .ptr c (.ptr (some a)) (.ptr none) = some (.bool true)) ∧
    (∀ (c : Bool), rBin .eql .ptr c (.ptr none) (.ptr none) = some (.bool true)) ∧
    (∀ (c : Bool), rBin .neq .ptr c (.ptr none) (.ptr none) = some (.bool false)) ∧
    (∀ (e : EqK) (c : Bool) (k : IntKind) (x y : Int), ¬ y = 0 → rBin .quo e c (.int k x) (.int k y) = some (.int k (k.wrap (x.tdiv y)))) ∧
    (∀ (e : EqK) (c : Bool) (k : IntKind) (x y : Int), ¬ y = 0 → rBin .rem e c (.int k x) (.int k y) = some (.int k (x.tmod y))) ∧
    (∀ (c : Bool) (x y : Bool), rBin .eql .bool c (.bool x) (.bool y) = some (.bool (x == y))) ∧
    (∀ (c : Bool) (x y : Bool), rBin .neq .bool c (.bool x) (.bool y) = some (.bool (!(x == y)))) ∧
    (∀ (cs : List AVal) (i : Nat), rField i (.agg cs) = cs[i]?) ∧
    (∀ (cs : List AVal) (n i : Nat), rFieldA n i (.agg cs) = if i + n ≤ cs.length then some (.agg ((cs.drop i).take n)) else none) ∧
    (∀ m n : Nat, Int.tmod (m : Int) (n : Int) = ((m % n : Nat) : Int)) ∧ (∀ m n : Nat, Int.tdiv (m : Int) (n : Int) = ((m / n : Nat) : Int)) ∧
    (∀ b : Bool, (b == true) = b) ∧ (∀ b : Bool, (b && true) = b) ∧ (∀ b : Bool, (true && b) = b) ∧ (∀ b : Bool, (b && false) = false) ∧ (∀ b : Bool, (false && b) = false) :=
  ⟨fun _ => rfl, aMax_int, aMin_int, fun _ _ => rfl, fun _ _ => rfl, fun _ => rfl, fun _ => rfl, rBin_quo, rBin_rem, rBin_beql, rBin_bneq, fun _ _ => rfl, fun _ _ _ => rfl, fun m n => (Int.ofNat_tmod m n).symm, fun m n => (Int.ofNat_tdiv m n).symm, by simp, by simp, by simp, by simp, by simp⟩

variable {h : AH} {v : AVal} {e : TypeId} {sz n : Nat} {c : List AVal} {md : AMode}
theorem splice_len {cs vs : List AVal} {off : Nat} (h : off + vs.length ≤ cs.length) : (splice cs off vs).length = cs.length := by
  simp [splice]; omega
theorem splice_drop {cs vs : List AVal} {o off : Nat} (h : off + o + vs.length ≤ cs.length) : (splice cs (off + o) vs).drop off = splice (cs.drop off) o vs := by
  unfold splice
  rw [List.take_add, List.append_assoc, List.append_assoc, List.drop_left' (by rw [List.length_take]; omega), List.drop_drop, List.append_assoc]
  congr 3
  omega
theorem splice_cells {cs vs : List AVal} {off : Nat} (h1 : cs.all AVal.isCell = true) (h2 : vs.all AVal.isCell = true) : (splice cs off vs).all AVal.isCell = true := by
  rw [List.all_eq_true] at *
  intro x hx
  simp only [splice, List.mem_append] at hx
  rcases hx with (hx | hx) | hx
  · exact h1 x (List.mem_of_mem_take hx)
  · exact h2 x hx
  · exact h1 x (List.mem_of_mem_drop hx)
theorem Ow.pos (o : Ow h v e sz n c) (hn : 0 < c.length) : 0 < n := (Ow.rd o).pos hn
/-- Cells of its own are written. -/
theorem write_ow (w : Wf h) (o : Ow h v e sz n c) {j : Nat} {vs : List AVal} (hj : j + vs.length ≤ c.length) (h0 : 0 < c.length) (hc : vs.all AVal.isCell = true) :
    ∃ h', h.write (bk v) (ofs v + j) vs = some h' ∧ Ow h' v e sz n (splice c j vs) ∧ Ke (isBk v) h h' ∧ h'.n = h.n := by
  obtain ⟨hz, hl, hcc, ho⟩ := o
  rcases ho with ⟨rfl, rfl⟩ | ⟨i, off, cs, opn, par, rfl, hg, h1, h2⟩
  · simp at hl; subst hl; simp at h0
  · have hlen : c.length = cs.length - off := by rw [← h2, List.length_drop]
    obtain ⟨h', e1, e2, e3, e4⟩ := write_own w (off := off + j) (vs := vs) hg (by omega) hc
    refine ⟨h', e1, ⟨hz, by rw [splice_len hj]; exact hl, splice_cells hcc hc, .inr ⟨i, off, _, opn, [], rfl, e2, ?_, ?_⟩⟩, e3.mono fun k hk => hk, e4⟩
    · rw [splice_len (by omega)]; exact h1
    · rw [splice_drop (by omega), h2]
/-- A store into one's own slice. -/
theorem wp_storeOw {Q : AVal → AH → Prop} {j m : Nat} {a x : AVal} {vs : List AVal} {K : AVal → AH → Ans} (w : Wf h) (o : Ow h v e sz n c) (ha : a = ea v j) (hx : x.cells = some vs) (hm : vs.length = m) (hj : j + m ≤ c.length) (h0 : 0 < c.length) (hc : vs.all AVal.isCell = true)
    (k : ∀ h1, Ow h1 v e sz n (splice c j vs) → Ke (isBk v) h h1 → h1.n = h.n → Wp (K (.tuple []) h1) Q) :
    Wp (ke ((rStore m a x h).map fun h' => (.tuple [], h')) K) Q := by
  subst ha hm
  obtain ⟨h', e1, o', k', n'⟩ := write_ow w o hj h0 hc
  have : rStore vs.length (ea v j) x h = some h' := by
    unfold rStore ea
    simp only [hx, if_true, e1]
  rw [this]
  exact k h' o' k' n'
/-- A copy into the beginning of one's own slice: 'd' is a cut of it. -/
theorem wp_copyOw {Q : AVal → AH → Prop} {d x : AVal} {k m : Nat} {cx : List AVal} {K : AVal → AH → Ans} (w : Wf h) (o : Ow h v e sz n c) (hd : d = v ∧ k = n ∨ ((∃ cap, d = .slice (some (bk v, ofs v, sz)) k cap) ∧ k ≤ n) ∨ ((∃ a cap, d = .slice a k cap) ∧ k = 0)) (s : Sz h x sz m cx md) (hc : cx.all AVal.isCell = true)
    (kk : ∀ h1, Ow h1 v e sz n (cx.take (min m k * sz) ++ c.drop (min m k * sz)) → Ke (isBk v) h h1 → h1.n = h.n → Wp (K (.int .i64 (min m k : Nat)) h1) Q) :
    Wp (ke (rCopy sz d x h) K) Q := by
  have hlx := s.clen
  have hz := o.1
  have hlc := o.2.1
  -- what d is like
  have hd' : (∃ a cap, d = .slice a k cap) ∧ (k = 0 ∨ (∃ cap, d = .slice (some (bk v, ofs v, sz)) k cap) ∧ k ≤ n) := by
    rcases hd with ⟨rfl, rfl⟩ | ⟨⟨cap, rfl⟩, hk⟩ | ⟨⟨a, cap, rfl⟩, rfl⟩
    · obtain ⟨a, cap, ev, _⟩ := Ow.rd o
      refine ⟨⟨a, cap, ev⟩, ?_⟩
      rcases Nat.eq_zero_or_pos k with e | e
      · exact .inl e
      · obtain ⟨_, cap, ev⟩ := (Ow.rd o).rd e
        exact .inr ⟨⟨cap, ev⟩, Nat.le_refl _⟩
    · exact ⟨⟨_, _, rfl⟩, .inr ⟨⟨_, rfl⟩, hk⟩⟩
    · exact ⟨⟨_, _, rfl⟩, .inl rfl⟩
  obtain ⟨⟨a, cap, rfl⟩, hk⟩ := hd'
  unfold rCopy
  rw [s.src]
  simp only [Option.bind_some]
  by_cases h0 : min m k = 0
  · have key : (match (AVal.slice a k cap) with
      | .slice none _ _ => some (AVal.int .i64 0, h)
      | .slice (some (i, off, z)) len _ => if min m len = 0 then some (AVal.int .i64 0, h) else if z = sz then (h.write i off (cx.take (min m len * sz))).map fun h' => (AVal.int .i64 (min m len : Nat), h') else none
      | _ => none) = some (AVal.int .i64 0, h) := by
      rcases a with _ | ⟨i, off, z⟩
      · rfl
      · simp only [h0, if_true]
    have := kk h (by rw [h0]; simpa using o) (Ke.refl w) rfl
    rw [h0] at this
    exact Eq.mpr (by congr 1; exact congrArg (fun y => ke y K) key) this
  · obtain ⟨⟨cap', e2⟩, hkn⟩ := hk.resolve_left (by omega)
    simp only [AVal.slice.injEq, true_and] at e2
    obtain ⟨rfl, rfl⟩ := e2
    have hmk : min m k * sz ≤ m * sz := Nat.mul_le_mul_right _ (Nat.min_le_left _ _)
    have hmn : min m k * sz ≤ n * sz := Nat.mul_le_mul_right _ (by omega)
    have hp : 0 < min m k * sz := Nat.mul_pos (by omega) hz
    obtain ⟨h', e1, o', k', n'⟩ := write_ow w o (j := 0) (vs := cx.take (min m k * sz)) (by rw [List.length_take]; omega) (by omega) (by
      rw [List.all_eq_true] at *
      intro y hy
      exact hc y (List.mem_of_mem_take hy))
    simp only [if_neg h0, if_true]
    rw [Nat.add_zero] at e1
    rw [e1]
    refine kk h' ?_ k' n'
    refine o'.to ?_ rfl
    have hT : (cx.take (min m k * sz)).length = min m k * sz := by rw [List.length_take]; omega
    simp only [splice, List.take_zero, List.nil_append, Nat.zero_add, hT]
theorem Ow.cutR (o : Ow h v e sz n c) {q : IntKind} {b : Int} (h0 : 0 ≤ b) (hbn : b ≤ n) :
    ∃ v', rCut sz v none (some (.int q b)) none = some v' ∧ Sz h v' sz b.toNat (c.take (b.toNat * sz)) .rw ∧ ((∃ cap, v' = .slice (some (bk v, ofs v, sz)) b.toNat cap) ∧ b.toNat ≤ n ∨ (∃ a cap, v' = .slice a b.toNat cap) ∧ b.toNat = 0) := by
  obtain ⟨v', e1, s1, _⟩ := (Ow.rd o).cutR (q := q) h0 hbn
  refine ⟨v', e1, s1, ?_⟩
  obtain ⟨a, cap, e2, _⟩ := s1
  rcases Nat.eq_zero_or_pos b.toNat with e0 | e0
  · exact .inr ⟨⟨a, cap, e2⟩, e0⟩
  · left
    refine ⟨?_, by omega⟩
    obtain ⟨hz, hl, hc, ho⟩ := o
    rcases ho with ⟨rfl, rfl⟩ | ⟨i, off, cs, opn, par, rfl, hg, h1, h2⟩
    · omega
    · unfold rCut at e1
      simp only [aBound_none, aBound_int h0 hbn, Option.bind_some] at e1
      split at e1
      · omega
      · split at e1
        · simp only [Option.some.injEq, Nat.zero_mul, Nat.add_zero, Nat.sub_zero] at e1
          exact ⟨_, e1.symm⟩
        · cases e1
theorem Ow.bkIs (o : Ow h v e sz n c) (hn : 0 < n) : isBk v (bk v) := by
  obtain ⟨_, _, _, ho⟩ := o
  rcases ho with ⟨rfl, rfl⟩ | ⟨i, off, cs, opn, par, rfl, _⟩
  · omega
  · rfl
theorem set_rep {α : Type} (a b : α) (i m : Nat) : (List.replicate i a ++ List.replicate (m + 1) b).set i a = List.replicate (i + 1) a ++ List.replicate m b := by
  rw [List.set_append_right _ _ (by simp), List.length_replicate, Nat.sub_self, List.replicate_succ, List.set_cons_zero, List.replicate_succ', List.append_assoc]
  rfl
/-- Bytes, exclusive or. -/
theorem xor_u8 (x y : UInt8) : iXor .u8 (x.toNat : Int) (y.toNat : Int) = ((x ^^^ y).toNat : Int) := by
  unfold iXor
  have e : ∀ z : UInt8, BitVec.ofInt IntKind.u8.bits (z.toNat : Int) = z.toBitVec := by
    intro z
    apply BitVec.eq_of_toNat_eq
    rw [ofInt_toNat (by exact z.toNat_lt)]
    rfl
  rw [e, e, wr_u8 (by omega) (by have := (x.toBitVec ^^^ y.toBitVec).isLt; simp only [IntKind.bits] at this ⊢; omega)]
  rfl
theorem Ow.bk_lt {sz n : Nat} {c : List AVal} (w : Wf h) (o : Ow h v e sz n c) {i : Nat} (hi : isBk v i) : i < h.n := by
  obtain ⟨_, _, _, ho⟩ := o
  rcases ho with ⟨rfl, _⟩ | ⟨j, off, cs, opn, par, rfl, hg, _⟩
  · exact hi.elim
  · simp only [isBk] at hi; subst hi; exact w.lt _ _ hg
theorem splice_one (l : List AVal) (j : Nat) (x : AVal) (hj : j < l.length) : splice l j [x] = l.set j x := by
  unfold splice
  rw [List.set_eq_take_append_cons_drop, if_pos hj]
  simp
theorem bytesOf_set (l : List UInt8) (j : Nat) (x : UInt8) : bytesOf (l.set j x) = (bytesOf l).set j (.int .u8 x.toNat) := by simp [bytesOf, List.map_set]
theorem manyT_u8 (n : Nat) : manyT n [.int .u8 0] = bytesOf (List.replicate n 0) := by
  induction n with
  | zero => rfl
  | succ n ih =>
    simp only [manyT, bytesOf, List.replicate_succ, List.flatten_cons, List.map_cons] at ih ⊢
    rw [ih]; rfl
theorem Ow.roOr {l : List UInt8} (o : Ow h v e 1 l.length (bytesOf l)) : ∃ md, Bs h v l md ∧ (md = .ro ∨ isBk v (bk v)) := by
  have o' := o
  obtain ⟨_, hl, _, ho⟩ := o
  rcases ho with ⟨rfl, hn⟩ | ⟨i, off, cs, opn, par, rfl, _⟩
  · have : l = [] := List.eq_nil_of_length_eq_zero hn
    subst this
    exact ⟨.ro, Sz.nil h 1 (by omega) _, .inl rfl⟩
  · exact ⟨.rw, o'.rd, .inr rfl⟩

/-- What it reads is kept where its block is. -/
theorem Sz.keF {S : Nat → Prop} {h' : AH} (s : Sz h v sz n c md) (k : Ke S h h') (hS : ∀ i, isBk v i → ¬ S i) : Sz h' v sz n c md := by
  obtain ⟨a, cap, rfl, h1, h2, h3, h4⟩ := s
  rcases h4 with h4 | h4 | ⟨i, off, rfl, r⟩
  · exact ⟨a, cap, rfl, h1, h2, h3, .inl h4⟩
  · exact ⟨a, cap, rfl, h1, h2, h3, .inr (.inl h4)⟩
  · exact ⟨_, cap, rfl, h1, h2, h3, .inr (.inr ⟨i, off, rfl, r.ke k (.inr (hS i rfl))⟩)⟩
theorem Sz.bk_lt (w : Wf h) (s : Sz h v sz n c md) (hn : 0 < n) {i : Nat} (hi : isBk v i) : i < h.n := by
  obtain ⟨⟨⟨cs, e, o, p, g, _⟩, _⟩, cap, e2⟩ := s.rd hn
  rw [e2] at hi
  simp only [isBk] at hi
  subst hi
  exact w.lt _ _ g
/-- What is behind a beginning of one's own. -/
theorem Ow.cutL (o : Ow h v e sz n c) {p : IntKind} {a : Int} (h0 : 0 ≤ a) (ha : a ≤ n) :
    ∃ v', rCut sz v (some (.int p a)) none none = some v' ∧ Ow h v' e sz (n - a.toNat) (c.drop (a.toNat * sz)) ∧ ∀ i, isBk v' i → isBk v i := by
  obtain ⟨hz, hl, hc, ho⟩ := o
  have hcd : (c.drop (a.toNat * sz)).all AVal.isCell = true := by
    rw [List.all_eq_true] at hc ⊢
    intro x hx
    exact hc x (List.mem_of_mem_drop hx)
  have hlen : (c.drop (a.toNat * sz)).length = (n - a.toNat) * sz := by simp [hl, Nat.sub_mul]
  have hmn : a.toNat * sz ≤ n * sz := Nat.mul_le_mul_right _ (by omega)
  rcases ho with ⟨rfl, rfl⟩ | ⟨i, off, cs, opn, par, rfl, hg, h1, h2⟩
  · have a0 : a = 0 := by omega
    subst a0
    have : c = [] := List.eq_nil_of_length_eq_zero (by simpa using hl)
    subst this
    exact ⟨.slice none 0 0, by simp [rCut, aBound], by simpa using Ow.nil h e sz hz, fun i hi => hi⟩
  · refine ⟨.slice (some (i, off + a.toNat * sz, sz)) (n - a.toNat) (n - a.toNat), ?_, ⟨hz, hlen, hcd, .inr ⟨i, off + a.toNat * sz, cs, opn, par, rfl, hg, ?_, ?_⟩⟩, fun i hi => hi⟩
    · unfold rCut
      have e1 : aBound (some (.int p a)) 0 n = some a.toNat := aBound_int h0 (by omega)
      simp only [aBound_none, e1, Option.bind_some]
      rw [if_neg (by omega), if_pos (by simp [hz])]
    · rw [Nat.sub_mul]; omega
    · rw [← h2, List.drop_drop]
end Go.Proofs.Ytfppdfmffdkogaa.AI
