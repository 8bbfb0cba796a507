/- queue: its memory. -/
import Derived.Test.YtfppdfmffdkogaaSync
namespace Go.Proofs.Ytfppdfmffdkogaa.AI
open Go
set_option linter.unusedSimpArgs false
set_option linter.unusedVariables false
variable {ov : AOver} {h : AH} {p off : Nat} {cs : List AVal} {t : TypeId} {ob : Bool} {par : List Nat}

/-- What it holds, and what was made. -/
def Gr (F : Nat → Prop) (h h' : AH) (i : Nat) : Prop := F i ∨ (h.n ≤ i ∧ i < h'.n)
theorem manyT_one' (n : Nat) (x : AVal) : manyT n [x] = List.replicate n x := by
  induction n with
  | zero => rfl
  | succ n ih =>
    simp only [manyT, List.replicate_succ, List.flatten_cons] at ih ⊢
    rw [ih]; rfl
theorem cells_rep' (n : Nat) {x : AVal} (h : x.isCell = true) : (List.replicate n x).all AVal.isCell = true := by
  rw [List.all_eq_true]; intro y hy; rw [List.eq_of_mem_replicate hy]; exact h
theorem uadd_spec (X : Xs ov) (n : Nat) (w : Wf h) {x y : Int} (g : h.get p = some ⟨.row cs t ob, .rw, par⟩) (hx : cs[off]? = some (.int .u64 x)) :
    Wp (kc ov (n + 2) N_sync_atomic_Uint64_Add [.ptr (some (p, off)), .int .u64 y] h) fun r h1 => r = .int .u64 (IntKind.wrap .u64 (x + y)) ∧ Ke (· = p) h h1 ∧ h1.n = h.n ∧ h1.get p = some ⟨.row (splice cs off [.int .u64 (IntKind.wrap .u64 (x + y))]) t ob, .rw, []⟩ := by
  have c := ov_call (h := h) (n := n) X.sync_atomic_AddUint64 [.ptr (some (p, off)), .int .u64 y]
  rw [C_sync_atomic_Uint64_Add X.p]; unfold F_sync_atomic_Uint64_Add
  (try simp -dsimp (disch := omega) only [↓pre, sp, sp2, wp_some, Int.cast_ofNat_Int, Nat.reduceAdd, Nat.reduceMul, Nat.reduceSub, Nat.reduceLeDiff, Nat.reduceEqDiff, Nat.reducePow, Int.reduceToNat, Int.reducePow, Int.reduceAdd, Int.reduceSub, Int.reduceMul, Int.reduceLT, Int.reduceLE, Int.reduceEq, Int.reduceNeg, c, Nat.add_zero])
  refine Wp.bind (xAdd_wp w g hx) fun v1 h1 q => ?_
  exact Wp.ret q
theorem uload_spec (X : Xs ov) (n : Nat) {x : Int} (hr : h.row p = some cs) (hx : cs[off]? = some (.int .u64 x)) : kc ov (n + 2) N_sync_atomic_Uint64_Load [.ptr (some (p, off))] h = some (.int .u64 x, h) := by
  have c := ov_call (h := h) (n := n) X.sync_atomic_LoadUint64 [.ptr (some (p, off))]
  rw [xLoad_eq hr hx] at c
  rw [C_sync_atomic_Uint64_Load X.p]; unfold F_sync_atomic_Uint64_Load
  (try simp -dsimp (disch := omega) only [↓pre, sp, sp2, wp_some, Int.cast_ofNat_Int, Nat.reduceAdd, Nat.reduceMul, Nat.reduceSub, Nat.reduceLeDiff, Nat.reduceEqDiff, Nat.reducePow, Int.reduceToNat, Int.reducePow, Int.reduceAdd, Int.reduceSub, Int.reduceMul, Int.reduceLT, Int.reduceLE, Int.reduceEq, Int.reduceNeg, c, Nat.add_zero])
/-- A queue: its room, where the first lies, what waits; how many were put, refused, taken; is the room made? -/
structure QSt where
  most : Nat
  at_ : Nat
  w : List AVal
  put : Nat
  ref : Nat
  tak : Nat
  made : Bool
def QSt.pop (s : QSt) : QSt := { s with at_ := (s.at_ + 1) % s.most, w := s.w.tail, tak := s.tak + 1 }
def QSt.push (s : QSt) (y : AVal) : QSt := if s.w.length = s.most then { s with ref := s.ref + 1, made := true } else { s with w := s.w ++ [y], put := s.put + 1, made := true }
/-- Its memory, all of it in F; lk: the lock. -/
structure QC (tq te : TypeId) (h : AH) (p : Nat) (s : QSt) (lk : Int) (F : Nat → Prop) (cs : List AVal) : Prop where
  g : ∃ par, h.get p = some ⟨.row cs tq false, .rw, par⟩
  l : cs.length = 12
  c0 : cs[0]? = some (.int .i32 lk)
  c2 : cs[2]? = some (.int .u32 (if s.made then 1 else 0))
  c3 : cs[3]? = some (.int .i32 0)
  c5 : cs[5]? = some (.int .i64 s.most)
  c7 : cs[7]? = some (.int .i64 s.at_)
  c8 : cs[8]? = some (.int .i64 s.w.length)
  c9 : cs[9]? = some (.int .u64 s.put)
  c10 : cs[10]? = some (.int .u64 s.ref)
  c11 : cs[11]? = some (.int .u64 s.tak)
  m1 : 1 ≤ s.most
  m64 : s.most ≤ 64
  at_ : s.at_ < s.most
  n : s.w.length ≤ s.most
  nm : s.made = false → s.w = []
  r : s.made = true → ∃ v ring, cs[6]? = some v ∧ Ow h v te 1 s.most ring ∧ (∀ i, isBk v i → i ≠ p ∧ F i) ∧ ∀ (k : Nat) y, s.w[k]? = some y → ring[(s.at_ + k) % s.most]? = some y
  fp : F p
  fl : ∀ i, F i → i < h.n
def Qu (tq te : TypeId) (h : AH) (p : Nat) (s : QSt) (lk : Int) (F : Nat → Prop) : Prop := ∃ cs, QC tq te h p s lk F cs
variable {tq te : TypeId} {s : QSt} {lk : Int} {F : Nat → Prop}
theorem Qu.ke {S : Nat → Prop} {h' : AH} (L : Qu tq te h p s lk F) (k : Ke S h h') (hS : ∀ i, S i → ¬ F i) : Qu tq te h' p s lk F := by
  obtain ⟨cs, ⟨par, g⟩, l, c0, c2, c3, c5, c7, c8, c9, c10, c11, m1, m64, at_, n, nm, r, fp, fl⟩ := L
  refine ⟨cs, ⟨par, k.gt g fun hh => hS p hh fp⟩, l, c0, c2, c3, c5, c7, c8, c9, c10, c11, m1, m64, at_, n, nm, fun hm => ?_, fp, fun i hi => Nat.lt_of_lt_of_le (fl i hi) k.n⟩
  obtain ⟨v, ring, e, o, f, rg⟩ := r hm
  exact ⟨v, ring, e, o.ke k fun i hi hh => hS i hh (f i hi).2, f, rg⟩
theorem Qu.grow {G : Nat → Prop} (L : Qu tq te h p s lk F) (hG : ∀ i, F i → G i) (hl : ∀ i, G i → i < h.n) : Qu tq te h p s lk G := by
  obtain ⟨cs, g, l, c0, c2, c3, c5, c7, c8, c9, c10, c11, m1, m64, at_, n, nm, r, fp, fl⟩ := L
  refine ⟨cs, g, l, c0, c2, c3, c5, c7, c8, c9, c10, c11, m1, m64, at_, n, nm, fun hm => ?_, hG p fp, hl⟩
  obtain ⟨v, ring, e, o, f, rg⟩ := r hm
  exact ⟨v, ring, e, o, fun i hi => ⟨(f i hi).1, hG i (f i hi).2⟩, rg⟩
/-- The lock is taken, or given back. -/
theorem Qu.lock {lk' : Int} {h' : AH} (L : Qu tq te h p s lk F) (k : Ke (· = p) h h') (g' : ∀ cs par, h.get p = some ⟨.row cs tq false, .rw, par⟩ → ∃ par', h'.get p = some ⟨.row (cs.set 0 (.int .i32 lk')) tq false, .rw, par'⟩) : Qu tq te h' p s lk' F := by
  obtain ⟨cs, ⟨par, g⟩, l, c0, c2, c3, c5, c7, c8, c9, c10, c11, m1, m64, at_, n, nm, r, fp, fl⟩ := L
  obtain ⟨par', g2⟩ := g' cs par g
  refine ⟨_, ⟨par', g2⟩, by rw [List.length_set]; exact l, ?_, ?_, ?_, ?_, ?_, ?_, ?_, ?_, ?_, m1, m64, at_, n, nm, fun hm => ?_, fp, fun i hi => Nat.lt_of_lt_of_le (fl i hi) k.n⟩
  · rw [List.getElem?_set, if_pos rfl, if_pos (by omega)]
  · rw [List.getElem?_set_ne (by omega)]; exact c2
  · rw [List.getElem?_set_ne (by omega)]; exact c3
  · rw [List.getElem?_set_ne (by omega)]; exact c5
  · rw [List.getElem?_set_ne (by omega)]; exact c7
  · rw [List.getElem?_set_ne (by omega)]; exact c8
  · rw [List.getElem?_set_ne (by omega)]; exact c9
  · rw [List.getElem?_set_ne (by omega)]; exact c10
  · rw [List.getElem?_set_ne (by omega)]; exact c11
  · obtain ⟨v, ring, e, o, f, rg⟩ := r hm
    exact ⟨v, ring, by rw [List.getElem?_set_ne (by omega)]; exact e, o.ke k fun i hi hh => (f i hi).1 hh, f, rg⟩
theorem Qu.dolock (X : Xs ov) (n : Nat) (w : Wf h) (L : Qu tq te h p s 0 F) : Wp (kc ov (n + 3) N_sync_Mutex_Lock [.ptr (some (p, 0))] h) fun r h' => Ke F h h' ∧ h'.n = h.n ∧ Qu tq te h' p s 1 F := by
  obtain ⟨cs, C⟩ := id L
  obtain ⟨par, g⟩ := C.g
  refine (lock_spec X n w g C.c0).mono ?_
  rintro r h' ⟨e, k, hn, g'⟩
  rw [splice_one _ _ _ (by rw [C.l]; omega)] at g'
  exact ⟨k.mono fun i hi => by subst hi; exact C.fp, hn, L.lock k fun cs2 par2 g2 => by rw [g] at g2; cases g2; exact ⟨_, g'⟩⟩
theorem Qu.unlock (X : Xs ov) (n : Nat) (w : Wf h) (L : Qu tq te h p s 1 F) : Wp (kd ov (n + 2) N_sync_Mutex_Unlock [.ptr (some (p, 0))] h) fun r h' => Ke F h h' ∧ h'.n = h.n ∧ Qu tq te h' p s 0 F := by
  obtain ⟨cs, C⟩ := id L
  obtain ⟨par, g⟩ := C.g
  refine (unlock_specD X n w g C.c0).mono ?_
  rintro r h' ⟨e, k, hn, g'⟩
  rw [splice_one _ _ _ (by rw [C.l]; omega)] at g'
  exact ⟨k.mono fun i hi => by subst hi; exact C.fp, hn, L.lock k fun cs2 par2 g2 => by rw [g] at g2; cases g2; exact ⟨_, g'⟩⟩
end Go.Proofs.Ytfppdfmffdkogaa.AI
