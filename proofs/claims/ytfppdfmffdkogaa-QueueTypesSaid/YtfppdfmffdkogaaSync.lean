/- sync: Once, Mutex, of one goroutine. -/
import Derived.Test.YtfppdfmffdkogaaF
namespace Go.Proofs.Ytfppdfmffdkogaa.AI
open Go
set_option linter.unusedSimpArgs false
set_option linter.unusedVariables false
variable {ov : AOver} {h : AH} {v : AVal} {md : AMode} {p off : Nat} {cs : List AVal} {t : TypeId} {ob : Bool} {par : List Nat}

structure Xs (ov : AOver) : Prop where
  p : Plain ov
  sync_atomic_AddUint64 : ov N_sync_atomic_AddUint64 = some (xAdd .u64)
  sync_atomic_LoadUint64 : ov N_sync_atomic_LoadUint64 = some (xLoad .u64)
  sync_atomic_LoadUint32 : ov N_sync_atomic_LoadUint32 = some (xLoad .u32)
  internal_race_Disable : ov N_internal_race_Disable = some xMark0
  sync_atomic_CompareAndSwapInt32 : ov N_sync_atomic_CompareAndSwapInt32 = some (xCas .i32)
  internal_race_Enable : ov N_internal_race_Enable = some xMark0
  internal_race_Acquire : ov N_internal_race_Acquire = some xMarked
  internal_race_ReleaseMerge : ov N_internal_race_ReleaseMerge = some xMarked
  sync_atomic_AddInt32 : ov N_sync_atomic_AddInt32 = some (xAdd .i32)
  sync_atomic_StoreUint32 : ov N_sync_atomic_StoreUint32 = some (xStore .u32)

theorem ov_call {f n : Nat} {g : List AVal → AH → Ans} (e : ov f = some g) (args : List AVal) : kc ov (n + 1) f args h = g args h := by
  unfold kc; simp only [kcall, e]
theorem kd_eq (n : Nat) (f : Nat) (args : List AVal) : kd ov n f args h = kFunc Try.prog [] (kc ov n) (fun _ _ _ => none) f args h := rfl
theorem rUnsafe_eq (g : h.get p = some ⟨.row cs t ob, .rw, par⟩) (hl : off < cs.length) : rUnsafe (.ptr (some (p, off))) h = some (.ptr (some (p, off))) := by
  unfold rUnsafe; simp only [row_rw g, Option.bind_some, if_pos hl]
theorem lock_spec (X : Xs ov) (n : Nat) (w : Wf h) (g : h.get p = some ⟨.row cs t ob, .rw, par⟩) (hx : cs[off]? = some (.int .i32 0)) :
    Wp (kc ov (n + 3) N_sync_Mutex_Lock [.ptr (some (p, off))] h) fun r h' => r = .tuple [] ∧ Ke (· = p) h h' ∧ h'.n = h.n ∧ h'.get p = some ⟨.row (splice cs off [.int .i32 1]) t ob, .rw, []⟩ := by
  have hlt := lt_of_at hx
  rw [C_sync_Mutex_Lock X.p]; unfold F_sync_Mutex_Lock
  (try simp -dsimp (disch := omega) only [↓pre, sp, sp2, wp_some, Int.cast_ofNat_Int, Nat.reduceAdd, Nat.reduceMul, Nat.reduceSub, Nat.reduceLeDiff, Nat.reduceEqDiff, Nat.reducePow, Int.reduceToNat, Int.reducePow, Int.reduceAdd, Int.reduceSub, Int.reduceMul, Int.reduceLT, Int.reduceLE, Int.reduceEq, Int.reduceNeg, Nat.add_zero])
  have key : Wp (kc ov (n + 2) N_internal_sync_Mutex_Lock [.ptr (some (p, off))] h) fun r h' => r = .tuple [] ∧ Ke (· = p) h h' ∧ h'.n = h.n ∧ h'.get p = some ⟨.row (splice cs off [.int .i32 1]) t ob, .rw, []⟩ := by
    rw [C_internal_sync_Mutex_Lock X.p]; unfold F_internal_sync_Mutex_Lock
    have d := fun h => ov_call (h := h) (n := n) X.internal_race_Disable []
    have e := fun h => ov_call (h := h) (n := n) X.internal_race_Enable []
    have x0 : ∀ h, xMark0 [] h = some (.tuple [], h) := fun _ => rfl
    have c := ov_call (h := h) (n := n) X.sync_atomic_CompareAndSwapInt32 [.ptr (some (p, off)), .int .i32 0, .int .i32 1]
    (try simp -dsimp (disch := omega) only [↓pre, sp, sp2, wp_some, Int.cast_ofNat_Int, Nat.reduceAdd, Nat.reduceMul, Nat.reduceSub, Nat.reduceLeDiff, Nat.reduceEqDiff, Nat.reducePow, Int.reduceToNat, Int.reducePow, Int.reduceAdd, Int.reduceSub, Int.reduceMul, Int.reduceLT, Int.reduceLE, Int.reduceEq, Int.reduceNeg, d, x0, Nat.add_zero, c])
    refine Wp.bind (xCas_wp w g hx) fun v1 h1 ⟨e1, k1, n1, g1⟩ => ?_
    subst e1
    (try simp -dsimp (disch := omega) only [↓pre, sp, sp2, wp_some, Int.cast_ofNat_Int, Nat.reduceAdd, Nat.reduceMul, Nat.reduceSub, Nat.reduceLeDiff, Nat.reduceEqDiff, Nat.reducePow, Int.reduceToNat, Int.reducePow, Int.reduceAdd, Int.reduceSub, Int.reduceMul, Int.reduceLT, Int.reduceLE, Int.reduceEq, Int.reduceNeg])
    refine wp_kJ (fun _ h2 => h1 = h2) (fun j hj => ?_) ?_
    · have hu := rUnsafe_eq (off := off) g1 (by rw [splice_len (by simp; omega)]; exact hlt)
      have a := fun h => ov_call (h := h) (n := n) X.internal_race_Acquire [.ptr (some (p, off))]
      have x1 : ∀ h, xMarked [.ptr (some (p, off))] h = some (.tuple [], h) := fun _ => rfl
      (try simp -dsimp (disch := omega) only [↓pre, sp, sp2, wp_some, Int.cast_ofNat_Int, Nat.reduceAdd, Nat.reduceMul, Nat.reduceSub, Nat.reduceLeDiff, Nat.reduceEqDiff, Nat.reducePow, Int.reduceToNat, Int.reducePow, Int.reduceAdd, Int.reduceSub, Int.reduceMul, Int.reduceLT, Int.reduceLE, Int.reduceEq, Int.reduceNeg, e, x0, hu, a, x1])
      exact hj _ _ rfl
    · rintro _ _ rfl
      exact Wp.ret ⟨rfl, k1, n1, g1⟩
  refine Wp.bind key fun v1 h1 ⟨e1, k1⟩ => ?_
  exact Wp.ret ⟨rfl, k1⟩
theorem unlock_core (X : Xs ov) (n : Nat) (w : Wf h) (g : h.get p = some ⟨.row cs t ob, .rw, par⟩) (hx : cs[off]? = some (.int .i32 1)) :
    Wp (kc ov (n + 2) N_internal_sync_Mutex_Unlock [.ptr (some (p, off))] h) fun r h' => r = .tuple [] ∧ Ke (· = p) h h' ∧ h'.n = h.n ∧ h'.get p = some ⟨.row (splice cs off [.int .i32 0]) t ob, .rw, []⟩ := by
  have hlt := lt_of_at hx
  rw [C_internal_sync_Mutex_Unlock X.p]; unfold F_internal_sync_Mutex_Unlock
  have d := fun h => ov_call (h := h) (n := n) X.internal_race_Disable []
  have e := fun h => ov_call (h := h) (n := n) X.internal_race_Enable []
  have a := fun h => ov_call (h := h) (n := n) X.internal_race_ReleaseMerge [.ptr (some (p, off))]
  have x0 : ∀ h, xMark0 [] h = some (.tuple [], h) := fun _ => rfl
  have x1 : ∀ h, xMarked [.ptr (some (p, off))] h = some (.tuple [], h) := fun _ => rfl
  refine wp_kJ (fun _ h2 => h = h2) (fun j hj => ?_) ?_
  · have hu := rUnsafe_eq (off := off) g hlt
    (try simp -dsimp (disch := omega) only [↓pre, sp, sp2, wp_some, Int.cast_ofNat_Int, Nat.reduceAdd, Nat.reduceMul, Nat.reduceSub, Nat.reduceLeDiff, Nat.reduceEqDiff, Nat.reducePow, Int.reduceToNat, Int.reducePow, Int.reduceAdd, Int.reduceSub, Int.reduceMul, Int.reduceLT, Int.reduceLE, Int.reduceEq, Int.reduceNeg, Nat.add_zero, row_rw g, hx, hu, a, x1, d, x0])
    exact hj _ _ rfl
  · rintro _ _ rfl
    have c := ov_call (h := h) (n := n) X.sync_atomic_AddInt32 [.ptr (some (p, off)), .int .i32 (-1)]
    (try simp -dsimp (disch := omega) only [↓pre, sp, sp2, wp_some, Int.cast_ofNat_Int, Nat.reduceAdd, Nat.reduceMul, Nat.reduceSub, Nat.reduceLeDiff, Nat.reduceEqDiff, Nat.reducePow, Int.reduceToNat, Int.reducePow, Int.reduceAdd, Int.reduceSub, Int.reduceMul, Int.reduceLT, Int.reduceLE, Int.reduceEq, Int.reduceNeg, Nat.add_zero, c])
    refine Wp.bind (xAdd_wp w g hx) fun v1 h1 ⟨e1, k1, n1, g1⟩ => ?_
    subst e1
    have ew : IntKind.wrap .i32 ((1 : Int) + -1) = 0 := by decide
    rw [ew] at g1 ⊢
    (try simp -dsimp (disch := omega) only [↓pre, sp, sp2, wp_some, Int.cast_ofNat_Int, Nat.reduceAdd, Nat.reduceMul, Nat.reduceSub, Nat.reduceLeDiff, Nat.reduceEqDiff, Nat.reducePow, Int.reduceToNat, Int.reducePow, Int.reduceAdd, Int.reduceSub, Int.reduceMul, Int.reduceLT, Int.reduceLE, Int.reduceEq, Int.reduceNeg])
    refine wp_kJ (fun _ h2 => h1 = h2) (fun j hj => ?_) ?_
    · refine wp_kIf (fun cc => ?_) (fun cc => ?_)
      · cases cc
      · exact hj _ _ rfl
    · rintro _ _ rfl
      (try simp -dsimp (disch := omega) only [↓pre, sp, sp2, wp_some, Int.cast_ofNat_Int, Nat.reduceAdd, Nat.reduceMul, Nat.reduceSub, Nat.reduceLeDiff, Nat.reduceEqDiff, Nat.reducePow, Int.reduceToNat, Int.reducePow, Int.reduceAdd, Int.reduceSub, Int.reduceMul, Int.reduceLT, Int.reduceLE, Int.reduceEq, Int.reduceNeg, e, x0])
      exact ⟨k1, n1, g1⟩
theorem unlock_spec (X : Xs ov) (n : Nat) (w : Wf h) (g : h.get p = some ⟨.row cs t ob, .rw, par⟩) (hx : cs[off]? = some (.int .i32 1)) :
    Wp (kc ov (n + 3) N_sync_Mutex_Unlock [.ptr (some (p, off))] h) fun r h' => r = .tuple [] ∧ Ke (· = p) h h' ∧ h'.n = h.n ∧ h'.get p = some ⟨.row (splice cs off [.int .i32 0]) t ob, .rw, []⟩ := by
  rw [C_sync_Mutex_Unlock X.p]; unfold F_sync_Mutex_Unlock
  (try simp -dsimp (disch := omega) only [↓pre, sp, sp2, wp_some, Int.cast_ofNat_Int, Nat.reduceAdd, Nat.reduceMul, Nat.reduceSub, Nat.reduceLeDiff, Nat.reduceEqDiff, Nat.reducePow, Int.reduceToNat, Int.reducePow, Int.reduceAdd, Int.reduceSub, Int.reduceMul, Int.reduceLT, Int.reduceLE, Int.reduceEq, Int.reduceNeg, Nat.add_zero])
  refine Wp.bind (unlock_core X n w g hx) fun v1 h1 ⟨e1, k1⟩ => ?_
  exact Wp.ret ⟨rfl, k1⟩
theorem unlock_specD (X : Xs ov) (n : Nat) (w : Wf h) (g : h.get p = some ⟨.row cs t ob, .rw, par⟩) (hx : cs[off]? = some (.int .i32 1)) :
    Wp (kd ov (n + 2) N_sync_Mutex_Unlock [.ptr (some (p, off))] h) fun r h' => r = .tuple [] ∧ Ke (· = p) h h' ∧ h'.n = h.n ∧ h'.get p = some ⟨.row (splice cs off [.int .i32 0]) t ob, .rw, []⟩ := by
  rw [kd_eq, F_sync_Mutex_Unlock_eq]; unfold F_sync_Mutex_Unlock
  (try simp -dsimp (disch := omega) only [↓pre, sp, sp2, wp_some, Int.cast_ofNat_Int, Nat.reduceAdd, Nat.reduceMul, Nat.reduceSub, Nat.reduceLeDiff, Nat.reduceEqDiff, Nat.reducePow, Int.reduceToNat, Int.reducePow, Int.reduceAdd, Int.reduceSub, Int.reduceMul, Int.reduceLT, Int.reduceLE, Int.reduceEq, Int.reduceNeg, Nat.add_zero])
  refine Wp.bind (unlock_core X n w g hx) fun v1 h1 ⟨e1, k1⟩ => ?_
  exact Wp.ret ⟨rfl, k1⟩
theorem bload_spec (X : Xs ov) (n : Nat) (hr : h.row p = some cs) {b : Bool} (hx : cs[off]? = some (.int .u32 (if b then 1 else 0))) : kc ov (n + 2) N_sync_atomic_Bool_Load [.ptr (some (p, off))] h = some (.bool b, h) := by
  rw [C_sync_atomic_Bool_Load X.p]; unfold F_sync_atomic_Bool_Load
  have c := ov_call (h := h) (n := n) X.sync_atomic_LoadUint32 [.ptr (some (p, off))]
  rw [xLoad_eq hr hx] at c
  (try simp -dsimp (disch := omega) only [↓pre, sp, sp2, wp_some, Int.cast_ofNat_Int, Nat.reduceAdd, Nat.reduceMul, Nat.reduceSub, Nat.reduceLeDiff, Nat.reduceEqDiff, Nat.reducePow, Int.reduceToNat, Int.reducePow, Int.reduceAdd, Int.reduceSub, Int.reduceMul, Int.reduceLT, Int.reduceLE, Int.reduceEq, Int.reduceNeg, Nat.add_zero, c])
  cases b <;> rfl
theorem bstore_specD (X : Xs ov) (n : Nat) (w : Wf h) (g : h.get p = some ⟨.row cs t ob, .rw, par⟩) (hlt : off < cs.length) :
    Wp (kd ov (n + 1) N_sync_atomic_Bool_Store [.ptr (some (p, off)), .bool true] h) fun r h' => r = .tuple [] ∧ Ke (· = p) h h' ∧ h'.n = h.n ∧ h'.get p = some ⟨.row (splice cs off [.int .u32 1]) t ob, .rw, []⟩ := by
  rw [kd_eq, F_sync_atomic_Bool_Store_eq]; unfold F_sync_atomic_Bool_Store
  have hb : kc ov (n + 1) N_sync_atomic_b32 [.bool true] h = some (.int .u32 1, h) := by
    rw [C_sync_atomic_b32 X.p]; unfold F_sync_atomic_b32
    (try simp -dsimp (disch := omega) only [↓pre, sp, sp2, wp_some, Int.cast_ofNat_Int, Nat.reduceAdd, Nat.reduceMul, Nat.reduceSub, Nat.reduceLeDiff, Nat.reduceEqDiff, Nat.reducePow, Int.reduceToNat, Int.reducePow, Int.reduceAdd, Int.reduceSub, Int.reduceMul, Int.reduceLT, Int.reduceLE, Int.reduceEq, Int.reduceNeg])
  have c := ov_call (h := h) (n := n) X.sync_atomic_StoreUint32 [.ptr (some (p, off)), .int .u32 1]
  (try simp -dsimp (disch := omega) only [↓pre, sp, sp2, wp_some, Int.cast_ofNat_Int, Nat.reduceAdd, Nat.reduceMul, Nat.reduceSub, Nat.reduceLeDiff, Nat.reduceEqDiff, Nat.reducePow, Int.reduceToNat, Int.reducePow, Int.reduceAdd, Int.reduceSub, Int.reduceMul, Int.reduceLT, Int.reduceLE, Int.reduceEq, Int.reduceNeg, Nat.add_zero, hb, c])
  refine Wp.bind (xStore_wp w g hlt) fun v1 h1 ⟨e1, k1⟩ => ?_
  exact Wp.ret ⟨rfl, k1⟩
/-- What was done once is not done again. -/
theorem once_done (X : Xs ov) (n : Nat) (hr : h.row p = some cs) (hx : cs[off]? = some (.int .u32 1)) (f : AVal) : kc ov (n + 3) N_sync_Once_Do [.ptr (some (p, off)), f] h = some (.tuple [], h) := by
  refine Wp.eq ?_
  rw [C_sync_Once_Do X.p]; unfold F_sync_Once_Do
  have hb := bload_spec X n (b := true) hr hx
  (try simp -dsimp (disch := omega) only [↓pre, sp, sp2, wp_some, Int.cast_ofNat_Int, Nat.reduceAdd, Nat.reduceMul, Nat.reduceSub, Nat.reduceLeDiff, Nat.reduceEqDiff, Nat.reducePow, Int.reduceToNat, Int.reducePow, Int.reduceAdd, Int.reduceSub, Int.reduceMul, Int.reduceLT, Int.reduceLE, Int.reduceEq, Int.reduceNeg, Nat.add_zero, hb])
  refine wp_kJ (fun _ h2 => h = h2) (fun j hj => ?_) ?_
  · exact hj _ _ rfl
  · rintro _ _ rfl
    exact Wp.ret ⟨rfl, rfl⟩
/-- The first time: f is run between the lock and its opening. -/
theorem once_first (X : Xs ov) (n : Nat) (w : Wf h) (g : h.get p = some ⟨.row cs t ob, .rw, par⟩) (hx : cs[off]? = some (.int .u32 0)) (hm : cs[off + 1]? = some (.int .i32 0)) {f : AVal} {R : List AVal → AH → Prop}
    (hf : ∀ h1, Ke (· = p) h h1 → h1.n = h.n → h1.get p = some ⟨.row (splice cs (off + 1) [.int .i32 1]) t ob, .rw, []⟩ →
      Wp (rCallV (kc ov (n + 4)) f [] h1) fun r h2 => Ke (· = p) h1 h2 ∧ ∃ cs2 par2, h2.get p = some ⟨.row cs2 t ob, .rw, par2⟩ ∧ cs2[off + 1]? = some (.int .i32 1) ∧ R cs2 h2) :
    Wp (kc ov (n + 6) N_sync_Once_Do [.ptr (some (p, off)), f] h) fun r h' => r = .tuple [] ∧ Ke (· = p) h h' ∧ ∃ cs2 h2, Ke (· = p) h2 h' ∧ R cs2 h2 ∧ h'.get p = some ⟨.row (splice (splice cs2 off [.int .u32 1]) (off + 1) [.int .i32 0]) t ob, .rw, []⟩ := by
  rw [C_sync_Once_Do X.p]; unfold F_sync_Once_Do
  have hb := bload_spec X (n + 3) (b := false) (row_rw g) hx
  (try simp -dsimp (disch := omega) only [↓pre, sp, sp2, wp_some, Int.cast_ofNat_Int, Nat.reduceAdd, Nat.reduceMul, Nat.reduceSub, Nat.reduceLeDiff, Nat.reduceEqDiff, Nat.reducePow, Int.reduceToNat, Int.reducePow, Int.reduceAdd, Int.reduceSub, Int.reduceMul, Int.reduceLT, Int.reduceLE, Int.reduceEq, Int.reduceNeg, Nat.add_zero, hb])
  refine wp_kJ (fun _ h' => Ke (· = p) h h' ∧ ∃ cs2 h2, Ke (· = p) h2 h' ∧ R cs2 h2 ∧ h'.get p = some ⟨.row (splice (splice cs2 off [.int .u32 1]) (off + 1) [.int .i32 0]) t ob, .rw, []⟩) (fun j hj => ?_) ?_
  · have key : Wp (kc ov (n + 5) N_sync_Once_doSlow [.ptr (some (p, off)), f] h) fun r h' => Ke (· = p) h h' ∧ ∃ cs2 h2, Ke (· = p) h2 h' ∧ R cs2 h2 ∧ h'.get p = some ⟨.row (splice (splice cs2 off [.int .u32 1]) (off + 1) [.int .i32 0]) t ob, .rw, []⟩ := by
      rw [C_sync_Once_doSlow X.p]; unfold F_sync_Once_doSlow
      (try simp -dsimp (disch := omega) only [↓pre, sp, sp2, wp_some, Int.cast_ofNat_Int, Nat.reduceAdd, Nat.reduceMul, Nat.reduceSub, Nat.reduceLeDiff, Nat.reduceEqDiff, Nat.reducePow, Int.reduceToNat, Int.reducePow, Int.reduceAdd, Int.reduceSub, Int.reduceMul, Int.reduceLT, Int.reduceLE, Int.reduceEq, Int.reduceNeg, Nat.add_zero])
      refine Wp.bind (lock_spec X (n + 1) w g hm) fun v1 h1 ⟨e1, k1, n1, g1⟩ => ?_
      have hlt := lt_of_at hm
      have hx1 : (splice cs (off + 1) [AVal.int .i32 1])[off]? = some (.int .u32 0) := by
        rw [splice_one _ _ _ hlt, List.getElem?_set_ne (by omega)]; exact hx
      have hb1 := bload_spec X (n + 2) (b := false) (row_rw g1) hx1
      (try simp -dsimp (disch := omega) only [↓pre, sp, sp2, wp_some, Int.cast_ofNat_Int, Nat.reduceAdd, Nat.reduceMul, Nat.reduceSub, Nat.reduceLeDiff, Nat.reduceEqDiff, Nat.reducePow, Int.reduceToNat, Int.reducePow, Int.reduceAdd, Int.reduceSub, Int.reduceMul, Int.reduceLT, Int.reduceLE, Int.reduceEq, Int.reduceNeg, Nat.add_zero, hb1])
      refine Wp.bind (hf h1 k1 n1 g1) fun v2 h2 ⟨k2, cs2, par2, g2, hm2, r2⟩ => ?_
      have hlt2 := lt_of_at hm2
      (try simp -dsimp (disch := omega) only [↓pre, sp, sp2, wp_some, Int.cast_ofNat_Int, Nat.reduceAdd, Nat.reduceMul, Nat.reduceSub, Nat.reduceLeDiff, Nat.reduceEqDiff, Nat.reducePow, Int.reduceToNat, Int.reducePow, Int.reduceAdd, Int.reduceSub, Int.reduceMul, Int.reduceLT, Int.reduceLE, Int.reduceEq, Int.reduceNeg])
      refine Wp.bind (bstore_specD X (n + 3) k2.w' g2 (by omega)) fun v3 h3 ⟨e3, k3, n3, g3⟩ => ?_
      have hm3 : (splice cs2 off [AVal.int .u32 1])[off + 1]? = some (.int .i32 1) := by
        rw [splice_one _ _ _ (by omega), List.getElem?_set_ne (by omega)]; exact hm2
      refine Wp.bind (unlock_specD X (n + 2) k3.w' g3 hm3) fun v4 h4 ⟨e4, k4, n4, g4⟩ => ?_
      exact Wp.ret ⟨((k1.trans k2).trans k3).trans k4, cs2, h2, k3.trans k4, r2, g4⟩
    refine Wp.bind key fun v1 h1 q => ?_
    exact hj _ _ q
  · rintro _ h' q
    exact Wp.ret ⟨rfl, q⟩
end Go.Proofs.Ytfppdfmffdkogaa.AI
