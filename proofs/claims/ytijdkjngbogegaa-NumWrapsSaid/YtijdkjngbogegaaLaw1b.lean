/- Chapter 1: divisions and orders. -/
import Derived.Test.YtijdkjngbogegaaLaw1a
namespace Go.Proofs.Ytijdkjngbogegaa.AI
open Go
set_option linter.unusedSimpArgs false
set_option linter.unusedVariables false
variable {ov : AOver} {h : AH}
theorem wrapM_between (k : Int) (h2 : 2 ≤ k ∧ k ≤ 11) : ∀ x y, (0 ≤ x ∧ x ≤ wrapM k y ∨ wrapM k y ≤ x ∧ x ≤ 0) → wrapM k x = x := by
  refine wrapM_cases (P := fun m f => ∀ x y, (0 ≤ x ∧ x ≤ f y ∨ f y ≤ x ∧ x ≤ 0) → f x = x) k h2 ?_ ?_ ?_ ?_ ?_ ?_ <;> intro x y h <;> simp only at h ⊢ <;> omega
theorem tmod_facts (A B : Int) (c : ¬ B = 0) : (0 ≤ A.tmod B ∧ A.tmod B ≤ A ∨ A ≤ A.tmod B ∧ A.tmod B ≤ 0) ∧ max (A.tmod B) (-(A.tmod B)) < max B (-B) := by
  have h1 : (A.tmod B).natAbs = A.natAbs % B.natAbs := Int.natAbs_tmod _ _
  have h2 := Nat.mod_le A.natAbs B.natAbs
  have h3 : A.natAbs % B.natAbs < B.natAbs := Nat.mod_lt _ (by omega)
  generalize A.natAbs % B.natAbs = z at h1 h2 h3
  have h4 : 0 ≤ A → 0 ≤ A.tmod B := fun h => Int.tmod_nonneg _ h
  have h5 : A < 0 → A.tmod B ≤ 0 := fun h => by
    have := Int.tmod_nonneg B (a := -A) (by omega)
    rw [Int.neg_tmod] at this; omega
  omega
theorem abs_spec (H : Plain ov) (n : Nat) (x : Int) (hx : -4294967296 ≤ x ∧ x ≤ 4294967296) : rCallV (kc ov (n + 1)) (.func (.func N_runglaw1_NumDivides_1) [] []) [.int .i64 x] h = some (.int .i64 (max x (-x)), h) := by
  show kc ov (n + 1) N_runglaw1_NumDivides_1 [.int .i64 x] h = _
  rw [C_runglaw1_NumDivides_1 H]; unfold F_runglaw1_NumDivides_1
  have e : IntKind.wrap .i64 (0 - x) = -x := by rw [wr_i64 (by omega) (by omega)]; omega
  have e2 : 0 - x = -x := by omega
  (try simp -dsimp (disch := omega) only [↓pre, sp, sp2, wp_some, Int.cast_ofNat_Int, Nat.reduceAdd, Nat.reduceMul, Nat.reduceSub, Nat.reduceLeDiff, Nat.reduceEqDiff, Nat.reducePow, Int.reduceToNat, Int.reducePow, Int.reduceAdd, Int.reduceSub, Int.reduceMul, Int.reduceLT, Int.reduceLE, Int.reduceEq, Int.reduceNeg, aUn_neg, e, e2])
theorem numDivides (H : Plain ov) (K : ov N_runglaw1_known = some knownYes) (n : Nat) (w : Wf h) {kind a b : Int} (hk : I64 kind) (ha : I64 a) (hb : I64 b) :
    Wp (kc ov (n + 6) N_runglaw1_NumDivides [.int .i64 kind, .int .i64 a, .int .i64 b] h) fun r h' => r = .bool true := by
  rw [C_runglaw1_NumDivides H]; unfold F_runglaw1_NumDivides
  obtain ⟨i, hi, e1, _⟩ := place_spec (h := h) H (n + 4) hk (m := 6) (by omega) (by omega)
  have e1' : kc ov (n + 5) N_runghelp_Place [.int .i64 kind, .int .i64 6] h = some (.int .i64 i, h) := e1
  (try simp -dsimp (disch := omega) only [↓pre, sp, sp2, wp_some, Int.cast_ofNat_Int, Nat.reduceAdd, Nat.reduceMul, Nat.reduceSub, Nat.reduceLeDiff, Nat.reduceEqDiff, Nat.reducePow, Int.reduceToNat, Int.reducePow, Int.reduceAdd, Int.reduceSub, Int.reduceMul, Int.reduceLT, Int.reduceLE, Int.reduceEq, Int.reduceNeg, known_spec K, e1'])
  generalize hkk : (2 : Int) + i = k
  have hR : 1 ≤ k ∧ k ≤ 11 := by omega
  have h2 : 2 ≤ k ∧ k ≤ 11 := by omega
  refine Wp.bind (wrap_spec H (n + 3) w k a ha) fun v1 h1 ⟨k1, f1⟩ => ?_
  subst f1
  (try simp -dsimp (disch := omega) only [↓pre, sp, sp2, wp_some, Int.cast_ofNat_Int, Nat.reduceAdd, Nat.reduceMul, Nat.reduceSub, Nat.reduceLeDiff, Nat.reduceEqDiff, Nat.reducePow, Int.reduceToNat, Int.reducePow, Int.reduceAdd, Int.reduceSub, Int.reduceMul, Int.reduceLT, Int.reduceLE, Int.reduceEq, Int.reduceNeg])
  refine Wp.bind (wrap_spec H (n + 3) k1.w' k b hb) fun v2 h2' ⟨k2, f2⟩ => ?_
  subst f2
  (try simp -dsimp (disch := omega) only [↓pre, sp, sp2, wp_some, Int.cast_ofNat_Int, Nat.reduceAdd, Nat.reduceMul, Nat.reduceSub, Nat.reduceLeDiff, Nat.reduceEqDiff, Nat.reducePow, Int.reduceToNat, Int.reducePow, Int.reduceAdd, Int.reduceSub, Int.reduceMul, Int.reduceLT, Int.reduceLE, Int.reduceEq, Int.reduceNeg])
  refine Wp.bind (apply_div H (n + 2) k2.w' hR (wrapM_I64 k a) (wrapM_I64 k b)) fun v3 h3 ⟨k3, f3⟩ => ?_
  rw [wrapM_wrapM, wrapM_wrapM] at f3
  subst f3
  (try simp -dsimp (disch := omega) only [↓pre, sp, sp2, wp_some, Int.cast_ofNat_Int, Nat.reduceAdd, Nat.reduceMul, Nat.reduceSub, Nat.reduceLeDiff, Nat.reduceEqDiff, Nat.reducePow, Int.reduceToNat, Int.reducePow, Int.reduceAdd, Int.reduceSub, Int.reduceMul, Int.reduceLT, Int.reduceLE, Int.reduceEq, Int.reduceNeg])
  refine Wp.bind (apply_mod H (n + 2) k3.w' hR (wrapM_I64 k a) (wrapM_I64 k b)) fun v4 h4 ⟨k4, f4⟩ => ?_
  rw [wrapM_wrapM, wrapM_wrapM] at f4
  subst f4
  (try simp -dsimp (disch := omega) only [↓pre, sp, sp2, wp_some, Int.cast_ofNat_Int, Nat.reduceAdd, Nat.reduceMul, Nat.reduceSub, Nat.reduceLeDiff, Nat.reduceEqDiff, Nat.reducePow, Int.reduceToNat, Int.reducePow, Int.reduceAdd, Int.reduceSub, Int.reduceMul, Int.reduceLT, Int.reduceLE, Int.reduceEq, Int.reduceNeg])
  have hA := wrapM_big k a
  have hB := wrapM_big k b
  by_cases c : wrapM k b = 0
  · rw [if_pos c, if_pos c, if_pos c, if_pos c]
    (try simp -dsimp (disch := omega) only [↓pre, sp, sp2, wp_some, Int.cast_ofNat_Int, Nat.reduceAdd, Nat.reduceMul, Nat.reduceSub, Nat.reduceLeDiff, Nat.reduceEqDiff, Nat.reducePow, Int.reduceToNat, Int.reducePow, Int.reduceAdd, Int.reduceSub, Int.reduceMul, Int.reduceLT, Int.reduceLE, Int.reduceEq, Int.reduceNeg, c, decide_true])
    refine wp_kT (.bool true) (fun j hj => ?_) ?_
    · (try simp -dsimp (disch := omega) only [↓pre, sp, sp2, wp_some, Int.cast_ofNat_Int, Nat.reduceAdd, Nat.reduceMul, Nat.reduceSub, Nat.reduceLeDiff, Nat.reduceEqDiff, Nat.reducePow, Int.reduceToNat, Int.reducePow, Int.reduceAdd, Int.reduceSub, Int.reduceMul, Int.reduceLT, Int.reduceLE, Int.reduceEq, Int.reduceNeg])
      exact hj
    · (try simp -dsimp (disch := omega) only [↓pre, sp, sp2, wp_some, Int.cast_ofNat_Int, Nat.reduceAdd, Nat.reduceMul, Nat.reduceSub, Nat.reduceLeDiff, Nat.reduceEqDiff, Nat.reducePow, Int.reduceToNat, Int.reducePow, Int.reduceAdd, Int.reduceSub, Int.reduceMul, Int.reduceLT, Int.reduceLE, Int.reduceEq, Int.reduceNeg])
  · have tf := tmod_facts (wrapM k a) (wrapM k b) c
    have er : wrapM k ((wrapM k a).tmod (wrapM k b)) = (wrapM k a).tmod (wrapM k b) := wrapM_between k h2 _ _ tf.1
    rw [if_neg c, if_neg c, if_neg c, if_neg c, er]
    (try simp -dsimp (disch := omega) only [↓pre, sp, sp2, wp_some, Int.cast_ofNat_Int, Nat.reduceAdd, Nat.reduceMul, Nat.reduceSub, Nat.reduceLeDiff, Nat.reduceEqDiff, Nat.reducePow, Int.reduceToNat, Int.reducePow, Int.reduceAdd, Int.reduceSub, Int.reduceMul, Int.reduceLT, Int.reduceLE, Int.reduceEq, Int.reduceNeg, c, decide_false])
    refine Wp.bind (apply_mul H (n + 2) k4.w' hR (wrapM_I64 k _) (wrapM_I64 k b)) fun v5 h5 ⟨k5, f5⟩ => ?_
    rw [wrapM_wrapM, wrapM_wrapM, w64 h2, wml h2] at f5
    subst f5
    (try simp -dsimp (disch := omega) only [↓pre, sp, sp2, wp_some, Int.cast_ofNat_Int, Nat.reduceAdd, Nat.reduceMul, Nat.reduceSub, Nat.reduceLeDiff, Nat.reduceEqDiff, Nat.reducePow, Int.reduceToNat, Int.reducePow, Int.reduceAdd, Int.reduceSub, Int.reduceMul, Int.reduceLT, Int.reduceLE, Int.reduceEq, Int.reduceNeg])
    have tb := tmodB k a b
    refine Wp.bind (apply_add H (n + 2) k5.w' hR (wrapM_I64 k _) (by unfold I64; omega)) fun v6 h6 ⟨k6, f6⟩ => ?_
    rw [wrapM_wrapM, er, wal h2, Int.mul_comm, Int.mul_tdiv_add_tmod, wrapM_wrapM] at f6
    subst f6
    (try simp -dsimp (disch := omega) only [↓pre, sp, sp2, wp_some, Int.cast_ofNat_Int, Nat.reduceAdd, Nat.reduceMul, Nat.reduceSub, Nat.reduceLeDiff, Nat.reduceEqDiff, Nat.reducePow, Int.reduceToNat, Int.reducePow, Int.reduceAdd, Int.reduceSub, Int.reduceMul, Int.reduceLT, Int.reduceLE, Int.reduceEq, Int.reduceNeg])
    have ab1 := abs_spec (h := h6) H (n + 4) ((wrapM k a).tmod (wrapM k b)) (by omega)
    have ab2 := abs_spec (h := h6) H (n + 4) (wrapM k b) (by omega)
    have tl := tf.2
    refine wp_kTh (fun r _ => r = .bool true) (fun j hj => ?_) (fun v hh e => by subst e; (try simp -dsimp (disch := omega) only [↓pre, sp, sp2, wp_some, Int.cast_ofNat_Int, Nat.reduceAdd, Nat.reduceMul, Nat.reduceSub, Nat.reduceLeDiff, Nat.reduceEqDiff, Nat.reducePow, Int.reduceToNat, Int.reducePow, Int.reduceAdd, Int.reduceSub, Int.reduceMul, Int.reduceLT, Int.reduceLE, Int.reduceEq, Int.reduceNeg]))
    (try simp -dsimp (disch := omega) only [↓pre, sp, sp2, wp_some, Int.cast_ofNat_Int, Nat.reduceAdd, Nat.reduceMul, Nat.reduceSub, Nat.reduceLeDiff, Nat.reduceEqDiff, Nat.reducePow, Int.reduceToNat, Int.reducePow, Int.reduceAdd, Int.reduceSub, Int.reduceMul, Int.reduceLT, Int.reduceLE, Int.reduceEq, Int.reduceNeg, decide_true, ab1, ab2, tl])
    by_cases c3 : (wrapM k a).tmod (wrapM k b) = 0
    · (try simp -dsimp (disch := omega) only [↓pre, sp, sp2, wp_some, Int.cast_ofNat_Int, Nat.reduceAdd, Nat.reduceMul, Nat.reduceSub, Nat.reduceLeDiff, Nat.reduceEqDiff, Nat.reducePow, Int.reduceToNat, Int.reducePow, Int.reduceAdd, Int.reduceSub, Int.reduceMul, Int.reduceLT, Int.reduceLE, Int.reduceEq, Int.reduceNeg, c3, decide_true])
      exact hj _ _ rfl
    · have e4 : (decide ((wrapM k a).tmod (wrapM k b) < 0) == decide (wrapM k a < 0)) = true := by
        have := tf.1
        by_cases c5 : wrapM k a < 0
        · have : (wrapM k a).tmod (wrapM k b) < 0 := by omega
          simp [c5, this]
        · have : ¬ (wrapM k a).tmod (wrapM k b) < 0 := by omega
          simp [c5, this]
      (try simp -dsimp (disch := omega) only [↓pre, sp, sp2, wp_some, Int.cast_ofNat_Int, Nat.reduceAdd, Nat.reduceMul, Nat.reduceSub, Nat.reduceLeDiff, Nat.reduceEqDiff, Nat.reducePow, Int.reduceToNat, Int.reducePow, Int.reduceAdd, Int.reduceSub, Int.reduceMul, Int.reduceLT, Int.reduceLE, Int.reduceEq, Int.reduceNeg, c3, decide_false, e4])
      exact hj _ _ rfl
/-- The statement's box. -/
structure RP (h : AH) (p : Nat) (k : Int) : Prop where
  w : Wf h
  gp : h.get p = some ⟨.row [.int .i64 k] T_int false, .rw, []⟩
theorem RP.kp {h' : AH} {p : Nat} {k : Int} (E : RP h p k) (K : Kp h h') : RP h' p k := ⟨K.w', K.gt E.gp⟩
theorem RP.rp {p : Nat} {k : Int} (E : RP h p k) : h.row p = some [.int .i64 k] := row_rw E.gp
def IsQ (p : Nat) (k : Int) (r : AVal) (h' h : AH) (x : Bool) : Prop := RP h' p k ∧ Kp h h' ∧ r = .bool x
theorem bb4 : (false == false) = true ∧ (true == true) = true ∧ (false == true) = false ∧ (true == false) = false := ⟨rfl, rfl, rfl, rfl⟩
theorem trM1 (b : Bool) : decide (trM b = 1) = b := by cases b <;> rfl
theorem is_ge (H : Plain ov) (n : Nat) {p : Nat} {k : Int} (E : RP h p k) (hk : 1 ≤ k ∧ k ≤ 11) {x y : Int} (hx : I64 x) (hy : I64 y) :
    Wp (rCallV (kc ov (n + 4)) (doF p N_runglaw1_NumOrders_1) [.int .i64 13, .int .i64 x, .int .i64 y] h) fun r h' => IsQ p k r h' h (!decide (wrapM k x < wrapM k y)) := by
  show Wp (kc ov (n + 4) N_runglaw1_NumOrders_1 [.int .i64 13, .int .i64 x, .int .i64 y, .ptr (some (p, 0))] h) _
  rw [C_runglaw1_NumOrders_1 H]; unfold F_runglaw1_NumOrders_1
  (try simp -dsimp (disch := omega) only [↓pre, sp, sp2, wp_some, Int.cast_ofNat_Int, Nat.reduceAdd, Nat.reduceMul, Nat.reduceSub, Nat.reduceLeDiff, Nat.reduceEqDiff, Nat.reducePow, Int.reduceToNat, Int.reducePow, Int.reduceAdd, Int.reduceSub, Int.reduceMul, Int.reduceLT, Int.reduceLE, Int.reduceEq, Int.reduceNeg, E.rp])
  refine Wp.bind (apply_ge H n E.w hk hx hy) fun v h1 ⟨k1, e1⟩ => ?_
  subst e1
  (try simp -dsimp (disch := omega) only [↓pre, sp, sp2, wp_some, Int.cast_ofNat_Int, Nat.reduceAdd, Nat.reduceMul, Nat.reduceSub, Nat.reduceLeDiff, Nat.reduceEqDiff, Nat.reducePow, Int.reduceToNat, Int.reducePow, Int.reduceAdd, Int.reduceSub, Int.reduceMul, Int.reduceLT, Int.reduceLE, Int.reduceEq, Int.reduceNeg, trM1])
  exact ⟨E.kp k1, k1, rfl⟩
theorem is_lt (H : Plain ov) (n : Nat) {p : Nat} {k : Int} (E : RP h p k) (hk : 1 ≤ k ∧ k ≤ 11) {x y : Int} (hx : I64 x) (hy : I64 y) :
    Wp (rCallV (kc ov (n + 4)) (doF p N_runglaw1_NumOrders_1) [.int .i64 10, .int .i64 x, .int .i64 y] h) fun r h' => IsQ p k r h' h (decide (wrapM k x < wrapM k y)) := by
  show Wp (kc ov (n + 4) N_runglaw1_NumOrders_1 [.int .i64 10, .int .i64 x, .int .i64 y, .ptr (some (p, 0))] h) _
  rw [C_runglaw1_NumOrders_1 H]; unfold F_runglaw1_NumOrders_1
  (try simp -dsimp (disch := omega) only [↓pre, sp, sp2, wp_some, Int.cast_ofNat_Int, Nat.reduceAdd, Nat.reduceMul, Nat.reduceSub, Nat.reduceLeDiff, Nat.reduceEqDiff, Nat.reducePow, Int.reduceToNat, Int.reducePow, Int.reduceAdd, Int.reduceSub, Int.reduceMul, Int.reduceLT, Int.reduceLE, Int.reduceEq, Int.reduceNeg, E.rp])
  refine Wp.bind (apply_lt H n E.w hk hx hy) fun v h1 ⟨k1, e1⟩ => ?_
  subst e1
  (try simp -dsimp (disch := omega) only [↓pre, sp, sp2, wp_some, Int.cast_ofNat_Int, Nat.reduceAdd, Nat.reduceMul, Nat.reduceSub, Nat.reduceLeDiff, Nat.reduceEqDiff, Nat.reducePow, Int.reduceToNat, Int.reducePow, Int.reduceAdd, Int.reduceSub, Int.reduceMul, Int.reduceLT, Int.reduceLE, Int.reduceEq, Int.reduceNeg, trM1])
  exact ⟨E.kp k1, k1, rfl⟩
theorem is_le (H : Plain ov) (n : Nat) {p : Nat} {k : Int} (E : RP h p k) (hk : 1 ≤ k ∧ k ≤ 11) {x y : Int} (hx : I64 x) (hy : I64 y) :
    Wp (rCallV (kc ov (n + 4)) (doF p N_runglaw1_NumOrders_1) [.int .i64 12, .int .i64 x, .int .i64 y] h) fun r h' => IsQ p k r h' h (!decide (wrapM k y < wrapM k x)) := by
  show Wp (kc ov (n + 4) N_runglaw1_NumOrders_1 [.int .i64 12, .int .i64 x, .int .i64 y, .ptr (some (p, 0))] h) _
  rw [C_runglaw1_NumOrders_1 H]; unfold F_runglaw1_NumOrders_1
  (try simp -dsimp (disch := omega) only [↓pre, sp, sp2, wp_some, Int.cast_ofNat_Int, Nat.reduceAdd, Nat.reduceMul, Nat.reduceSub, Nat.reduceLeDiff, Nat.reduceEqDiff, Nat.reducePow, Int.reduceToNat, Int.reducePow, Int.reduceAdd, Int.reduceSub, Int.reduceMul, Int.reduceLT, Int.reduceLE, Int.reduceEq, Int.reduceNeg, E.rp])
  refine Wp.bind (apply_le H n E.w hk hx hy) fun v h1 ⟨k1, e1⟩ => ?_
  subst e1
  (try simp -dsimp (disch := omega) only [↓pre, sp, sp2, wp_some, Int.cast_ofNat_Int, Nat.reduceAdd, Nat.reduceMul, Nat.reduceSub, Nat.reduceLeDiff, Nat.reduceEqDiff, Nat.reducePow, Int.reduceToNat, Int.reducePow, Int.reduceAdd, Int.reduceSub, Int.reduceMul, Int.reduceLT, Int.reduceLE, Int.reduceEq, Int.reduceNeg, trM1])
  exact ⟨E.kp k1, k1, rfl⟩
theorem is_gt (H : Plain ov) (n : Nat) {p : Nat} {k : Int} (E : RP h p k) (hk : 1 ≤ k ∧ k ≤ 11) {x y : Int} (hx : I64 x) (hy : I64 y) :
    Wp (rCallV (kc ov (n + 4)) (doF p N_runglaw1_NumOrders_1) [.int .i64 11, .int .i64 x, .int .i64 y] h) fun r h' => IsQ p k r h' h (decide (wrapM k y < wrapM k x)) := by
  show Wp (kc ov (n + 4) N_runglaw1_NumOrders_1 [.int .i64 11, .int .i64 x, .int .i64 y, .ptr (some (p, 0))] h) _
  rw [C_runglaw1_NumOrders_1 H]; unfold F_runglaw1_NumOrders_1
  (try simp -dsimp (disch := omega) only [↓pre, sp, sp2, wp_some, Int.cast_ofNat_Int, Nat.reduceAdd, Nat.reduceMul, Nat.reduceSub, Nat.reduceLeDiff, Nat.reduceEqDiff, Nat.reducePow, Int.reduceToNat, Int.reducePow, Int.reduceAdd, Int.reduceSub, Int.reduceMul, Int.reduceLT, Int.reduceLE, Int.reduceEq, Int.reduceNeg, E.rp])
  refine Wp.bind (apply_gt H n E.w hk hx hy) fun v h1 ⟨k1, e1⟩ => ?_
  subst e1
  (try simp -dsimp (disch := omega) only [↓pre, sp, sp2, wp_some, Int.cast_ofNat_Int, Nat.reduceAdd, Nat.reduceMul, Nat.reduceSub, Nat.reduceLeDiff, Nat.reduceEqDiff, Nat.reducePow, Int.reduceToNat, Int.reducePow, Int.reduceAdd, Int.reduceSub, Int.reduceMul, Int.reduceLT, Int.reduceLE, Int.reduceEq, Int.reduceNeg, trM1])
  exact ⟨E.kp k1, k1, rfl⟩
theorem is_ne (H : Plain ov) (n : Nat) {p : Nat} {k : Int} (E : RP h p k) (hk : 1 ≤ k ∧ k ≤ 11) {x y : Int} (hx : I64 x) (hy : I64 y) :
    Wp (rCallV (kc ov (n + 4)) (doF p N_runglaw1_NumOrders_1) [.int .i64 15, .int .i64 x, .int .i64 y] h) fun r h' => IsQ p k r h' h (!decide (wrapM k x = wrapM k y)) := by
  show Wp (kc ov (n + 4) N_runglaw1_NumOrders_1 [.int .i64 15, .int .i64 x, .int .i64 y, .ptr (some (p, 0))] h) _
  rw [C_runglaw1_NumOrders_1 H]; unfold F_runglaw1_NumOrders_1
  (try simp -dsimp (disch := omega) only [↓pre, sp, sp2, wp_some, Int.cast_ofNat_Int, Nat.reduceAdd, Nat.reduceMul, Nat.reduceSub, Nat.reduceLeDiff, Nat.reduceEqDiff, Nat.reducePow, Int.reduceToNat, Int.reducePow, Int.reduceAdd, Int.reduceSub, Int.reduceMul, Int.reduceLT, Int.reduceLE, Int.reduceEq, Int.reduceNeg, E.rp])
  refine Wp.bind (apply_ne H n E.w hk hx hy) fun v h1 ⟨k1, e1⟩ => ?_
  subst e1
  (try simp -dsimp (disch := omega) only [↓pre, sp, sp2, wp_some, Int.cast_ofNat_Int, Nat.reduceAdd, Nat.reduceMul, Nat.reduceSub, Nat.reduceLeDiff, Nat.reduceEqDiff, Nat.reducePow, Int.reduceToNat, Int.reducePow, Int.reduceAdd, Int.reduceSub, Int.reduceMul, Int.reduceLT, Int.reduceLE, Int.reduceEq, Int.reduceNeg, trM1])
  exact ⟨E.kp k1, k1, rfl⟩
theorem is_eq (H : Plain ov) (n : Nat) {p : Nat} {k : Int} (E : RP h p k) (hk : 1 ≤ k ∧ k ≤ 11) {x y : Int} (hx : I64 x) (hy : I64 y) :
    Wp (rCallV (kc ov (n + 4)) (doF p N_runglaw1_NumOrders_1) [.int .i64 14, .int .i64 x, .int .i64 y] h) fun r h' => IsQ p k r h' h (decide (wrapM k x = wrapM k y)) := by
  show Wp (kc ov (n + 4) N_runglaw1_NumOrders_1 [.int .i64 14, .int .i64 x, .int .i64 y, .ptr (some (p, 0))] h) _
  rw [C_runglaw1_NumOrders_1 H]; unfold F_runglaw1_NumOrders_1
  (try simp -dsimp (disch := omega) only [↓pre, sp, sp2, wp_some, Int.cast_ofNat_Int, Nat.reduceAdd, Nat.reduceMul, Nat.reduceSub, Nat.reduceLeDiff, Nat.reduceEqDiff, Nat.reducePow, Int.reduceToNat, Int.reducePow, Int.reduceAdd, Int.reduceSub, Int.reduceMul, Int.reduceLT, Int.reduceLE, Int.reduceEq, Int.reduceNeg, E.rp])
  refine Wp.bind (apply_eq H n E.w hk hx hy) fun v h1 ⟨k1, e1⟩ => ?_
  subst e1
  (try simp -dsimp (disch := omega) only [↓pre, sp, sp2, wp_some, Int.cast_ofNat_Int, Nat.reduceAdd, Nat.reduceMul, Nat.reduceSub, Nat.reduceLeDiff, Nat.reduceEqDiff, Nat.reducePow, Int.reduceToNat, Int.reducePow, Int.reduceAdd, Int.reduceSub, Int.reduceMul, Int.reduceLT, Int.reduceLE, Int.reduceEq, Int.reduceNeg, trM1])
  exact ⟨E.kp k1, k1, rfl⟩
theorem numOrders_lt (H : Plain ov) (n : Nat) (w : Wf h) (K : ov N_runglaw1_known = some knownYes) {kind a b c k : Int} (hk : I64 kind) (ha : I64 a) (hb : I64 b) (hc : I64 c) {i : Nat} (hi : i < 11) (hkk : (1 : Int) + i = k)
    (e1' : kc ov (n + 5) N_runghelp_Place [.int .i64 kind, .int .i64 11] h = some (.int .i64 i, h)) (hyp : wrapM k a < wrapM k b) :
    Wp (kc ov (n + 6) N_runglaw1_NumOrders [.int .i64 kind, .int .i64 a, .int .i64 b, .int .i64 c] h) fun r h' => r = .bool true := by
  rw [C_runglaw1_NumOrders H]; unfold F_runglaw1_NumOrders
  have hR : 1 ≤ k ∧ k ≤ 11 := by omega
  have dlt : decide (wrapM k a < wrapM k b) = true := by simp <;> omega
  have dgt : decide (wrapM k b < wrapM k a) = false := by simp <;> omega
  have deq : decide (wrapM k a = wrapM k b) = false := by simp <;> omega
  (try simp -dsimp (disch := omega) only [↓pre, sp, sp2, wp_some, Int.cast_ofNat_Int, Nat.reduceAdd, Nat.reduceMul, Nat.reduceSub, Nat.reduceLeDiff, Nat.reduceEqDiff, Nat.reducePow, Int.reduceToNat, Int.reducePow, Int.reduceAdd, Int.reduceSub, Int.reduceMul, Int.reduceLT, Int.reduceLE, Int.reduceEq, Int.reduceNeg, known_spec K, e1'])
  rw [hkk]
  refine wp_box w rfl rfl fun p h1 hp k1 n1 g1 => ?_
  refine wp_store k1.w' g1 rfl rfl (by decide) rfl fun h2' k2 n2 g2 => ?_
  have E0 : RP h2' p k := ⟨k2.w', g2⟩
  (try simp -dsimp (disch := omega) only [↓pre, sp, sp2, wp_some, Int.cast_ofNat_Int, Nat.reduceAdd, Nat.reduceMul, Nat.reduceSub, Nat.reduceLeDiff, Nat.reduceEqDiff, Nat.reducePow, Int.reduceToNat, Int.reducePow, Int.reduceAdd, Int.reduceSub, Int.reduceMul, Int.reduceLT, Int.reduceLE, Int.reduceEq, Int.reduceNeg, E0.rp])
  refine Wp.bind (is_lt H (n + 1) E0 hR ha hb) fun v0 g0 ⟨E1, k0', f0⟩ => ?_
  rw [dlt] at f0
  subst f0
  (try simp -dsimp (disch := omega) only [↓pre, sp, sp2, wp_some, Int.cast_ofNat_Int, Nat.reduceAdd, Nat.reduceMul, Nat.reduceSub, Nat.reduceLeDiff, Nat.reduceEqDiff, Nat.reducePow, Int.reduceToNat, Int.reducePow, Int.reduceAdd, Int.reduceSub, Int.reduceMul, Int.reduceLT, Int.reduceLE, Int.reduceEq, Int.reduceNeg, E1.rp, Bool.or_true, bb4, Bool.not_false, Bool.not_true, if_true, if_false, Bool.false_eq_true])
  refine Wp.bind (is_eq H (n + 1) E1 hR ha hb) fun v1 g1 ⟨E2, k1', f1⟩ => ?_
  rw [deq] at f1
  subst f1
  (try simp -dsimp (disch := omega) only [↓pre, sp, sp2, wp_some, Int.cast_ofNat_Int, Nat.reduceAdd, Nat.reduceMul, Nat.reduceSub, Nat.reduceLeDiff, Nat.reduceEqDiff, Nat.reducePow, Int.reduceToNat, Int.reducePow, Int.reduceAdd, Int.reduceSub, Int.reduceMul, Int.reduceLT, Int.reduceLE, Int.reduceEq, Int.reduceNeg, E2.rp, Bool.or_true, bb4, Bool.not_false, Bool.not_true, if_true, if_false, Bool.false_eq_true])
  refine Wp.bind (is_gt H (n + 1) E2 hR ha hb) fun v2 g2 ⟨E3, k2', f2⟩ => ?_
  rw [dgt] at f2
  subst f2
  (try simp -dsimp (disch := omega) only [↓pre, sp, sp2, wp_some, Int.cast_ofNat_Int, Nat.reduceAdd, Nat.reduceMul, Nat.reduceSub, Nat.reduceLeDiff, Nat.reduceEqDiff, Nat.reducePow, Int.reduceToNat, Int.reducePow, Int.reduceAdd, Int.reduceSub, Int.reduceMul, Int.reduceLT, Int.reduceLE, Int.reduceEq, Int.reduceNeg, E3.rp, Bool.or_true, bb4, Bool.not_false, Bool.not_true, if_true, if_false, Bool.false_eq_true])
  refine wp_buildSl (cs := [.bool true, .bool false, .bool false]) E3.w ⟨by decide, rfl, by decide⟩ rfl rfl fun r h5 hr k5 n5 g5 => ?_
  have s5 := (Ow.new (sz := 1) (e := T_bool) g5 (by omega) 3 rfl rfl).rd
  have E4 := E3.kp k5
  (try simp -dsimp (disch := omega) only [↓pre, sp, sp2, wp_some, Int.cast_ofNat_Int, Nat.reduceAdd, Nat.reduceMul, Nat.reduceSub, Nat.reduceLeDiff, Nat.reduceEqDiff, Nat.reducePow, Int.reduceToNat, Int.reducePow, Int.reduceAdd, Int.reduceSub, Int.reduceMul, Int.reduceLT, Int.reduceLE, Int.reduceEq, Int.reduceNeg])
  refine wp_loop (fun m y hh => hh = h5 ∧ (m = 3 ∧ y = [.int .i64 0, .int .i64 0] ∨ m = 2 ∧ y = [.int .i64 1, .int .i64 1] ∨ m = 1 ∧ y = [.int .i64 1, .int .i64 2] ∨ m = 0 ∧ y = [.int .i64 1, .int .i64 3])) 3 (by omega) ⟨rfl, .inl ⟨rfl, rfl⟩⟩ ?_
  rintro m y hh j ⟨rfl, hy⟩ hj
  unfold L_runglaw1_NumOrders_0
  have ld0 := s5.ld (j := 0) (by decide)
  have ld1 := s5.ld (j := 1) (by decide)
  have ld2 := s5.ld (j := 2) (by decide)
  simp only [List.getElem?_cons_zero, List.getElem?_cons_succ] at ld0 ld1 ld2
  rcases hy with ⟨rfl, rfl⟩ | ⟨rfl, rfl⟩ | ⟨rfl, rfl⟩ | ⟨rfl, rfl⟩
  · (try simp -dsimp (disch := omega) only [↓pre, sp, sp2, wp_some, Int.cast_ofNat_Int, Nat.reduceAdd, Nat.reduceMul, Nat.reduceSub, Nat.reduceLeDiff, Nat.reduceEqDiff, Nat.reducePow, Int.reduceToNat, Int.reducePow, Int.reduceAdd, Int.reduceSub, Int.reduceMul, Int.reduceLT, Int.reduceLE, Int.reduceEq, Int.reduceNeg, s5.at, ld0, kj_eq])
    exact hj 2 _ _ (by omega) ⟨rfl, .inr (.inl ⟨rfl, rfl⟩)⟩
  · (try simp -dsimp (disch := omega) only [↓pre, sp, sp2, wp_some, Int.cast_ofNat_Int, Nat.reduceAdd, Nat.reduceMul, Nat.reduceSub, Nat.reduceLeDiff, Nat.reduceEqDiff, Nat.reducePow, Int.reduceToNat, Int.reducePow, Int.reduceAdd, Int.reduceSub, Int.reduceMul, Int.reduceLT, Int.reduceLE, Int.reduceEq, Int.reduceNeg, s5.at, ld1, kj_eq])
    exact hj 1 _ _ (by omega) ⟨rfl, .inr (.inr (.inl ⟨rfl, rfl⟩))⟩
  · (try simp -dsimp (disch := omega) only [↓pre, sp, sp2, wp_some, Int.cast_ofNat_Int, Nat.reduceAdd, Nat.reduceMul, Nat.reduceSub, Nat.reduceLeDiff, Nat.reduceEqDiff, Nat.reducePow, Int.reduceToNat, Int.reducePow, Int.reduceAdd, Int.reduceSub, Int.reduceMul, Int.reduceLT, Int.reduceLE, Int.reduceEq, Int.reduceNeg, s5.at, ld2, kj_eq])
    exact hj 0 _ _ (by omega) ⟨rfl, .inr (.inr (.inr (⟨rfl, rfl⟩)))⟩
  clear hj
  (try simp -dsimp (disch := omega) only [↓pre, sp, sp2, wp_some, Int.cast_ofNat_Int, Nat.reduceAdd, Nat.reduceMul, Nat.reduceSub, Nat.reduceLeDiff, Nat.reduceEqDiff, Nat.reducePow, Int.reduceToNat, Int.reducePow, Int.reduceAdd, Int.reduceSub, Int.reduceMul, Int.reduceLT, Int.reduceLE, Int.reduceEq, Int.reduceNeg, E4.rp, Bool.or_true, bb4, Bool.not_false, Bool.not_true, if_true, if_false, Bool.false_eq_true])
  refine Wp.bind (is_le H (n + 1) E4 hR ha hb) fun v4 g4 ⟨E5, k4', f4⟩ => ?_
  rw [dgt] at f4
  subst f4
  (try simp -dsimp (disch := omega) only [↓pre, sp, sp2, wp_some, Int.cast_ofNat_Int, Nat.reduceAdd, Nat.reduceMul, Nat.reduceSub, Nat.reduceLeDiff, Nat.reduceEqDiff, Nat.reducePow, Int.reduceToNat, Int.reducePow, Int.reduceAdd, Int.reduceSub, Int.reduceMul, Int.reduceLT, Int.reduceLE, Int.reduceEq, Int.reduceNeg, E5.rp, Bool.or_true, bb4, Bool.not_false, Bool.not_true, if_true, if_false, Bool.false_eq_true])
  refine Wp.bind (is_ge H (n + 1) E5 hR ha hb) fun v5 g5 ⟨E6, k5', f5⟩ => ?_
  rw [dlt] at f5
  subst f5
  (try simp -dsimp (disch := omega) only [↓pre, sp, sp2, wp_some, Int.cast_ofNat_Int, Nat.reduceAdd, Nat.reduceMul, Nat.reduceSub, Nat.reduceLeDiff, Nat.reduceEqDiff, Nat.reducePow, Int.reduceToNat, Int.reducePow, Int.reduceAdd, Int.reduceSub, Int.reduceMul, Int.reduceLT, Int.reduceLE, Int.reduceEq, Int.reduceNeg, E6.rp, Bool.or_true, bb4, Bool.not_false, Bool.not_true, if_true, if_false, Bool.false_eq_true])
  refine Wp.bind (is_ne H (n + 1) E6 hR ha hb) fun v6 g6 ⟨E7, k6', f6⟩ => ?_
  rw [deq] at f6
  subst f6
  (try simp -dsimp (disch := omega) only [↓pre, sp, sp2, wp_some, Int.cast_ofNat_Int, Nat.reduceAdd, Nat.reduceMul, Nat.reduceSub, Nat.reduceLeDiff, Nat.reduceEqDiff, Nat.reducePow, Int.reduceToNat, Int.reducePow, Int.reduceAdd, Int.reduceSub, Int.reduceMul, Int.reduceLT, Int.reduceLE, Int.reduceEq, Int.reduceNeg, E7.rp, Bool.or_true, bb4, Bool.not_false, Bool.not_true, if_true, if_false, Bool.false_eq_true])
  refine Wp.bind (is_gt H (n + 1) E7 hR hb ha) fun v7 g7 ⟨E8, k7', f7⟩ => ?_
  rw [dlt] at f7
  subst f7
  (try simp -dsimp (disch := omega) only [↓pre, sp, sp2, wp_some, Int.cast_ofNat_Int, Nat.reduceAdd, Nat.reduceMul, Nat.reduceSub, Nat.reduceLeDiff, Nat.reduceEqDiff, Nat.reducePow, Int.reduceToNat, Int.reducePow, Int.reduceAdd, Int.reduceSub, Int.reduceMul, Int.reduceLT, Int.reduceLE, Int.reduceEq, Int.reduceNeg, E8.rp, Bool.or_true, bb4, Bool.not_false, Bool.not_true, if_true, if_false, Bool.false_eq_true])
  refine Wp.bind (wrap_spec H (n + 3) E8.w k a ha) fun v8 g8 ⟨k8', f8⟩ => ?_
  subst f8
  have E9 := E8.kp k8'
  (try simp -dsimp (disch := omega) only [↓pre, sp, sp2, wp_some, Int.cast_ofNat_Int, Nat.reduceAdd, Nat.reduceMul, Nat.reduceSub, Nat.reduceLeDiff, Nat.reduceEqDiff, Nat.reducePow, Int.reduceToNat, Int.reducePow, Int.reduceAdd, Int.reduceSub, Int.reduceMul, Int.reduceLT, Int.reduceLE, Int.reduceEq, Int.reduceNeg, E9.rp, Bool.or_true, bb4, Bool.not_false, Bool.not_true, if_true, if_false, Bool.false_eq_true])
  refine Wp.bind (wrap_spec H (n + 3) E9.w k b hb) fun v9 g9 ⟨k9', f9⟩ => ?_
  subst f9
  have E10 := E9.kp k9'
  (try simp -dsimp (disch := omega) only [↓pre, sp, sp2, wp_some, Int.cast_ofNat_Int, Nat.reduceAdd, Nat.reduceMul, Nat.reduceSub, Nat.reduceLeDiff, Nat.reduceEqDiff, Nat.reducePow, Int.reduceToNat, Int.reducePow, Int.reduceAdd, Int.reduceSub, Int.reduceMul, Int.reduceLT, Int.reduceLE, Int.reduceEq, Int.reduceNeg, E10.rp, Bool.or_true, bb4, Bool.not_false, Bool.not_true, if_true, if_false, Bool.false_eq_true, deq])
  refine wp_kTh (fun r _ => r = .bool true) (fun j hj => ?_) (fun v hh e => by subst e; (try simp -dsimp (disch := omega) only [↓pre, sp, sp2, wp_some, Int.cast_ofNat_Int, Nat.reduceAdd, Nat.reduceMul, Nat.reduceSub, Nat.reduceLeDiff, Nat.reduceEqDiff, Nat.reducePow, Int.reduceToNat, Int.reducePow, Int.reduceAdd, Int.reduceSub, Int.reduceMul, Int.reduceLT, Int.reduceLE, Int.reduceEq, Int.reduceNeg]))
  (try simp -dsimp (disch := omega) only [↓pre, sp, sp2, wp_some, Int.cast_ofNat_Int, Nat.reduceAdd, Nat.reduceMul, Nat.reduceSub, Nat.reduceLeDiff, Nat.reduceEqDiff, Nat.reducePow, Int.reduceToNat, Int.reducePow, Int.reduceAdd, Int.reduceSub, Int.reduceMul, Int.reduceLT, Int.reduceLE, Int.reduceEq, Int.reduceNeg])
  refine Wp.bind (is_lt H (n + 1) E10 hR hb hc) fun v10 g10 ⟨E11, k10', f10⟩ => ?_
  subst f10
  by_cases c6 : wrapM k b < wrapM k c
  · (try simp -dsimp (disch := omega) only [↓pre, sp, sp2, wp_some, Int.cast_ofNat_Int, Nat.reduceAdd, Nat.reduceMul, Nat.reduceSub, Nat.reduceLeDiff, Nat.reduceEqDiff, Nat.reducePow, Int.reduceToNat, Int.reducePow, Int.reduceAdd, Int.reduceSub, Int.reduceMul, Int.reduceLT, Int.reduceLE, Int.reduceEq, Int.reduceNeg, c6, decide_true])
    refine Wp.bind (is_lt H (n + 1) E11 hR ha hc) fun v11 g11 ⟨E12, k11', f11⟩ => ?_
    rw [decide_eq_true (by omega : wrapM k a < wrapM k c)] at f11
    subst f11
    (try simp -dsimp (disch := omega) only [↓pre, sp, sp2, wp_some, Int.cast_ofNat_Int, Nat.reduceAdd, Nat.reduceMul, Nat.reduceSub, Nat.reduceLeDiff, Nat.reduceEqDiff, Nat.reducePow, Int.reduceToNat, Int.reducePow, Int.reduceAdd, Int.reduceSub, Int.reduceMul, Int.reduceLT, Int.reduceLE, Int.reduceEq, Int.reduceNeg])
    exact hj _ _ rfl
  · (try simp -dsimp (disch := omega) only [↓pre, sp, sp2, wp_some, Int.cast_ofNat_Int, Nat.reduceAdd, Nat.reduceMul, Nat.reduceSub, Nat.reduceLeDiff, Nat.reduceEqDiff, Nat.reducePow, Int.reduceToNat, Int.reducePow, Int.reduceAdd, Int.reduceSub, Int.reduceMul, Int.reduceLT, Int.reduceLE, Int.reduceEq, Int.reduceNeg, c6, decide_false])
    exact hj _ _ rfl
theorem numOrders_eq (H : Plain ov) (n : Nat) (w : Wf h) (K : ov N_runglaw1_known = some knownYes) {kind a b c k : Int} (hk : I64 kind) (ha : I64 a) (hb : I64 b) (hc : I64 c) {i : Nat} (hi : i < 11) (hkk : (1 : Int) + i = k)
    (e1' : kc ov (n + 5) N_runghelp_Place [.int .i64 kind, .int .i64 11] h = some (.int .i64 i, h)) (hyp : wrapM k a = wrapM k b) :
    Wp (kc ov (n + 6) N_runglaw1_NumOrders [.int .i64 kind, .int .i64 a, .int .i64 b, .int .i64 c] h) fun r h' => r = .bool true := by
  rw [C_runglaw1_NumOrders H]; unfold F_runglaw1_NumOrders
  have hR : 1 ≤ k ∧ k ≤ 11 := by omega
  have dlt : decide (wrapM k a < wrapM k b) = false := by simp <;> omega
  have dgt : decide (wrapM k b < wrapM k a) = false := by simp <;> omega
  have deq : decide (wrapM k a = wrapM k b) = true := by simp <;> omega
  (try simp -dsimp (disch := omega) only [↓pre, sp, sp2, wp_some, Int.cast_ofNat_Int, Nat.reduceAdd, Nat.reduceMul, Nat.reduceSub, Nat.reduceLeDiff, Nat.reduceEqDiff, Nat.reducePow, Int.reduceToNat, Int.reducePow, Int.reduceAdd, Int.reduceSub, Int.reduceMul, Int.reduceLT, Int.reduceLE, Int.reduceEq, Int.reduceNeg, known_spec K, e1'])
  rw [hkk]
  refine wp_box w rfl rfl fun p h1 hp k1 n1 g1 => ?_
  refine wp_store k1.w' g1 rfl rfl (by decide) rfl fun h2' k2 n2 g2 => ?_
  have E0 : RP h2' p k := ⟨k2.w', g2⟩
  (try simp -dsimp (disch := omega) only [↓pre, sp, sp2, wp_some, Int.cast_ofNat_Int, Nat.reduceAdd, Nat.reduceMul, Nat.reduceSub, Nat.reduceLeDiff, Nat.reduceEqDiff, Nat.reducePow, Int.reduceToNat, Int.reducePow, Int.reduceAdd, Int.reduceSub, Int.reduceMul, Int.reduceLT, Int.reduceLE, Int.reduceEq, Int.reduceNeg, E0.rp])
  refine Wp.bind (is_lt H (n + 1) E0 hR ha hb) fun v0 g0 ⟨E1, k0', f0⟩ => ?_
  rw [dlt] at f0
  subst f0
  (try simp -dsimp (disch := omega) only [↓pre, sp, sp2, wp_some, Int.cast_ofNat_Int, Nat.reduceAdd, Nat.reduceMul, Nat.reduceSub, Nat.reduceLeDiff, Nat.reduceEqDiff, Nat.reducePow, Int.reduceToNat, Int.reducePow, Int.reduceAdd, Int.reduceSub, Int.reduceMul, Int.reduceLT, Int.reduceLE, Int.reduceEq, Int.reduceNeg, E1.rp, Bool.or_true, bb4, Bool.not_false, Bool.not_true, if_true, if_false, Bool.false_eq_true])
  refine Wp.bind (is_eq H (n + 1) E1 hR ha hb) fun v1 g1 ⟨E2, k1', f1⟩ => ?_
  rw [deq] at f1
  subst f1
  (try simp -dsimp (disch := omega) only [↓pre, sp, sp2, wp_some, Int.cast_ofNat_Int, Nat.reduceAdd, Nat.reduceMul, Nat.reduceSub, Nat.reduceLeDiff, Nat.reduceEqDiff, Nat.reducePow, Int.reduceToNat, Int.reducePow, Int.reduceAdd, Int.reduceSub, Int.reduceMul, Int.reduceLT, Int.reduceLE, Int.reduceEq, Int.reduceNeg, E2.rp, Bool.or_true, bb4, Bool.not_false, Bool.not_true, if_true, if_false, Bool.false_eq_true])
  refine Wp.bind (is_gt H (n + 1) E2 hR ha hb) fun v2 g2 ⟨E3, k2', f2⟩ => ?_
  rw [dgt] at f2
  subst f2
  (try simp -dsimp (disch := omega) only [↓pre, sp, sp2, wp_some, Int.cast_ofNat_Int, Nat.reduceAdd, Nat.reduceMul, Nat.reduceSub, Nat.reduceLeDiff, Nat.reduceEqDiff, Nat.reducePow, Int.reduceToNat, Int.reducePow, Int.reduceAdd, Int.reduceSub, Int.reduceMul, Int.reduceLT, Int.reduceLE, Int.reduceEq, Int.reduceNeg, E3.rp, Bool.or_true, bb4, Bool.not_false, Bool.not_true, if_true, if_false, Bool.false_eq_true])
  refine wp_buildSl (cs := [.bool false, .bool true, .bool false]) E3.w ⟨by decide, rfl, by decide⟩ rfl rfl fun r h5 hr k5 n5 g5 => ?_
  have s5 := (Ow.new (sz := 1) (e := T_bool) g5 (by omega) 3 rfl rfl).rd
  have E4 := E3.kp k5
  (try simp -dsimp (disch := omega) only [↓pre, sp, sp2, wp_some, Int.cast_ofNat_Int, Nat.reduceAdd, Nat.reduceMul, Nat.reduceSub, Nat.reduceLeDiff, Nat.reduceEqDiff, Nat.reducePow, Int.reduceToNat, Int.reducePow, Int.reduceAdd, Int.reduceSub, Int.reduceMul, Int.reduceLT, Int.reduceLE, Int.reduceEq, Int.reduceNeg])
  refine wp_loop (fun m y hh => hh = h5 ∧ (m = 3 ∧ y = [.int .i64 0, .int .i64 0] ∨ m = 2 ∧ y = [.int .i64 0, .int .i64 1] ∨ m = 1 ∧ y = [.int .i64 1, .int .i64 2] ∨ m = 0 ∧ y = [.int .i64 1, .int .i64 3])) 3 (by omega) ⟨rfl, .inl ⟨rfl, rfl⟩⟩ ?_
  rintro m y hh j ⟨rfl, hy⟩ hj
  unfold L_runglaw1_NumOrders_0
  have ld0 := s5.ld (j := 0) (by decide)
  have ld1 := s5.ld (j := 1) (by decide)
  have ld2 := s5.ld (j := 2) (by decide)
  simp only [List.getElem?_cons_zero, List.getElem?_cons_succ] at ld0 ld1 ld2
  rcases hy with ⟨rfl, rfl⟩ | ⟨rfl, rfl⟩ | ⟨rfl, rfl⟩ | ⟨rfl, rfl⟩
  · (try simp -dsimp (disch := omega) only [↓pre, sp, sp2, wp_some, Int.cast_ofNat_Int, Nat.reduceAdd, Nat.reduceMul, Nat.reduceSub, Nat.reduceLeDiff, Nat.reduceEqDiff, Nat.reducePow, Int.reduceToNat, Int.reducePow, Int.reduceAdd, Int.reduceSub, Int.reduceMul, Int.reduceLT, Int.reduceLE, Int.reduceEq, Int.reduceNeg, s5.at, ld0, kj_eq])
    exact hj 2 _ _ (by omega) ⟨rfl, .inr (.inl ⟨rfl, rfl⟩)⟩
  · (try simp -dsimp (disch := omega) only [↓pre, sp, sp2, wp_some, Int.cast_ofNat_Int, Nat.reduceAdd, Nat.reduceMul, Nat.reduceSub, Nat.reduceLeDiff, Nat.reduceEqDiff, Nat.reducePow, Int.reduceToNat, Int.reducePow, Int.reduceAdd, Int.reduceSub, Int.reduceMul, Int.reduceLT, Int.reduceLE, Int.reduceEq, Int.reduceNeg, s5.at, ld1, kj_eq])
    exact hj 1 _ _ (by omega) ⟨rfl, .inr (.inr (.inl ⟨rfl, rfl⟩))⟩
  · (try simp -dsimp (disch := omega) only [↓pre, sp, sp2, wp_some, Int.cast_ofNat_Int, Nat.reduceAdd, Nat.reduceMul, Nat.reduceSub, Nat.reduceLeDiff, Nat.reduceEqDiff, Nat.reducePow, Int.reduceToNat, Int.reducePow, Int.reduceAdd, Int.reduceSub, Int.reduceMul, Int.reduceLT, Int.reduceLE, Int.reduceEq, Int.reduceNeg, s5.at, ld2, kj_eq])
    exact hj 0 _ _ (by omega) ⟨rfl, .inr (.inr (.inr (⟨rfl, rfl⟩)))⟩
  clear hj
  (try simp -dsimp (disch := omega) only [↓pre, sp, sp2, wp_some, Int.cast_ofNat_Int, Nat.reduceAdd, Nat.reduceMul, Nat.reduceSub, Nat.reduceLeDiff, Nat.reduceEqDiff, Nat.reducePow, Int.reduceToNat, Int.reducePow, Int.reduceAdd, Int.reduceSub, Int.reduceMul, Int.reduceLT, Int.reduceLE, Int.reduceEq, Int.reduceNeg, E4.rp, Bool.or_true, bb4, Bool.not_false, Bool.not_true, if_true, if_false, Bool.false_eq_true])
  refine Wp.bind (is_le H (n + 1) E4 hR ha hb) fun v4 g4 ⟨E5, k4', f4⟩ => ?_
  rw [dgt] at f4
  subst f4
  (try simp -dsimp (disch := omega) only [↓pre, sp, sp2, wp_some, Int.cast_ofNat_Int, Nat.reduceAdd, Nat.reduceMul, Nat.reduceSub, Nat.reduceLeDiff, Nat.reduceEqDiff, Nat.reducePow, Int.reduceToNat, Int.reducePow, Int.reduceAdd, Int.reduceSub, Int.reduceMul, Int.reduceLT, Int.reduceLE, Int.reduceEq, Int.reduceNeg, E5.rp, Bool.or_true, bb4, Bool.not_false, Bool.not_true, if_true, if_false, Bool.false_eq_true])
  refine Wp.bind (is_ge H (n + 1) E5 hR ha hb) fun v5 g5 ⟨E6, k5', f5⟩ => ?_
  rw [dlt] at f5
  subst f5
  (try simp -dsimp (disch := omega) only [↓pre, sp, sp2, wp_some, Int.cast_ofNat_Int, Nat.reduceAdd, Nat.reduceMul, Nat.reduceSub, Nat.reduceLeDiff, Nat.reduceEqDiff, Nat.reducePow, Int.reduceToNat, Int.reducePow, Int.reduceAdd, Int.reduceSub, Int.reduceMul, Int.reduceLT, Int.reduceLE, Int.reduceEq, Int.reduceNeg, E6.rp, Bool.or_true, bb4, Bool.not_false, Bool.not_true, if_true, if_false, Bool.false_eq_true])
  refine Wp.bind (is_ne H (n + 1) E6 hR ha hb) fun v6 g6 ⟨E7, k6', f6⟩ => ?_
  rw [deq] at f6
  subst f6
  (try simp -dsimp (disch := omega) only [↓pre, sp, sp2, wp_some, Int.cast_ofNat_Int, Nat.reduceAdd, Nat.reduceMul, Nat.reduceSub, Nat.reduceLeDiff, Nat.reduceEqDiff, Nat.reducePow, Int.reduceToNat, Int.reducePow, Int.reduceAdd, Int.reduceSub, Int.reduceMul, Int.reduceLT, Int.reduceLE, Int.reduceEq, Int.reduceNeg, E7.rp, Bool.or_true, bb4, Bool.not_false, Bool.not_true, if_true, if_false, Bool.false_eq_true])
  refine Wp.bind (is_gt H (n + 1) E7 hR hb ha) fun v7 g7 ⟨E8, k7', f7⟩ => ?_
  rw [dlt] at f7
  subst f7
  (try simp -dsimp (disch := omega) only [↓pre, sp, sp2, wp_some, Int.cast_ofNat_Int, Nat.reduceAdd, Nat.reduceMul, Nat.reduceSub, Nat.reduceLeDiff, Nat.reduceEqDiff, Nat.reducePow, Int.reduceToNat, Int.reducePow, Int.reduceAdd, Int.reduceSub, Int.reduceMul, Int.reduceLT, Int.reduceLE, Int.reduceEq, Int.reduceNeg, E8.rp, Bool.or_true, bb4, Bool.not_false, Bool.not_true, if_true, if_false, Bool.false_eq_true])
  refine Wp.bind (wrap_spec H (n + 3) E8.w k a ha) fun v8 g8 ⟨k8', f8⟩ => ?_
  subst f8
  have E9 := E8.kp k8'
  (try simp -dsimp (disch := omega) only [↓pre, sp, sp2, wp_some, Int.cast_ofNat_Int, Nat.reduceAdd, Nat.reduceMul, Nat.reduceSub, Nat.reduceLeDiff, Nat.reduceEqDiff, Nat.reducePow, Int.reduceToNat, Int.reducePow, Int.reduceAdd, Int.reduceSub, Int.reduceMul, Int.reduceLT, Int.reduceLE, Int.reduceEq, Int.reduceNeg, E9.rp, Bool.or_true, bb4, Bool.not_false, Bool.not_true, if_true, if_false, Bool.false_eq_true])
  refine Wp.bind (wrap_spec H (n + 3) E9.w k b hb) fun v9 g9 ⟨k9', f9⟩ => ?_
  subst f9
  have E10 := E9.kp k9'
  (try simp -dsimp (disch := omega) only [↓pre, sp, sp2, wp_some, Int.cast_ofNat_Int, Nat.reduceAdd, Nat.reduceMul, Nat.reduceSub, Nat.reduceLeDiff, Nat.reduceEqDiff, Nat.reducePow, Int.reduceToNat, Int.reducePow, Int.reduceAdd, Int.reduceSub, Int.reduceMul, Int.reduceLT, Int.reduceLE, Int.reduceEq, Int.reduceNeg, E10.rp, Bool.or_true, bb4, Bool.not_false, Bool.not_true, if_true, if_false, Bool.false_eq_true, deq])
  refine wp_kTh (fun r _ => r = .bool true) (fun j hj => ?_) (fun v hh e => by subst e; (try simp -dsimp (disch := omega) only [↓pre, sp, sp2, wp_some, Int.cast_ofNat_Int, Nat.reduceAdd, Nat.reduceMul, Nat.reduceSub, Nat.reduceLeDiff, Nat.reduceEqDiff, Nat.reducePow, Int.reduceToNat, Int.reducePow, Int.reduceAdd, Int.reduceSub, Int.reduceMul, Int.reduceLT, Int.reduceLE, Int.reduceEq, Int.reduceNeg]))
  (try simp -dsimp (disch := omega) only [↓pre, sp, sp2, wp_some, Int.cast_ofNat_Int, Nat.reduceAdd, Nat.reduceMul, Nat.reduceSub, Nat.reduceLeDiff, Nat.reduceEqDiff, Nat.reducePow, Int.reduceToNat, Int.reducePow, Int.reduceAdd, Int.reduceSub, Int.reduceMul, Int.reduceLT, Int.reduceLE, Int.reduceEq, Int.reduceNeg])
  exact hj _ _ rfl
theorem numOrders_gt (H : Plain ov) (n : Nat) (w : Wf h) (K : ov N_runglaw1_known = some knownYes) {kind a b c k : Int} (hk : I64 kind) (ha : I64 a) (hb : I64 b) (hc : I64 c) {i : Nat} (hi : i < 11) (hkk : (1 : Int) + i = k)
    (e1' : kc ov (n + 5) N_runghelp_Place [.int .i64 kind, .int .i64 11] h = some (.int .i64 i, h)) (hyp : wrapM k b < wrapM k a) :
    Wp (kc ov (n + 6) N_runglaw1_NumOrders [.int .i64 kind, .int .i64 a, .int .i64 b, .int .i64 c] h) fun r h' => r = .bool true := by
  rw [C_runglaw1_NumOrders H]; unfold F_runglaw1_NumOrders
  have hR : 1 ≤ k ∧ k ≤ 11 := by omega
  have dlt : decide (wrapM k a < wrapM k b) = false := by simp <;> omega
  have dgt : decide (wrapM k b < wrapM k a) = true := by simp <;> omega
  have deq : decide (wrapM k a = wrapM k b) = false := by simp <;> omega
  (try simp -dsimp (disch := omega) only [↓pre, sp, sp2, wp_some, Int.cast_ofNat_Int, Nat.reduceAdd, Nat.reduceMul, Nat.reduceSub, Nat.reduceLeDiff, Nat.reduceEqDiff, Nat.reducePow, Int.reduceToNat, Int.reducePow, Int.reduceAdd, Int.reduceSub, Int.reduceMul, Int.reduceLT, Int.reduceLE, Int.reduceEq, Int.reduceNeg, known_spec K, e1'])
  rw [hkk]
  refine wp_box w rfl rfl fun p h1 hp k1 n1 g1 => ?_
  refine wp_store k1.w' g1 rfl rfl (by decide) rfl fun h2' k2 n2 g2 => ?_
  have E0 : RP h2' p k := ⟨k2.w', g2⟩
  (try simp -dsimp (disch := omega) only [↓pre, sp, sp2, wp_some, Int.cast_ofNat_Int, Nat.reduceAdd, Nat.reduceMul, Nat.reduceSub, Nat.reduceLeDiff, Nat.reduceEqDiff, Nat.reducePow, Int.reduceToNat, Int.reducePow, Int.reduceAdd, Int.reduceSub, Int.reduceMul, Int.reduceLT, Int.reduceLE, Int.reduceEq, Int.reduceNeg, E0.rp])
  refine Wp.bind (is_lt H (n + 1) E0 hR ha hb) fun v0 g0 ⟨E1, k0', f0⟩ => ?_
  rw [dlt] at f0
  subst f0
  (try simp -dsimp (disch := omega) only [↓pre, sp, sp2, wp_some, Int.cast_ofNat_Int, Nat.reduceAdd, Nat.reduceMul, Nat.reduceSub, Nat.reduceLeDiff, Nat.reduceEqDiff, Nat.reducePow, Int.reduceToNat, Int.reducePow, Int.reduceAdd, Int.reduceSub, Int.reduceMul, Int.reduceLT, Int.reduceLE, Int.reduceEq, Int.reduceNeg, E1.rp, Bool.or_true, bb4, Bool.not_false, Bool.not_true, if_true, if_false, Bool.false_eq_true])
  refine Wp.bind (is_eq H (n + 1) E1 hR ha hb) fun v1 g1 ⟨E2, k1', f1⟩ => ?_
  rw [deq] at f1
  subst f1
  (try simp -dsimp (disch := omega) only [↓pre, sp, sp2, wp_some, Int.cast_ofNat_Int, Nat.reduceAdd, Nat.reduceMul, Nat.reduceSub, Nat.reduceLeDiff, Nat.reduceEqDiff, Nat.reducePow, Int.reduceToNat, Int.reducePow, Int.reduceAdd, Int.reduceSub, Int.reduceMul, Int.reduceLT, Int.reduceLE, Int.reduceEq, Int.reduceNeg, E2.rp, Bool.or_true, bb4, Bool.not_false, Bool.not_true, if_true, if_false, Bool.false_eq_true])
  refine Wp.bind (is_gt H (n + 1) E2 hR ha hb) fun v2 g2 ⟨E3, k2', f2⟩ => ?_
  rw [dgt] at f2
  subst f2
  (try simp -dsimp (disch := omega) only [↓pre, sp, sp2, wp_some, Int.cast_ofNat_Int, Nat.reduceAdd, Nat.reduceMul, Nat.reduceSub, Nat.reduceLeDiff, Nat.reduceEqDiff, Nat.reducePow, Int.reduceToNat, Int.reducePow, Int.reduceAdd, Int.reduceSub, Int.reduceMul, Int.reduceLT, Int.reduceLE, Int.reduceEq, Int.reduceNeg, E3.rp, Bool.or_true, bb4, Bool.not_false, Bool.not_true, if_true, if_false, Bool.false_eq_true])
  refine wp_buildSl (cs := [.bool false, .bool false, .bool true]) E3.w ⟨by decide, rfl, by decide⟩ rfl rfl fun r h5 hr k5 n5 g5 => ?_
  have s5 := (Ow.new (sz := 1) (e := T_bool) g5 (by omega) 3 rfl rfl).rd
  have E4 := E3.kp k5
  (try simp -dsimp (disch := omega) only [↓pre, sp, sp2, wp_some, Int.cast_ofNat_Int, Nat.reduceAdd, Nat.reduceMul, Nat.reduceSub, Nat.reduceLeDiff, Nat.reduceEqDiff, Nat.reducePow, Int.reduceToNat, Int.reducePow, Int.reduceAdd, Int.reduceSub, Int.reduceMul, Int.reduceLT, Int.reduceLE, Int.reduceEq, Int.reduceNeg])
  refine wp_loop (fun m y hh => hh = h5 ∧ (m = 3 ∧ y = [.int .i64 0, .int .i64 0] ∨ m = 2 ∧ y = [.int .i64 0, .int .i64 1] ∨ m = 1 ∧ y = [.int .i64 0, .int .i64 2] ∨ m = 0 ∧ y = [.int .i64 1, .int .i64 3])) 3 (by omega) ⟨rfl, .inl ⟨rfl, rfl⟩⟩ ?_
  rintro m y hh j ⟨rfl, hy⟩ hj
  unfold L_runglaw1_NumOrders_0
  have ld0 := s5.ld (j := 0) (by decide)
  have ld1 := s5.ld (j := 1) (by decide)
  have ld2 := s5.ld (j := 2) (by decide)
  simp only [List.getElem?_cons_zero, List.getElem?_cons_succ] at ld0 ld1 ld2
  rcases hy with ⟨rfl, rfl⟩ | ⟨rfl, rfl⟩ | ⟨rfl, rfl⟩ | ⟨rfl, rfl⟩
  · (try simp -dsimp (disch := omega) only [↓pre, sp, sp2, wp_some, Int.cast_ofNat_Int, Nat.reduceAdd, Nat.reduceMul, Nat.reduceSub, Nat.reduceLeDiff, Nat.reduceEqDiff, Nat.reducePow, Int.reduceToNat, Int.reducePow, Int.reduceAdd, Int.reduceSub, Int.reduceMul, Int.reduceLT, Int.reduceLE, Int.reduceEq, Int.reduceNeg, s5.at, ld0, kj_eq])
    exact hj 2 _ _ (by omega) ⟨rfl, .inr (.inl ⟨rfl, rfl⟩)⟩
  · (try simp -dsimp (disch := omega) only [↓pre, sp, sp2, wp_some, Int.cast_ofNat_Int, Nat.reduceAdd, Nat.reduceMul, Nat.reduceSub, Nat.reduceLeDiff, Nat.reduceEqDiff, Nat.reducePow, Int.reduceToNat, Int.reducePow, Int.reduceAdd, Int.reduceSub, Int.reduceMul, Int.reduceLT, Int.reduceLE, Int.reduceEq, Int.reduceNeg, s5.at, ld1, kj_eq])
    exact hj 1 _ _ (by omega) ⟨rfl, .inr (.inr (.inl ⟨rfl, rfl⟩))⟩
  · (try simp -dsimp (disch := omega) only [↓pre, sp, sp2, wp_some, Int.cast_ofNat_Int, Nat.reduceAdd, Nat.reduceMul, Nat.reduceSub, Nat.reduceLeDiff, Nat.reduceEqDiff, Nat.reducePow, Int.reduceToNat, Int.reducePow, Int.reduceAdd, Int.reduceSub, Int.reduceMul, Int.reduceLT, Int.reduceLE, Int.reduceEq, Int.reduceNeg, s5.at, ld2, kj_eq])
    exact hj 0 _ _ (by omega) ⟨rfl, .inr (.inr (.inr (⟨rfl, rfl⟩)))⟩
  clear hj
  (try simp -dsimp (disch := omega) only [↓pre, sp, sp2, wp_some, Int.cast_ofNat_Int, Nat.reduceAdd, Nat.reduceMul, Nat.reduceSub, Nat.reduceLeDiff, Nat.reduceEqDiff, Nat.reducePow, Int.reduceToNat, Int.reducePow, Int.reduceAdd, Int.reduceSub, Int.reduceMul, Int.reduceLT, Int.reduceLE, Int.reduceEq, Int.reduceNeg, E4.rp, Bool.or_true, bb4, Bool.not_false, Bool.not_true, if_true, if_false, Bool.false_eq_true])
  refine Wp.bind (is_le H (n + 1) E4 hR ha hb) fun v4 g4 ⟨E5, k4', f4⟩ => ?_
  rw [dgt] at f4
  subst f4
  (try simp -dsimp (disch := omega) only [↓pre, sp, sp2, wp_some, Int.cast_ofNat_Int, Nat.reduceAdd, Nat.reduceMul, Nat.reduceSub, Nat.reduceLeDiff, Nat.reduceEqDiff, Nat.reducePow, Int.reduceToNat, Int.reducePow, Int.reduceAdd, Int.reduceSub, Int.reduceMul, Int.reduceLT, Int.reduceLE, Int.reduceEq, Int.reduceNeg, E5.rp, Bool.or_true, bb4, Bool.not_false, Bool.not_true, if_true, if_false, Bool.false_eq_true])
  refine Wp.bind (is_ge H (n + 1) E5 hR ha hb) fun v5 g5 ⟨E6, k5', f5⟩ => ?_
  rw [dlt] at f5
  subst f5
  (try simp -dsimp (disch := omega) only [↓pre, sp, sp2, wp_some, Int.cast_ofNat_Int, Nat.reduceAdd, Nat.reduceMul, Nat.reduceSub, Nat.reduceLeDiff, Nat.reduceEqDiff, Nat.reducePow, Int.reduceToNat, Int.reducePow, Int.reduceAdd, Int.reduceSub, Int.reduceMul, Int.reduceLT, Int.reduceLE, Int.reduceEq, Int.reduceNeg, E6.rp, Bool.or_true, bb4, Bool.not_false, Bool.not_true, if_true, if_false, Bool.false_eq_true])
  refine Wp.bind (is_ne H (n + 1) E6 hR ha hb) fun v6 g6 ⟨E7, k6', f6⟩ => ?_
  rw [deq] at f6
  subst f6
  (try simp -dsimp (disch := omega) only [↓pre, sp, sp2, wp_some, Int.cast_ofNat_Int, Nat.reduceAdd, Nat.reduceMul, Nat.reduceSub, Nat.reduceLeDiff, Nat.reduceEqDiff, Nat.reducePow, Int.reduceToNat, Int.reducePow, Int.reduceAdd, Int.reduceSub, Int.reduceMul, Int.reduceLT, Int.reduceLE, Int.reduceEq, Int.reduceNeg, E7.rp, Bool.or_true, bb4, Bool.not_false, Bool.not_true, if_true, if_false, Bool.false_eq_true])
  refine Wp.bind (is_gt H (n + 1) E7 hR hb ha) fun v7 g7 ⟨E8, k7', f7⟩ => ?_
  rw [dlt] at f7
  subst f7
  (try simp -dsimp (disch := omega) only [↓pre, sp, sp2, wp_some, Int.cast_ofNat_Int, Nat.reduceAdd, Nat.reduceMul, Nat.reduceSub, Nat.reduceLeDiff, Nat.reduceEqDiff, Nat.reducePow, Int.reduceToNat, Int.reducePow, Int.reduceAdd, Int.reduceSub, Int.reduceMul, Int.reduceLT, Int.reduceLE, Int.reduceEq, Int.reduceNeg, E8.rp, Bool.or_true, bb4, Bool.not_false, Bool.not_true, if_true, if_false, Bool.false_eq_true])
  refine Wp.bind (wrap_spec H (n + 3) E8.w k a ha) fun v8 g8 ⟨k8', f8⟩ => ?_
  subst f8
  have E9 := E8.kp k8'
  (try simp -dsimp (disch := omega) only [↓pre, sp, sp2, wp_some, Int.cast_ofNat_Int, Nat.reduceAdd, Nat.reduceMul, Nat.reduceSub, Nat.reduceLeDiff, Nat.reduceEqDiff, Nat.reducePow, Int.reduceToNat, Int.reducePow, Int.reduceAdd, Int.reduceSub, Int.reduceMul, Int.reduceLT, Int.reduceLE, Int.reduceEq, Int.reduceNeg, E9.rp, Bool.or_true, bb4, Bool.not_false, Bool.not_true, if_true, if_false, Bool.false_eq_true])
  refine Wp.bind (wrap_spec H (n + 3) E9.w k b hb) fun v9 g9 ⟨k9', f9⟩ => ?_
  subst f9
  have E10 := E9.kp k9'
  (try simp -dsimp (disch := omega) only [↓pre, sp, sp2, wp_some, Int.cast_ofNat_Int, Nat.reduceAdd, Nat.reduceMul, Nat.reduceSub, Nat.reduceLeDiff, Nat.reduceEqDiff, Nat.reducePow, Int.reduceToNat, Int.reducePow, Int.reduceAdd, Int.reduceSub, Int.reduceMul, Int.reduceLT, Int.reduceLE, Int.reduceEq, Int.reduceNeg, E10.rp, Bool.or_true, bb4, Bool.not_false, Bool.not_true, if_true, if_false, Bool.false_eq_true, deq])
  refine wp_kTh (fun r _ => r = .bool true) (fun j hj => ?_) (fun v hh e => by subst e; (try simp -dsimp (disch := omega) only [↓pre, sp, sp2, wp_some, Int.cast_ofNat_Int, Nat.reduceAdd, Nat.reduceMul, Nat.reduceSub, Nat.reduceLeDiff, Nat.reduceEqDiff, Nat.reducePow, Int.reduceToNat, Int.reducePow, Int.reduceAdd, Int.reduceSub, Int.reduceMul, Int.reduceLT, Int.reduceLE, Int.reduceEq, Int.reduceNeg]))
  (try simp -dsimp (disch := omega) only [↓pre, sp, sp2, wp_some, Int.cast_ofNat_Int, Nat.reduceAdd, Nat.reduceMul, Nat.reduceSub, Nat.reduceLeDiff, Nat.reduceEqDiff, Nat.reducePow, Int.reduceToNat, Int.reducePow, Int.reduceAdd, Int.reduceSub, Int.reduceMul, Int.reduceLT, Int.reduceLE, Int.reduceEq, Int.reduceNeg])
  exact hj _ _ rfl
theorem numOrders (H : Plain ov) (K : ov N_runglaw1_known = some knownYes) (n : Nat) (w : Wf h) {kind a b c : Int} (hk : I64 kind) (ha : I64 a) (hb : I64 b) (hc : I64 c) :
    Wp (kc ov (n + 6) N_runglaw1_NumOrders [.int .i64 kind, .int .i64 a, .int .i64 b, .int .i64 c] h) fun r h' => r = .bool true := by
  obtain ⟨i, hi, e1, _⟩ := place_spec (h := h) H (n + 4) hk (m := 11) (by omega) (by omega)
  rcases Int.lt_trichotomy (wrapM (1 + i) a) (wrapM (1 + i) b) with c1 | c1 | c1
  · exact numOrders_lt H n w K hk ha hb hc hi rfl e1 c1
  · exact numOrders_eq H n w K hk ha hb hc hi rfl e1 c1
  · exact numOrders_gt H n w K hk ha hb hc hi rfl e1 c1
end Go.Proofs.Ytijdkjngbogegaa.AI
