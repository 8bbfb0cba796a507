/- Chapter 1: sums and products, divisions, orders, logic: what the laws' texts come to. -/
import Derived.Test.YtijdkjngbogegaaNumA
import Derived.Test.YtijdkjngbogegaaHelpP
import Derived.Test.YtijdkjngbogegaaAiNumQ
namespace Go.Proofs.Ytijdkjngbogegaa.AI
open Go
set_option linter.unusedSimpArgs false
set_option linter.unusedVariables false
variable {ov : AOver} {h : AH}
theorem known_spec (K : ov N_runglaw1_known = some knownYes) (n : Nat) : kc ov (n + 1) N_runglaw1_known [] h = some (.bool true, h) := by
  unfold kc kcall; rw [K]; rfl
theorem ediv64 {m x : Int} (hm : m ∣ 18446744073709551616) : IntKind.wrap .i64 x % m = x % m := by
  rw [IntKind.wrap_i64]
  obtain ⟨c, hc⟩ := hm
  rw [hc]
  rw [Int.emod_def (x + 9223372036854775808) (m * c)]
  generalize (x + 9223372036854775808) / (m * c) = q
  rw [show x + 9223372036854775808 - m * c * q - 9223372036854775808 = x - m * (c * q) by rw [Int.mul_assoc]; omega]
  exact Int.sub_mul_emod_self_left _ _ _
theorem modM_dvd (k : Int) (h2 : 2 ≤ k ∧ k ≤ 11) : modM k ∣ 18446744073709551616 := by
  refine wrapM_cases (P := fun m f => m ∣ 18446744073709551616) k h2 ?_ ?_ ?_ ?_ ?_ ?_ <;> decide
section
variable {k : Int} (h2 : 2 ≤ k ∧ k ≤ 11)
include h2
theorem w64 (x : Int) : wrapM k (IntKind.wrap .i64 x) = wrapM k x := wrapM_congr k h2 _ _ (ediv64 (modM_dvd k h2))
theorem wal (x y : Int) : wrapM k (wrapM k x + y) = wrapM k (x + y) := wrapM_congr k h2 _ _ (by rw [Int.add_emod, wrapM_emod k h2, ← Int.add_emod])
theorem war (x y : Int) : wrapM k (x + wrapM k y) = wrapM k (x + y) := wrapM_congr k h2 _ _ (by rw [Int.add_emod, wrapM_emod k h2, ← Int.add_emod])
theorem wsl (x y : Int) : wrapM k (wrapM k x - y) = wrapM k (x - y) := wrapM_congr k h2 _ _ (by rw [Int.sub_emod, wrapM_emod k h2, ← Int.sub_emod])
theorem wsr (x y : Int) : wrapM k (x - wrapM k y) = wrapM k (x - y) := wrapM_congr k h2 _ _ (by rw [Int.sub_emod, wrapM_emod k h2, ← Int.sub_emod])
theorem wml (x y : Int) : wrapM k (wrapM k x * y) = wrapM k (x * y) := wrapM_congr k h2 _ _ (by rw [Int.mul_emod, wrapM_emod k h2, ← Int.mul_emod])
theorem wmr (x y : Int) : wrapM k (x * wrapM k y) = wrapM k (x * y) := wrapM_congr k h2 _ _ (by rw [Int.mul_emod, wrapM_emod k h2, ← Int.mul_emod])
theorem wneg (x : Int) : wrapM k (-wrapM k x) = wrapM k (-x) := by
  have := wsr h2 0 x
  simpa using this
end
theorem wz (k : Int) : wrapM k 0 = 0 := by
  rcases kcases k with rfl | rfl | rfl | rfl | rfl | rfl | rfl | rfl | rfl | rfl | rfl | ⟨_, e, _⟩
  all_goals first | rfl | rw [e]
/-- The boxes that the statements' functions have in common. -/
structure RE (h : AH) (p q : Nat) (k : Int) (D : Nat) (t : Nat) : Prop where
  w : Wf h
  gp : h.get p = some ⟨.row [.int .i64 k] T_int false, .rw, []⟩
  gq : h.get q = some ⟨.row [.func (.func D) [] [.ptr (some (p, 0))]] t false, .rw, []⟩
theorem RE.kp {h' : AH} {p q : Nat} {k : Int} {D t : Nat} (E : RE h p q k D t) (K : Kp h h') : RE h' p q k D t := ⟨K.w', K.gt E.gp, K.gt E.gq⟩
theorem RE.rp {p q : Nat} {k : Int} {D t : Nat} (E : RE h p q k D t) : h.row p = some [.int .i64 k] := row_rw E.gp
theorem RE.rq {p q : Nat} {k : Int} {D t : Nat} (E : RE h p q k D t) : h.row q = some [.func (.func D) [] [.ptr (some (p, 0))]] := row_rw E.gq
/-- What such a call comes to. -/
def DoQ (h : AH) (p q : Nat) (k : Int) (D t : Nat) (r : AVal) (h' : AH) (x : Int) : Prop := RE h' p q k D t ∧ r = .int .i64 x
abbrev doF (p : Nat) (D : Nat) : AVal := .func (.func D) [] [.ptr (some (p, 0))]

theorem NumRing_add (H : Plain ov) (n : Nat) {p q t : Nat} {k : Int} (E : RE h p q k N_runglaw1_NumRing_1 t) (hk : 2 ≤ k ∧ k ≤ 7) {x y : Int} (hx : I64 x) (hy : I64 y) :
    Wp (rCallV (kc ov (n + 4)) (doF p N_runglaw1_NumRing_1) [.int .i64 8, .int .i64 x, .int .i64 y] h) fun r h' => DoQ h p q k N_runglaw1_NumRing_1 t r h' (wrapM k (x + y)) := by
  show Wp (kc ov (n + 4) N_runglaw1_NumRing_1 [.int .i64 8, .int .i64 x, .int .i64 y, .ptr (some (p, 0))] h) _
  rw [C_runglaw1_NumRing_1 H]; unfold F_runglaw1_NumRing_1
  (try simp -dsimp (disch := omega) only [↓pre, sp, sp2, wp_some, Int.cast_ofNat_Int, Nat.reduceAdd, Nat.reduceMul, Nat.reduceSub, Nat.reduceLeDiff, Nat.reduceEqDiff, Nat.reducePow, Int.reduceToNat, Int.reducePow, Int.reduceAdd, Int.reduceSub, Int.reduceMul, Int.reduceLT, Int.reduceLE, Int.reduceEq, Int.reduceNeg, E.rp])
  refine Wp.bind (apply_add H n E.w (by omega) hx hy) fun v h1 ⟨k1, e1⟩ => ?_
  subst e1
  (try simp -dsimp (disch := omega) only [↓pre, sp, sp2, wp_some, Int.cast_ofNat_Int, Nat.reduceAdd, Nat.reduceMul, Nat.reduceSub, Nat.reduceLeDiff, Nat.reduceEqDiff, Nat.reducePow, Int.reduceToNat, Int.reducePow, Int.reduceAdd, Int.reduceSub, Int.reduceMul, Int.reduceLT, Int.reduceLE, Int.reduceEq, Int.reduceNeg])
  have h2 : 2 ≤ k ∧ k ≤ 11 := by omega
  rw [wal h2, war h2]
  exact ⟨E.kp k1, rfl⟩
theorem NumRing_sub (H : Plain ov) (n : Nat) {p q t : Nat} {k : Int} (E : RE h p q k N_runglaw1_NumRing_1 t) (hk : 2 ≤ k ∧ k ≤ 7) {x y : Int} (hx : I64 x) (hy : I64 y) :
    Wp (rCallV (kc ov (n + 4)) (doF p N_runglaw1_NumRing_1) [.int .i64 9, .int .i64 x, .int .i64 y] h) fun r h' => DoQ h p q k N_runglaw1_NumRing_1 t r h' (wrapM k (x - y)) := by
  show Wp (kc ov (n + 4) N_runglaw1_NumRing_1 [.int .i64 9, .int .i64 x, .int .i64 y, .ptr (some (p, 0))] h) _
  rw [C_runglaw1_NumRing_1 H]; unfold F_runglaw1_NumRing_1
  (try simp -dsimp (disch := omega) only [↓pre, sp, sp2, wp_some, Int.cast_ofNat_Int, Nat.reduceAdd, Nat.reduceMul, Nat.reduceSub, Nat.reduceLeDiff, Nat.reduceEqDiff, Nat.reducePow, Int.reduceToNat, Int.reducePow, Int.reduceAdd, Int.reduceSub, Int.reduceMul, Int.reduceLT, Int.reduceLE, Int.reduceEq, Int.reduceNeg, E.rp])
  refine Wp.bind (apply_sub H n E.w (by omega) hx hy) fun v h1 ⟨k1, e1⟩ => ?_
  subst e1
  (try simp -dsimp (disch := omega) only [↓pre, sp, sp2, wp_some, Int.cast_ofNat_Int, Nat.reduceAdd, Nat.reduceMul, Nat.reduceSub, Nat.reduceLeDiff, Nat.reduceEqDiff, Nat.reducePow, Int.reduceToNat, Int.reducePow, Int.reduceAdd, Int.reduceSub, Int.reduceMul, Int.reduceLT, Int.reduceLE, Int.reduceEq, Int.reduceNeg])
  have h2 : 2 ≤ k ∧ k ≤ 11 := by omega
  rw [wsl h2, wsr h2]
  exact ⟨E.kp k1, rfl⟩
theorem NumRing_mul (H : Plain ov) (n : Nat) {p q t : Nat} {k : Int} (E : RE h p q k N_runglaw1_NumRing_1 t) (hk : 2 ≤ k ∧ k ≤ 7) {x y : Int} (hx : I64 x) (hy : I64 y) :
    Wp (rCallV (kc ov (n + 4)) (doF p N_runglaw1_NumRing_1) [.int .i64 5, .int .i64 x, .int .i64 y] h) fun r h' => DoQ h p q k N_runglaw1_NumRing_1 t r h' (wrapM k (x * y)) := by
  show Wp (kc ov (n + 4) N_runglaw1_NumRing_1 [.int .i64 5, .int .i64 x, .int .i64 y, .ptr (some (p, 0))] h) _
  rw [C_runglaw1_NumRing_1 H]; unfold F_runglaw1_NumRing_1
  (try simp -dsimp (disch := omega) only [↓pre, sp, sp2, wp_some, Int.cast_ofNat_Int, Nat.reduceAdd, Nat.reduceMul, Nat.reduceSub, Nat.reduceLeDiff, Nat.reduceEqDiff, Nat.reducePow, Int.reduceToNat, Int.reducePow, Int.reduceAdd, Int.reduceSub, Int.reduceMul, Int.reduceLT, Int.reduceLE, Int.reduceEq, Int.reduceNeg, E.rp])
  refine Wp.bind (apply_mul H n E.w (by omega) hx hy) fun v h1 ⟨k1, e1⟩ => ?_
  subst e1
  (try simp -dsimp (disch := omega) only [↓pre, sp, sp2, wp_some, Int.cast_ofNat_Int, Nat.reduceAdd, Nat.reduceMul, Nat.reduceSub, Nat.reduceLeDiff, Nat.reduceEqDiff, Nat.reducePow, Int.reduceToNat, Int.reducePow, Int.reduceAdd, Int.reduceSub, Int.reduceMul, Int.reduceLT, Int.reduceLE, Int.reduceEq, Int.reduceNeg])
  have h2 : 2 ≤ k ∧ k ≤ 11 := by omega
  rw [w64 h2, wml h2, wmr h2]
  exact ⟨E.kp k1, rfl⟩
theorem NumRing_add2 (H : Plain ov) (n : Nat) {p q t : Nat} {k : Int} (E : RE h p q k N_runglaw1_NumRing_1 t) (hk : 2 ≤ k ∧ k ≤ 7) {x y : Int} (hx : I64 x) (hy : I64 y) :
    Wp (rCallV (kc ov (n + 5)) (doF q N_runglaw1_NumRing_2) [.int .i64 x, .int .i64 y] h) fun r h' => DoQ h p q k N_runglaw1_NumRing_1 t r h' (wrapM k (x + y)) := by
  show Wp (kc ov (n + 5) N_runglaw1_NumRing_2 [.int .i64 x, .int .i64 y, .ptr (some (q, 0))] h) _
  rw [C_runglaw1_NumRing_2 H]; unfold F_runglaw1_NumRing_2
  (try simp -dsimp (disch := omega) only [↓pre, sp, sp2, wp_some, Int.cast_ofNat_Int, Nat.reduceAdd, Nat.reduceMul, Nat.reduceSub, Nat.reduceLeDiff, Nat.reduceEqDiff, Nat.reducePow, Int.reduceToNat, Int.reducePow, Int.reduceAdd, Int.reduceSub, Int.reduceMul, Int.reduceLT, Int.reduceLE, Int.reduceEq, Int.reduceNeg, E.rq])
  refine Wp.bind (NumRing_add H n E hk hx hy) fun v h1 ⟨E1, e1⟩ => ?_
  subst e1
  (try simp -dsimp (disch := omega) only [↓pre, sp, sp2, wp_some, Int.cast_ofNat_Int, Nat.reduceAdd, Nat.reduceMul, Nat.reduceSub, Nat.reduceLeDiff, Nat.reduceEqDiff, Nat.reducePow, Int.reduceToNat, Int.reducePow, Int.reduceAdd, Int.reduceSub, Int.reduceMul, Int.reduceLT, Int.reduceLE, Int.reduceEq, Int.reduceNeg])
  exact ⟨E1, rfl⟩
theorem NumRing_mul2 (H : Plain ov) (n : Nat) {p q t : Nat} {k : Int} (E : RE h p q k N_runglaw1_NumRing_1 t) (hk : 2 ≤ k ∧ k ≤ 7) {x y : Int} (hx : I64 x) (hy : I64 y) :
    Wp (rCallV (kc ov (n + 5)) (doF q N_runglaw1_NumRing_3) [.int .i64 x, .int .i64 y] h) fun r h' => DoQ h p q k N_runglaw1_NumRing_1 t r h' (wrapM k (x * y)) := by
  show Wp (kc ov (n + 5) N_runglaw1_NumRing_3 [.int .i64 x, .int .i64 y, .ptr (some (q, 0))] h) _
  rw [C_runglaw1_NumRing_3 H]; unfold F_runglaw1_NumRing_3
  (try simp -dsimp (disch := omega) only [↓pre, sp, sp2, wp_some, Int.cast_ofNat_Int, Nat.reduceAdd, Nat.reduceMul, Nat.reduceSub, Nat.reduceLeDiff, Nat.reduceEqDiff, Nat.reducePow, Int.reduceToNat, Int.reducePow, Int.reduceAdd, Int.reduceSub, Int.reduceMul, Int.reduceLT, Int.reduceLE, Int.reduceEq, Int.reduceNeg, E.rq])
  refine Wp.bind (NumRing_mul H n E hk hx hy) fun v h1 ⟨E1, e1⟩ => ?_
  subst e1
  (try simp -dsimp (disch := omega) only [↓pre, sp, sp2, wp_some, Int.cast_ofNat_Int, Nat.reduceAdd, Nat.reduceMul, Nat.reduceSub, Nat.reduceLeDiff, Nat.reduceEqDiff, Nat.reducePow, Int.reduceToNat, Int.reducePow, Int.reduceAdd, Int.reduceSub, Int.reduceMul, Int.reduceLT, Int.reduceLE, Int.reduceEq, Int.reduceNeg])
  exact ⟨E1, rfl⟩
theorem numRing (H : Plain ov) (K : ov N_runglaw1_known = some knownYes) (n : Nat) (w : Wf h) {kind a b c : Int} (hk : I64 kind) (ha : I64 a) (hb : I64 b) (hc : I64 c) :
    Wp (kc ov (n + 6) N_runglaw1_NumRing [.int .i64 kind, .int .i64 a, .int .i64 b, .int .i64 c] h) fun r h' => r = .bool true := by
  rw [C_runglaw1_NumRing H]; unfold F_runglaw1_NumRing
  obtain ⟨i, hi, e1, _⟩ := place_spec (h := h) H (n + 4) hk (m := 6) (by omega) (by omega)
  have e1' : kc ov (n + 5) N_runghelp_Place [.int .i64 kind, .int .i64 6] h = some (.int .i64 i, h) := e1
  have e2 : IntKind.wrap .i64 (2 + (i : Int)) = 2 + i := wr_i64 (by omega) (by omega)
  (try simp -dsimp (disch := omega) only [↓pre, sp, sp2, wp_some, Int.cast_ofNat_Int, Nat.reduceAdd, Nat.reduceMul, Nat.reduceSub, Nat.reduceLeDiff, Nat.reduceEqDiff, Nat.reducePow, Int.reduceToNat, Int.reducePow, Int.reduceAdd, Int.reduceSub, Int.reduceMul, Int.reduceLT, Int.reduceLE, Int.reduceEq, Int.reduceNeg, known_spec K, e1'])
  generalize hkk : (2 : Int) + i = k
  have hR : 2 ≤ k ∧ k ≤ 7 := by omega
  have h2 : 2 ≤ k ∧ k ≤ 11 := by omega
  refine wp_box w rfl rfl fun p h1 hp k1 n1 g1 => ?_
  refine wp_store k1.w' g1 rfl rfl (by decide) rfl fun h2' k2 n2 g2 => ?_
  (try simp -dsimp (disch := omega) only [↓pre, sp, sp2, wp_some, Int.cast_ofNat_Int, Nat.reduceAdd, Nat.reduceMul, Nat.reduceSub, Nat.reduceLeDiff, Nat.reduceEqDiff, Nat.reducePow, Int.reduceToNat, Int.reducePow, Int.reduceAdd, Int.reduceSub, Int.reduceMul, Int.reduceLT, Int.reduceLE, Int.reduceEq, Int.reduceNeg])
  refine wp_box k2.w' (cs := [.nilFunc]) rfl rfl fun q h3 hq k3 n3 g3 => ?_
  refine wp_store k3.w' g3 rfl rfl (by decide) rfl fun h4 k4 n4 g4 => ?_
  have E0 : RE h4 p q k N_runglaw1_NumRing_1 T_func_int__int64__int64__int64 := ⟨k4.w', k4.gt (k3.gt g2) (by omega), g4⟩
  have ww : ∀ x, I64 (wrapM k x) := wrapM_I64 k
  refine Wp.bind (NumRing_add2 H n E0 hR ha hb) fun v0 g0 ⟨E1, f0⟩ => ?_
  subst f0
  (try simp -dsimp (disch := omega) only [↓pre, sp, sp2, wp_some, Int.cast_ofNat_Int, Nat.reduceAdd, Nat.reduceMul, Nat.reduceSub, Nat.reduceLeDiff, Nat.reduceEqDiff, Nat.reducePow, Int.reduceToNat, Int.reducePow, Int.reduceAdd, Int.reduceSub, Int.reduceMul, Int.reduceLT, Int.reduceLE, Int.reduceEq, Int.reduceNeg, E1.rp, E1.rq])
  refine Wp.bind (NumRing_add2 H n E1 hR hb ha) fun v1 g1 ⟨E2, f1⟩ => ?_
  subst f1
  have q2 : (wrapM k (a + b)) = (wrapM k (b + a)) := by rw [Int.add_comm]
  (try simp -dsimp (disch := omega) only [↓pre, sp, sp2, wp_some, Int.cast_ofNat_Int, Nat.reduceAdd, Nat.reduceMul, Nat.reduceSub, Nat.reduceLeDiff, Nat.reduceEqDiff, Nat.reducePow, Int.reduceToNat, Int.reducePow, Int.reduceAdd, Int.reduceSub, Int.reduceMul, Int.reduceLT, Int.reduceLE, Int.reduceEq, Int.reduceNeg, q2, decide_true, E2.rp, E2.rq])
  refine Wp.bind (NumRing_mul2 H n E2 hR ha hb) fun v2 g2 ⟨E3, f2⟩ => ?_
  subst f2
  (try simp -dsimp (disch := omega) only [↓pre, sp, sp2, wp_some, Int.cast_ofNat_Int, Nat.reduceAdd, Nat.reduceMul, Nat.reduceSub, Nat.reduceLeDiff, Nat.reduceEqDiff, Nat.reducePow, Int.reduceToNat, Int.reducePow, Int.reduceAdd, Int.reduceSub, Int.reduceMul, Int.reduceLT, Int.reduceLE, Int.reduceEq, Int.reduceNeg, E3.rp, E3.rq])
  refine Wp.bind (NumRing_mul2 H n E3 hR hb ha) fun v3 g3 ⟨E4, f3⟩ => ?_
  subst f3
  have q4 : (wrapM k (a * b)) = (wrapM k (b * a)) := by rw [Int.mul_comm]
  (try simp -dsimp (disch := omega) only [↓pre, sp, sp2, wp_some, Int.cast_ofNat_Int, Nat.reduceAdd, Nat.reduceMul, Nat.reduceSub, Nat.reduceLeDiff, Nat.reduceEqDiff, Nat.reducePow, Int.reduceToNat, Int.reducePow, Int.reduceAdd, Int.reduceSub, Int.reduceMul, Int.reduceLT, Int.reduceLE, Int.reduceEq, Int.reduceNeg, q4, decide_true, E4.rp, E4.rq])
  refine Wp.bind (NumRing_add2 H n E4 hR ha hb) fun v4 g4 ⟨E5, f4⟩ => ?_
  subst f4
  (try simp -dsimp (disch := omega) only [↓pre, sp, sp2, wp_some, Int.cast_ofNat_Int, Nat.reduceAdd, Nat.reduceMul, Nat.reduceSub, Nat.reduceLeDiff, Nat.reduceEqDiff, Nat.reducePow, Int.reduceToNat, Int.reducePow, Int.reduceAdd, Int.reduceSub, Int.reduceMul, Int.reduceLT, Int.reduceLE, Int.reduceEq, Int.reduceNeg, E5.rp, E5.rq])
  refine Wp.bind (NumRing_add2 H n E5 hR (ww _) hc) fun v5 g5 ⟨E6, f5⟩ => ?_
  subst f5
  (try simp -dsimp (disch := omega) only [↓pre, sp, sp2, wp_some, Int.cast_ofNat_Int, Nat.reduceAdd, Nat.reduceMul, Nat.reduceSub, Nat.reduceLeDiff, Nat.reduceEqDiff, Nat.reducePow, Int.reduceToNat, Int.reducePow, Int.reduceAdd, Int.reduceSub, Int.reduceMul, Int.reduceLT, Int.reduceLE, Int.reduceEq, Int.reduceNeg, E6.rp, E6.rq])
  refine Wp.bind (NumRing_add2 H n E6 hR hb hc) fun v6 g6 ⟨E7, f6⟩ => ?_
  subst f6
  (try simp -dsimp (disch := omega) only [↓pre, sp, sp2, wp_some, Int.cast_ofNat_Int, Nat.reduceAdd, Nat.reduceMul, Nat.reduceSub, Nat.reduceLeDiff, Nat.reduceEqDiff, Nat.reducePow, Int.reduceToNat, Int.reducePow, Int.reduceAdd, Int.reduceSub, Int.reduceMul, Int.reduceLT, Int.reduceLE, Int.reduceEq, Int.reduceNeg, E7.rp, E7.rq])
  refine Wp.bind (NumRing_add2 H n E7 hR ha (ww _)) fun v7 g7 ⟨E8, f7⟩ => ?_
  subst f7
  have q8 : (wrapM k ((wrapM k (a + b)) + c)) = (wrapM k (a + (wrapM k (b + c)))) := by rw [wal h2, war h2, Int.add_assoc]
  (try simp -dsimp (disch := omega) only [↓pre, sp, sp2, wp_some, Int.cast_ofNat_Int, Nat.reduceAdd, Nat.reduceMul, Nat.reduceSub, Nat.reduceLeDiff, Nat.reduceEqDiff, Nat.reducePow, Int.reduceToNat, Int.reducePow, Int.reduceAdd, Int.reduceSub, Int.reduceMul, Int.reduceLT, Int.reduceLE, Int.reduceEq, Int.reduceNeg, q8, decide_true, E8.rp, E8.rq])
  refine Wp.bind (NumRing_mul2 H n E8 hR ha hb) fun v8 g8 ⟨E9, f8⟩ => ?_
  subst f8
  (try simp -dsimp (disch := omega) only [↓pre, sp, sp2, wp_some, Int.cast_ofNat_Int, Nat.reduceAdd, Nat.reduceMul, Nat.reduceSub, Nat.reduceLeDiff, Nat.reduceEqDiff, Nat.reducePow, Int.reduceToNat, Int.reducePow, Int.reduceAdd, Int.reduceSub, Int.reduceMul, Int.reduceLT, Int.reduceLE, Int.reduceEq, Int.reduceNeg, E9.rp, E9.rq])
  refine Wp.bind (NumRing_mul2 H n E9 hR (ww _) hc) fun v9 g9 ⟨E10, f9⟩ => ?_
  subst f9
  (try simp -dsimp (disch := omega) only [↓pre, sp, sp2, wp_some, Int.cast_ofNat_Int, Nat.reduceAdd, Nat.reduceMul, Nat.reduceSub, Nat.reduceLeDiff, Nat.reduceEqDiff, Nat.reducePow, Int.reduceToNat, Int.reducePow, Int.reduceAdd, Int.reduceSub, Int.reduceMul, Int.reduceLT, Int.reduceLE, Int.reduceEq, Int.reduceNeg, E10.rp, E10.rq])
  refine Wp.bind (NumRing_mul2 H n E10 hR hb hc) fun v10 g10 ⟨E11, f10⟩ => ?_
  subst f10
  (try simp -dsimp (disch := omega) only [↓pre, sp, sp2, wp_some, Int.cast_ofNat_Int, Nat.reduceAdd, Nat.reduceMul, Nat.reduceSub, Nat.reduceLeDiff, Nat.reduceEqDiff, Nat.reducePow, Int.reduceToNat, Int.reducePow, Int.reduceAdd, Int.reduceSub, Int.reduceMul, Int.reduceLT, Int.reduceLE, Int.reduceEq, Int.reduceNeg, E11.rp, E11.rq])
  refine Wp.bind (NumRing_mul2 H n E11 hR ha (ww _)) fun v11 g11 ⟨E12, f11⟩ => ?_
  subst f11
  have q12 : (wrapM k ((wrapM k (a * b)) * c)) = (wrapM k (a * (wrapM k (b * c)))) := by rw [wml h2, wmr h2, Int.mul_assoc]
  (try simp -dsimp (disch := omega) only [↓pre, sp, sp2, wp_some, Int.cast_ofNat_Int, Nat.reduceAdd, Nat.reduceMul, Nat.reduceSub, Nat.reduceLeDiff, Nat.reduceEqDiff, Nat.reducePow, Int.reduceToNat, Int.reducePow, Int.reduceAdd, Int.reduceSub, Int.reduceMul, Int.reduceLT, Int.reduceLE, Int.reduceEq, Int.reduceNeg, q12, decide_true, E12.rp, E12.rq])
  refine Wp.bind (NumRing_add2 H n E12 hR hb hc) fun v12 g12 ⟨E13, f12⟩ => ?_
  subst f12
  (try simp -dsimp (disch := omega) only [↓pre, sp, sp2, wp_some, Int.cast_ofNat_Int, Nat.reduceAdd, Nat.reduceMul, Nat.reduceSub, Nat.reduceLeDiff, Nat.reduceEqDiff, Nat.reducePow, Int.reduceToNat, Int.reducePow, Int.reduceAdd, Int.reduceSub, Int.reduceMul, Int.reduceLT, Int.reduceLE, Int.reduceEq, Int.reduceNeg, E13.rp, E13.rq])
  refine Wp.bind (NumRing_mul2 H n E13 hR ha (ww _)) fun v13 g13 ⟨E14, f13⟩ => ?_
  subst f13
  (try simp -dsimp (disch := omega) only [↓pre, sp, sp2, wp_some, Int.cast_ofNat_Int, Nat.reduceAdd, Nat.reduceMul, Nat.reduceSub, Nat.reduceLeDiff, Nat.reduceEqDiff, Nat.reducePow, Int.reduceToNat, Int.reducePow, Int.reduceAdd, Int.reduceSub, Int.reduceMul, Int.reduceLT, Int.reduceLE, Int.reduceEq, Int.reduceNeg, E14.rp, E14.rq])
  refine Wp.bind (NumRing_mul2 H n E14 hR ha hb) fun v14 g14 ⟨E15, f14⟩ => ?_
  subst f14
  (try simp -dsimp (disch := omega) only [↓pre, sp, sp2, wp_some, Int.cast_ofNat_Int, Nat.reduceAdd, Nat.reduceMul, Nat.reduceSub, Nat.reduceLeDiff, Nat.reduceEqDiff, Nat.reducePow, Int.reduceToNat, Int.reducePow, Int.reduceAdd, Int.reduceSub, Int.reduceMul, Int.reduceLT, Int.reduceLE, Int.reduceEq, Int.reduceNeg, E15.rp, E15.rq])
  refine Wp.bind (NumRing_mul2 H n E15 hR ha hc) fun v15 g15 ⟨E16, f15⟩ => ?_
  subst f15
  (try simp -dsimp (disch := omega) only [↓pre, sp, sp2, wp_some, Int.cast_ofNat_Int, Nat.reduceAdd, Nat.reduceMul, Nat.reduceSub, Nat.reduceLeDiff, Nat.reduceEqDiff, Nat.reducePow, Int.reduceToNat, Int.reducePow, Int.reduceAdd, Int.reduceSub, Int.reduceMul, Int.reduceLT, Int.reduceLE, Int.reduceEq, Int.reduceNeg, E16.rp, E16.rq])
  refine Wp.bind (NumRing_add2 H n E16 hR (ww _) (ww _)) fun v16 g16 ⟨E17, f16⟩ => ?_
  subst f16
  have q17 : (wrapM k (a * (wrapM k (b + c)))) = (wrapM k ((wrapM k (a * b)) + (wrapM k (a * c)))) := by rw [wmr h2, wal h2, war h2, Int.mul_add]
  (try simp -dsimp (disch := omega) only [↓pre, sp, sp2, wp_some, Int.cast_ofNat_Int, Nat.reduceAdd, Nat.reduceMul, Nat.reduceSub, Nat.reduceLeDiff, Nat.reduceEqDiff, Nat.reducePow, Int.reduceToNat, Int.reducePow, Int.reduceAdd, Int.reduceSub, Int.reduceMul, Int.reduceLT, Int.reduceLE, Int.reduceEq, Int.reduceNeg, q17, decide_true, E17.rp, E17.rq])
  refine Wp.bind (NumRing_add2 H n E17 hR ha hb) fun v17 g17 ⟨E18, f17⟩ => ?_
  subst f17
  (try simp -dsimp (disch := omega) only [↓pre, sp, sp2, wp_some, Int.cast_ofNat_Int, Nat.reduceAdd, Nat.reduceMul, Nat.reduceSub, Nat.reduceLeDiff, Nat.reduceEqDiff, Nat.reducePow, Int.reduceToNat, Int.reducePow, Int.reduceAdd, Int.reduceSub, Int.reduceMul, Int.reduceLT, Int.reduceLE, Int.reduceEq, Int.reduceNeg, E18.rp, E18.rq])
  refine Wp.bind (NumRing_sub H (n + 1) E18 hR (ww _) hb) fun v18 g18 ⟨E19, f18⟩ => ?_
  subst f18
  (try simp -dsimp (disch := omega) only [↓pre, sp, sp2, wp_some, Int.cast_ofNat_Int, Nat.reduceAdd, Nat.reduceMul, Nat.reduceSub, Nat.reduceLeDiff, Nat.reduceEqDiff, Nat.reducePow, Int.reduceToNat, Int.reducePow, Int.reduceAdd, Int.reduceSub, Int.reduceMul, Int.reduceLT, Int.reduceLE, Int.reduceEq, Int.reduceNeg, E19.rp, E19.rq])
  refine Wp.bind (wrap_spec H (n + 3) E19.w k a ha) fun v19 g19 ⟨k19', f19⟩ => ?_
  subst f19
  have E20 := E19.kp k19'
  have q20 : (wrapM k ((wrapM k (a + b)) - b)) = wrapM k a := by rw [wsl h2, Int.add_sub_cancel]
  (try simp -dsimp (disch := omega) only [↓pre, sp, sp2, wp_some, Int.cast_ofNat_Int, Nat.reduceAdd, Nat.reduceMul, Nat.reduceSub, Nat.reduceLeDiff, Nat.reduceEqDiff, Nat.reducePow, Int.reduceToNat, Int.reducePow, Int.reduceAdd, Int.reduceSub, Int.reduceMul, Int.reduceLT, Int.reduceLE, Int.reduceEq, Int.reduceNeg, q20, decide_true, E20.rp, E20.rq])
  refine Wp.bind (neg_spec H (n + 2) E20.w (k := k) ha) fun v20 g20 ⟨k20', f20⟩ => ?_
  subst f20
  have E21 := E20.kp k20'
  (try simp -dsimp (disch := omega) only [↓pre, sp, sp2, wp_some, Int.cast_ofNat_Int, Nat.reduceAdd, Nat.reduceMul, Nat.reduceSub, Nat.reduceLeDiff, Nat.reduceEqDiff, Nat.reducePow, Int.reduceToNat, Int.reducePow, Int.reduceAdd, Int.reduceSub, Int.reduceMul, Int.reduceLT, Int.reduceLE, Int.reduceEq, Int.reduceNeg, E21.rp, E21.rq])
  refine Wp.bind (NumRing_add2 H n E21 hR ha (ww _)) fun v21 g21 ⟨E22, f21⟩ => ?_
  subst f21
  have q22 : (wrapM k (a + (wrapM k (-wrapM k a)))) = 0 := by rw [wneg h2, war h2, Int.add_right_neg, wz]
  (try simp -dsimp (disch := omega) only [↓pre, sp, sp2, wp_some, Int.cast_ofNat_Int, Nat.reduceAdd, Nat.reduceMul, Nat.reduceSub, Nat.reduceLeDiff, Nat.reduceEqDiff, Nat.reducePow, Int.reduceToNat, Int.reducePow, Int.reduceAdd, Int.reduceSub, Int.reduceMul, Int.reduceLT, Int.reduceLE, Int.reduceEq, Int.reduceNeg, q22, decide_true, E22.rp, E22.rq])
  (try simp -dsimp (disch := omega) only [↓pre, sp, sp2, wp_some, Int.cast_ofNat_Int, Nat.reduceAdd, Nat.reduceMul, Nat.reduceSub, Nat.reduceLeDiff, Nat.reduceEqDiff, Nat.reducePow, Int.reduceToNat, Int.reducePow, Int.reduceAdd, Int.reduceSub, Int.reduceMul, Int.reduceLT, Int.reduceLE, Int.reduceEq, Int.reduceNeg, Bool.or_true])
theorem NumLogic_and (H : Plain ov) (n : Nat) {p q t : Nat} {k : Int} (E : RE h p q k N_runglaw1_NumLogic_1 t) (hk : K4 k) {x y : Int} (hx : I64 x) (hy : I64 y) :
    Wp (rCallV (kc ov (n + 4)) (doF p N_runglaw1_NumLogic_1) [.int .i64 16, .int .i64 x, .int .i64 y] h) fun r h' => DoQ h p q k N_runglaw1_NumLogic_1 t r h' (((bvk k x &&& bvk k y).toNat : Nat)) := by
  show Wp (kc ov (n + 4) N_runglaw1_NumLogic_1 [.int .i64 16, .int .i64 x, .int .i64 y, .ptr (some (p, 0))] h) _
  rw [C_runglaw1_NumLogic_1 H]; unfold F_runglaw1_NumLogic_1
  (try simp -dsimp (disch := omega) only [↓pre, sp, sp2, wp_some, Int.cast_ofNat_Int, Nat.reduceAdd, Nat.reduceMul, Nat.reduceSub, Nat.reduceLeDiff, Nat.reduceEqDiff, Nat.reducePow, Int.reduceToNat, Int.reducePow, Int.reduceAdd, Int.reduceSub, Int.reduceMul, Int.reduceLT, Int.reduceLE, Int.reduceEq, Int.reduceNeg, E.rp])
  refine Wp.bind (apply_and H n E.w hk.r hx hy) fun v h1 ⟨k1, e1⟩ => ?_
  subst e1
  (try simp -dsimp (disch := omega) only [↓pre, sp, sp2, wp_some, Int.cast_ofNat_Int, Nat.reduceAdd, Nat.reduceMul, Nat.reduceSub, Nat.reduceLeDiff, Nat.reduceEqDiff, Nat.reducePow, Int.reduceToNat, Int.reducePow, Int.reduceAdd, Int.reduceSub, Int.reduceMul, Int.reduceLT, Int.reduceLE, Int.reduceEq, Int.reduceNeg])
  rw [bvk_and hk]
  exact ⟨E.kp k1, rfl⟩
theorem NumLogic_or (H : Plain ov) (n : Nat) {p q t : Nat} {k : Int} (E : RE h p q k N_runglaw1_NumLogic_1 t) (hk : K4 k) {x y : Int} (hx : I64 x) (hy : I64 y) :
    Wp (rCallV (kc ov (n + 4)) (doF p N_runglaw1_NumLogic_1) [.int .i64 18, .int .i64 x, .int .i64 y] h) fun r h' => DoQ h p q k N_runglaw1_NumLogic_1 t r h' (((bvk k x ||| bvk k y).toNat : Nat)) := by
  show Wp (kc ov (n + 4) N_runglaw1_NumLogic_1 [.int .i64 18, .int .i64 x, .int .i64 y, .ptr (some (p, 0))] h) _
  rw [C_runglaw1_NumLogic_1 H]; unfold F_runglaw1_NumLogic_1
  (try simp -dsimp (disch := omega) only [↓pre, sp, sp2, wp_some, Int.cast_ofNat_Int, Nat.reduceAdd, Nat.reduceMul, Nat.reduceSub, Nat.reduceLeDiff, Nat.reduceEqDiff, Nat.reducePow, Int.reduceToNat, Int.reducePow, Int.reduceAdd, Int.reduceSub, Int.reduceMul, Int.reduceLT, Int.reduceLE, Int.reduceEq, Int.reduceNeg, E.rp])
  refine Wp.bind (apply_or H n E.w hk.r hx hy) fun v h1 ⟨k1, e1⟩ => ?_
  subst e1
  (try simp -dsimp (disch := omega) only [↓pre, sp, sp2, wp_some, Int.cast_ofNat_Int, Nat.reduceAdd, Nat.reduceMul, Nat.reduceSub, Nat.reduceLeDiff, Nat.reduceEqDiff, Nat.reducePow, Int.reduceToNat, Int.reducePow, Int.reduceAdd, Int.reduceSub, Int.reduceMul, Int.reduceLT, Int.reduceLE, Int.reduceEq, Int.reduceNeg])
  rw [bvk_or hk]
  exact ⟨E.kp k1, rfl⟩
theorem NumLogic_xor (H : Plain ov) (n : Nat) {p q t : Nat} {k : Int} (E : RE h p q k N_runglaw1_NumLogic_1 t) (hk : K4 k) {x y : Int} (hx : I64 x) (hy : I64 y) :
    Wp (rCallV (kc ov (n + 4)) (doF p N_runglaw1_NumLogic_1) [.int .i64 17, .int .i64 x, .int .i64 y] h) fun r h' => DoQ h p q k N_runglaw1_NumLogic_1 t r h' (((bvk k x ^^^ bvk k y).toNat : Nat)) := by
  show Wp (kc ov (n + 4) N_runglaw1_NumLogic_1 [.int .i64 17, .int .i64 x, .int .i64 y, .ptr (some (p, 0))] h) _
  rw [C_runglaw1_NumLogic_1 H]; unfold F_runglaw1_NumLogic_1
  (try simp -dsimp (disch := omega) only [↓pre, sp, sp2, wp_some, Int.cast_ofNat_Int, Nat.reduceAdd, Nat.reduceMul, Nat.reduceSub, Nat.reduceLeDiff, Nat.reduceEqDiff, Nat.reducePow, Int.reduceToNat, Int.reducePow, Int.reduceAdd, Int.reduceSub, Int.reduceMul, Int.reduceLT, Int.reduceLE, Int.reduceEq, Int.reduceNeg, E.rp])
  refine Wp.bind (apply_xor H n E.w hk.r hx hy) fun v h1 ⟨k1, e1⟩ => ?_
  subst e1
  (try simp -dsimp (disch := omega) only [↓pre, sp, sp2, wp_some, Int.cast_ofNat_Int, Nat.reduceAdd, Nat.reduceMul, Nat.reduceSub, Nat.reduceLeDiff, Nat.reduceEqDiff, Nat.reducePow, Int.reduceToNat, Int.reducePow, Int.reduceAdd, Int.reduceSub, Int.reduceMul, Int.reduceLT, Int.reduceLE, Int.reduceEq, Int.reduceNeg])
  rw [bvk_xor hk]
  exact ⟨E.kp k1, rfl⟩
theorem NumLogic_and2 (H : Plain ov) (n : Nat) {p q t : Nat} {k : Int} (E : RE h p q k N_runglaw1_NumLogic_1 t) (hk : K4 k) {x y : Int} (hx : I64 x) (hy : I64 y) :
    Wp (rCallV (kc ov (n + 5)) (doF q N_runglaw1_NumLogic_2) [.int .i64 x, .int .i64 y] h) fun r h' => DoQ h p q k N_runglaw1_NumLogic_1 t r h' (((bvk k x &&& bvk k y).toNat : Nat)) := by
  show Wp (kc ov (n + 5) N_runglaw1_NumLogic_2 [.int .i64 x, .int .i64 y, .ptr (some (q, 0))] h) _
  rw [C_runglaw1_NumLogic_2 H]; unfold F_runglaw1_NumLogic_2
  (try simp -dsimp (disch := omega) only [↓pre, sp, sp2, wp_some, Int.cast_ofNat_Int, Nat.reduceAdd, Nat.reduceMul, Nat.reduceSub, Nat.reduceLeDiff, Nat.reduceEqDiff, Nat.reducePow, Int.reduceToNat, Int.reducePow, Int.reduceAdd, Int.reduceSub, Int.reduceMul, Int.reduceLT, Int.reduceLE, Int.reduceEq, Int.reduceNeg, E.rq])
  refine Wp.bind (NumLogic_and H n E hk hx hy) fun v h1 ⟨E1, e1⟩ => ?_
  subst e1
  (try simp -dsimp (disch := omega) only [↓pre, sp, sp2, wp_some, Int.cast_ofNat_Int, Nat.reduceAdd, Nat.reduceMul, Nat.reduceSub, Nat.reduceLeDiff, Nat.reduceEqDiff, Nat.reducePow, Int.reduceToNat, Int.reducePow, Int.reduceAdd, Int.reduceSub, Int.reduceMul, Int.reduceLT, Int.reduceLE, Int.reduceEq, Int.reduceNeg])
  exact ⟨E1, rfl⟩
theorem NumLogic_or2 (H : Plain ov) (n : Nat) {p q t : Nat} {k : Int} (E : RE h p q k N_runglaw1_NumLogic_1 t) (hk : K4 k) {x y : Int} (hx : I64 x) (hy : I64 y) :
    Wp (rCallV (kc ov (n + 5)) (doF q N_runglaw1_NumLogic_3) [.int .i64 x, .int .i64 y] h) fun r h' => DoQ h p q k N_runglaw1_NumLogic_1 t r h' (((bvk k x ||| bvk k y).toNat : Nat)) := by
  show Wp (kc ov (n + 5) N_runglaw1_NumLogic_3 [.int .i64 x, .int .i64 y, .ptr (some (q, 0))] h) _
  rw [C_runglaw1_NumLogic_3 H]; unfold F_runglaw1_NumLogic_3
  (try simp -dsimp (disch := omega) only [↓pre, sp, sp2, wp_some, Int.cast_ofNat_Int, Nat.reduceAdd, Nat.reduceMul, Nat.reduceSub, Nat.reduceLeDiff, Nat.reduceEqDiff, Nat.reducePow, Int.reduceToNat, Int.reducePow, Int.reduceAdd, Int.reduceSub, Int.reduceMul, Int.reduceLT, Int.reduceLE, Int.reduceEq, Int.reduceNeg, E.rq])
  refine Wp.bind (NumLogic_or H n E hk hx hy) fun v h1 ⟨E1, e1⟩ => ?_
  subst e1
  (try simp -dsimp (disch := omega) only [↓pre, sp, sp2, wp_some, Int.cast_ofNat_Int, Nat.reduceAdd, Nat.reduceMul, Nat.reduceSub, Nat.reduceLeDiff, Nat.reduceEqDiff, Nat.reducePow, Int.reduceToNat, Int.reducePow, Int.reduceAdd, Int.reduceSub, Int.reduceMul, Int.reduceLT, Int.reduceLE, Int.reduceEq, Int.reduceNeg])
  exact ⟨E1, rfl⟩
theorem NumLogic_not (H : Plain ov) (n : Nat) {p q t : Nat} {k : Int} (E : RE h p q k N_runglaw1_NumLogic_1 t) (hk : K4 k) {x : Int} (hx : I64 x) :
    Wp (rCallV (kc ov (n + 4)) (doF p N_runglaw1_NumLogic_4) [.int .i64 x] h) fun r h' => DoQ h p q k N_runglaw1_NumLogic_1 t r h' ((~~~ bvk k x).toNat : Nat) := by
  show Wp (kc ov (n + 4) N_runglaw1_NumLogic_4 [.int .i64 x, .ptr (some (p, 0))] h) _
  rw [C_runglaw1_NumLogic_4 H]; unfold F_runglaw1_NumLogic_4
  (try simp -dsimp (disch := omega) only [↓pre, sp, sp2, wp_some, Int.cast_ofNat_Int, Nat.reduceAdd, Nat.reduceMul, Nat.reduceSub, Nat.reduceLeDiff, Nat.reduceEqDiff, Nat.reducePow, Int.reduceToNat, Int.reducePow, Int.reduceAdd, Int.reduceSub, Int.reduceMul, Int.reduceLT, Int.reduceLE, Int.reduceEq, Int.reduceNeg, E.rp])
  refine Wp.bind (not_spec H n E.w hx) fun v h1 ⟨k1, e1⟩ => ?_
  subst e1
  (try simp -dsimp (disch := omega) only [↓pre, sp, sp2, wp_some, Int.cast_ofNat_Int, Nat.reduceAdd, Nat.reduceMul, Nat.reduceSub, Nat.reduceLeDiff, Nat.reduceEqDiff, Nat.reducePow, Int.reduceToNat, Int.reducePow, Int.reduceAdd, Int.reduceSub, Int.reduceMul, Int.reduceLT, Int.reduceLE, Int.reduceEq, Int.reduceNeg])
  rw [bvk_not hk]
  exact ⟨E.kp k1, rfl⟩
theorem bvI {k : Int} (hk : K4 k) (v : BitVec (kdM k).w) : I64 (v.toNat : Nat) := by
  have e := bvk_val hk (v.toNat : Nat)
  rw [bvk_of hk] at e
  rw [← e]; exact wrapM_I64 _ _
theorem numLogic (H : Plain ov) (K : ov N_runglaw1_known = some knownYes) (n : Nat) (w : Wf h) {kind a b c : Int} (hk : I64 kind) (ha : I64 a) (hb : I64 b) (hc : I64 c) :
    Wp (kc ov (n + 6) N_runglaw1_NumLogic [.int .i64 kind, .int .i64 a, .int .i64 b, .int .i64 c] h) fun r h' => r = .bool true := by
  rw [C_runglaw1_NumLogic H]; unfold F_runglaw1_NumLogic
  (try simp -dsimp (disch := omega) only [↓pre, sp, sp2, wp_some, Int.cast_ofNat_Int, Nat.reduceAdd, Nat.reduceMul, Nat.reduceSub, Nat.reduceLeDiff, Nat.reduceEqDiff, Nat.reducePow, Int.reduceToNat, Int.reducePow, Int.reduceAdd, Int.reduceSub, Int.reduceMul, Int.reduceLT, Int.reduceLE, Int.reduceEq, Int.reduceNeg, known_spec K])
  refine wp_buildSl (cs := [.int .i64 1, .int .i64 8, .int .i64 9, .int .i64 10]) w ⟨by decide, rfl, by decide⟩ rfl rfl fun r h0 hr k0 n0 g0 => ?_
  obtain ⟨i, hi, e1, _⟩ := place_spec (h := h0) H (n + 4) hk (m := 4) (by omega) (by omega)
  have e1' : kc ov (n + 5) N_runghelp_Place [.int .i64 kind, .int .i64 4] h0 = some (.int .i64 i, h0) := e1
  have s0 := (Ow.new (sz := 1) (e := T_int) g0 (by omega) 4 rfl rfl).rd
  obtain ⟨k, hR, ek⟩ : ∃ k : Int, K4 k ∧ ([.int .i64 1, .int .i64 8, .int .i64 9, .int .i64 10] : List AVal)[i]? = some (.int .i64 k) := by
    rcases (by omega : i = 0 ∨ i = 1 ∨ i = 2 ∨ i = 3) with rfl | rfl | rfl | rfl
    · exact ⟨1, .inl rfl, rfl⟩
    · exact ⟨8, .inr (.inl rfl), rfl⟩
    · exact ⟨9, .inr (.inr (.inl rfl)), rfl⟩
    · exact ⟨10, .inr (.inr (.inr rfl)), rfl⟩
  have at0 := s0.at (k := .i64) (i := i) (by omega) (by omega)
  have ld0 := s0.ld (j := i) (by simpa using hi)
  rw [ek] at ld0
  rw [Int.toNat_natCast, Nat.mul_one] at at0
  (try simp -dsimp (disch := omega) only [↓pre, sp, sp2, wp_some, Int.cast_ofNat_Int, Nat.reduceAdd, Nat.reduceMul, Nat.reduceSub, Nat.reduceLeDiff, Nat.reduceEqDiff, Nat.reducePow, Int.reduceToNat, Int.reducePow, Int.reduceAdd, Int.reduceSub, Int.reduceMul, Int.reduceLT, Int.reduceLE, Int.reduceEq, Int.reduceNeg, e1', at0, ld0])
  refine wp_box k0.w' rfl rfl fun p h1 hp k1 n1 g1 => ?_
  refine wp_store k1.w' g1 rfl rfl (by decide) rfl fun h2' k2 n2 g2 => ?_
  (try simp -dsimp (disch := omega) only [↓pre, sp, sp2, wp_some, Int.cast_ofNat_Int, Nat.reduceAdd, Nat.reduceMul, Nat.reduceSub, Nat.reduceLeDiff, Nat.reduceEqDiff, Nat.reducePow, Int.reduceToNat, Int.reducePow, Int.reduceAdd, Int.reduceSub, Int.reduceMul, Int.reduceLT, Int.reduceLE, Int.reduceEq, Int.reduceNeg])
  refine wp_box k2.w' (cs := [.nilFunc]) rfl rfl fun q h3 hq k3 n3 g3 => ?_
  refine wp_store k3.w' g3 rfl rfl (by decide) rfl fun h4 k4 n4 g4 => ?_
  have E0 : RE h4 p q k N_runglaw1_NumLogic_1 T_func_int__int64__int64__int64 := ⟨k4.w', k4.gt (k3.gt g2) (by omega), g4⟩
  (try simp -dsimp (disch := omega) only [↓pre, sp, sp2, wp_some, Int.cast_ofNat_Int, Nat.reduceAdd, Nat.reduceMul, Nat.reduceSub, Nat.reduceLeDiff, Nat.reduceEqDiff, Nat.reducePow, Int.reduceToNat, Int.reducePow, Int.reduceAdd, Int.reduceSub, Int.reduceMul, Int.reduceLT, Int.reduceLE, Int.reduceEq, Int.reduceNeg, E0.rp])
  refine Wp.bind (NumLogic_not H (n + 1) E0 hR ha) fun v0 g0 ⟨E1, f0⟩ => ?_

  subst f0
  (try simp -dsimp (disch := omega) only [↓pre, sp, sp2, wp_some, Int.cast_ofNat_Int, Nat.reduceAdd, Nat.reduceMul, Nat.reduceSub, Nat.reduceLeDiff, Nat.reduceEqDiff, Nat.reducePow, Int.reduceToNat, Int.reducePow, Int.reduceAdd, Int.reduceSub, Int.reduceMul, Int.reduceLT, Int.reduceLE, Int.reduceEq, Int.reduceNeg, E1.rp, E1.rq, Bool.or_true])
  refine Wp.bind (NumLogic_not H (n + 1) E1 hR (bvI hR _)) fun v1 g1 ⟨E2, f1⟩ => ?_

  simp only [bvk_of hR] at f1
  subst f1
  (try simp -dsimp (disch := omega) only [↓pre, sp, sp2, wp_some, Int.cast_ofNat_Int, Nat.reduceAdd, Nat.reduceMul, Nat.reduceSub, Nat.reduceLeDiff, Nat.reduceEqDiff, Nat.reducePow, Int.reduceToNat, Int.reducePow, Int.reduceAdd, Int.reduceSub, Int.reduceMul, Int.reduceLT, Int.reduceLE, Int.reduceEq, Int.reduceNeg, E2.rp, E2.rq, Bool.or_true])
  refine Wp.bind (wrap_spec H (n + 3) E2.w k a ha) fun v2 g2 ⟨k2', f2⟩ => ?_
  rw [bvk_val hR] at f2
  subst f2
  have E3 := E2.kp k2'
  have q3 : (~~~ (~~~ bvk k a)) = bvk k a := by simp
  rw [q3]
  (try simp -dsimp (disch := omega) only [↓pre, sp, sp2, wp_some, Int.cast_ofNat_Int, Nat.reduceAdd, Nat.reduceMul, Nat.reduceSub, Nat.reduceLeDiff, Nat.reduceEqDiff, Nat.reducePow, Int.reduceToNat, Int.reducePow, Int.reduceAdd, Int.reduceSub, Int.reduceMul, Int.reduceLT, Int.reduceLE, Int.reduceEq, Int.reduceNeg, decide_true, E3.rp, E3.rq, Bool.or_true])
  refine Wp.bind (NumLogic_and2 H n E3 hR ha hb) fun v3 g3 ⟨E4, f3⟩ => ?_

  subst f3
  (try simp -dsimp (disch := omega) only [↓pre, sp, sp2, wp_some, Int.cast_ofNat_Int, Nat.reduceAdd, Nat.reduceMul, Nat.reduceSub, Nat.reduceLeDiff, Nat.reduceEqDiff, Nat.reducePow, Int.reduceToNat, Int.reducePow, Int.reduceAdd, Int.reduceSub, Int.reduceMul, Int.reduceLT, Int.reduceLE, Int.reduceEq, Int.reduceNeg, E4.rp, E4.rq, Bool.or_true])
  refine Wp.bind (NumLogic_not H (n + 1) E4 hR (bvI hR _)) fun v4 g4 ⟨E5, f4⟩ => ?_

  simp only [bvk_of hR] at f4
  subst f4
  (try simp -dsimp (disch := omega) only [↓pre, sp, sp2, wp_some, Int.cast_ofNat_Int, Nat.reduceAdd, Nat.reduceMul, Nat.reduceSub, Nat.reduceLeDiff, Nat.reduceEqDiff, Nat.reducePow, Int.reduceToNat, Int.reducePow, Int.reduceAdd, Int.reduceSub, Int.reduceMul, Int.reduceLT, Int.reduceLE, Int.reduceEq, Int.reduceNeg, E5.rp, E5.rq, Bool.or_true])
  refine Wp.bind (NumLogic_not H (n + 1) E5 hR ha) fun v5 g5 ⟨E6, f5⟩ => ?_

  subst f5
  (try simp -dsimp (disch := omega) only [↓pre, sp, sp2, wp_some, Int.cast_ofNat_Int, Nat.reduceAdd, Nat.reduceMul, Nat.reduceSub, Nat.reduceLeDiff, Nat.reduceEqDiff, Nat.reducePow, Int.reduceToNat, Int.reducePow, Int.reduceAdd, Int.reduceSub, Int.reduceMul, Int.reduceLT, Int.reduceLE, Int.reduceEq, Int.reduceNeg, E6.rp, E6.rq, Bool.or_true])
  refine Wp.bind (NumLogic_not H (n + 1) E6 hR hb) fun v6 g6 ⟨E7, f6⟩ => ?_

  subst f6
  (try simp -dsimp (disch := omega) only [↓pre, sp, sp2, wp_some, Int.cast_ofNat_Int, Nat.reduceAdd, Nat.reduceMul, Nat.reduceSub, Nat.reduceLeDiff, Nat.reduceEqDiff, Nat.reducePow, Int.reduceToNat, Int.reducePow, Int.reduceAdd, Int.reduceSub, Int.reduceMul, Int.reduceLT, Int.reduceLE, Int.reduceEq, Int.reduceNeg, E7.rp, E7.rq, Bool.or_true])
  refine Wp.bind (NumLogic_or2 H n E7 hR (bvI hR _) (bvI hR _)) fun v7 g7 ⟨E8, f7⟩ => ?_

  simp only [bvk_of hR] at f7
  subst f7
  have q8 : (~~~ (bvk k a &&& bvk k b)) = ((~~~ bvk k a) ||| (~~~ bvk k b)) := by ext i hi; simp only [BitVec.getElem_and, BitVec.getElem_or, BitVec.getElem_xor, BitVec.getElem_not]; cases (bvk k a)[i] <;> cases (bvk k b)[i] <;> cases (bvk k c)[i] <;> rfl
  rw [q8]
  (try simp -dsimp (disch := omega) only [↓pre, sp, sp2, wp_some, Int.cast_ofNat_Int, Nat.reduceAdd, Nat.reduceMul, Nat.reduceSub, Nat.reduceLeDiff, Nat.reduceEqDiff, Nat.reducePow, Int.reduceToNat, Int.reducePow, Int.reduceAdd, Int.reduceSub, Int.reduceMul, Int.reduceLT, Int.reduceLE, Int.reduceEq, Int.reduceNeg, decide_true, E8.rp, E8.rq, Bool.or_true])
  refine Wp.bind (NumLogic_or2 H n E8 hR hb hc) fun v8 g8 ⟨E9, f8⟩ => ?_

  subst f8
  (try simp -dsimp (disch := omega) only [↓pre, sp, sp2, wp_some, Int.cast_ofNat_Int, Nat.reduceAdd, Nat.reduceMul, Nat.reduceSub, Nat.reduceLeDiff, Nat.reduceEqDiff, Nat.reducePow, Int.reduceToNat, Int.reducePow, Int.reduceAdd, Int.reduceSub, Int.reduceMul, Int.reduceLT, Int.reduceLE, Int.reduceEq, Int.reduceNeg, E9.rp, E9.rq, Bool.or_true])
  refine Wp.bind (NumLogic_and2 H n E9 hR ha (bvI hR _)) fun v9 g9 ⟨E10, f9⟩ => ?_

  simp only [bvk_of hR] at f9
  subst f9
  (try simp -dsimp (disch := omega) only [↓pre, sp, sp2, wp_some, Int.cast_ofNat_Int, Nat.reduceAdd, Nat.reduceMul, Nat.reduceSub, Nat.reduceLeDiff, Nat.reduceEqDiff, Nat.reducePow, Int.reduceToNat, Int.reducePow, Int.reduceAdd, Int.reduceSub, Int.reduceMul, Int.reduceLT, Int.reduceLE, Int.reduceEq, Int.reduceNeg, E10.rp, E10.rq, Bool.or_true])
  refine Wp.bind (NumLogic_and2 H n E10 hR ha hb) fun v10 g10 ⟨E11, f10⟩ => ?_

  subst f10
  (try simp -dsimp (disch := omega) only [↓pre, sp, sp2, wp_some, Int.cast_ofNat_Int, Nat.reduceAdd, Nat.reduceMul, Nat.reduceSub, Nat.reduceLeDiff, Nat.reduceEqDiff, Nat.reducePow, Int.reduceToNat, Int.reducePow, Int.reduceAdd, Int.reduceSub, Int.reduceMul, Int.reduceLT, Int.reduceLE, Int.reduceEq, Int.reduceNeg, E11.rp, E11.rq, Bool.or_true])
  refine Wp.bind (NumLogic_and2 H n E11 hR ha hc) fun v11 g11 ⟨E12, f11⟩ => ?_

  subst f11
  (try simp -dsimp (disch := omega) only [↓pre, sp, sp2, wp_some, Int.cast_ofNat_Int, Nat.reduceAdd, Nat.reduceMul, Nat.reduceSub, Nat.reduceLeDiff, Nat.reduceEqDiff, Nat.reducePow, Int.reduceToNat, Int.reducePow, Int.reduceAdd, Int.reduceSub, Int.reduceMul, Int.reduceLT, Int.reduceLE, Int.reduceEq, Int.reduceNeg, E12.rp, E12.rq, Bool.or_true])
  refine Wp.bind (NumLogic_or2 H n E12 hR (bvI hR _) (bvI hR _)) fun v12 g12 ⟨E13, f12⟩ => ?_

  simp only [bvk_of hR] at f12
  subst f12
  have q13 : (bvk k a &&& (bvk k b ||| bvk k c)) = ((bvk k a &&& bvk k b) ||| (bvk k a &&& bvk k c)) := by ext i hi; simp only [BitVec.getElem_and, BitVec.getElem_or, BitVec.getElem_xor, BitVec.getElem_not]; cases (bvk k a)[i] <;> cases (bvk k b)[i] <;> cases (bvk k c)[i] <;> rfl
  rw [q13]
  (try simp -dsimp (disch := omega) only [↓pre, sp, sp2, wp_some, Int.cast_ofNat_Int, Nat.reduceAdd, Nat.reduceMul, Nat.reduceSub, Nat.reduceLeDiff, Nat.reduceEqDiff, Nat.reducePow, Int.reduceToNat, Int.reducePow, Int.reduceAdd, Int.reduceSub, Int.reduceMul, Int.reduceLT, Int.reduceLE, Int.reduceEq, Int.reduceNeg, decide_true, E13.rp, E13.rq, Bool.or_true])
  refine Wp.bind (NumLogic_xor H (n + 1) E13 hR ha hb) fun v13 g13 ⟨E14, f13⟩ => ?_

  subst f13
  (try simp -dsimp (disch := omega) only [↓pre, sp, sp2, wp_some, Int.cast_ofNat_Int, Nat.reduceAdd, Nat.reduceMul, Nat.reduceSub, Nat.reduceLeDiff, Nat.reduceEqDiff, Nat.reducePow, Int.reduceToNat, Int.reducePow, Int.reduceAdd, Int.reduceSub, Int.reduceMul, Int.reduceLT, Int.reduceLE, Int.reduceEq, Int.reduceNeg, E14.rp, E14.rq, Bool.or_true])
  refine Wp.bind (NumLogic_or2 H n E14 hR ha hb) fun v14 g14 ⟨E15, f14⟩ => ?_

  subst f14
  (try simp -dsimp (disch := omega) only [↓pre, sp, sp2, wp_some, Int.cast_ofNat_Int, Nat.reduceAdd, Nat.reduceMul, Nat.reduceSub, Nat.reduceLeDiff, Nat.reduceEqDiff, Nat.reducePow, Int.reduceToNat, Int.reducePow, Int.reduceAdd, Int.reduceSub, Int.reduceMul, Int.reduceLT, Int.reduceLE, Int.reduceEq, Int.reduceNeg, E15.rp, E15.rq, Bool.or_true])
  refine Wp.bind (NumLogic_and2 H n E15 hR ha hb) fun v15 g15 ⟨E16, f15⟩ => ?_

  subst f15
  (try simp -dsimp (disch := omega) only [↓pre, sp, sp2, wp_some, Int.cast_ofNat_Int, Nat.reduceAdd, Nat.reduceMul, Nat.reduceSub, Nat.reduceLeDiff, Nat.reduceEqDiff, Nat.reducePow, Int.reduceToNat, Int.reducePow, Int.reduceAdd, Int.reduceSub, Int.reduceMul, Int.reduceLT, Int.reduceLE, Int.reduceEq, Int.reduceNeg, E16.rp, E16.rq, Bool.or_true])
  refine Wp.bind (NumLogic_not H (n + 1) E16 hR (bvI hR _)) fun v16 g16 ⟨E17, f16⟩ => ?_

  simp only [bvk_of hR] at f16
  subst f16
  (try simp -dsimp (disch := omega) only [↓pre, sp, sp2, wp_some, Int.cast_ofNat_Int, Nat.reduceAdd, Nat.reduceMul, Nat.reduceSub, Nat.reduceLeDiff, Nat.reduceEqDiff, Nat.reducePow, Int.reduceToNat, Int.reducePow, Int.reduceAdd, Int.reduceSub, Int.reduceMul, Int.reduceLT, Int.reduceLE, Int.reduceEq, Int.reduceNeg, E17.rp, E17.rq, Bool.or_true])
  refine Wp.bind (NumLogic_and2 H n E17 hR (bvI hR _) (bvI hR _)) fun v17 g17 ⟨E18, f17⟩ => ?_

  simp only [bvk_of hR] at f17
  subst f17
  have q18 : (bvk k a ^^^ bvk k b) = ((bvk k a ||| bvk k b) &&& (~~~ (bvk k a &&& bvk k b))) := by ext i hi; simp only [BitVec.getElem_and, BitVec.getElem_or, BitVec.getElem_xor, BitVec.getElem_not]; cases (bvk k a)[i] <;> cases (bvk k b)[i] <;> cases (bvk k c)[i] <;> rfl
  rw [q18]
  (try simp -dsimp (disch := omega) only [↓pre, sp, sp2, wp_some, Int.cast_ofNat_Int, Nat.reduceAdd, Nat.reduceMul, Nat.reduceSub, Nat.reduceLeDiff, Nat.reduceEqDiff, Nat.reducePow, Int.reduceToNat, Int.reducePow, Int.reduceAdd, Int.reduceSub, Int.reduceMul, Int.reduceLT, Int.reduceLE, Int.reduceEq, Int.reduceNeg, decide_true, E18.rp, E18.rq, Bool.or_true])
  refine Wp.bind (NumLogic_xor H (n + 1) E18 hR ha hb) fun v18 g18 ⟨E19, f18⟩ => ?_

  subst f18
  (try simp -dsimp (disch := omega) only [↓pre, sp, sp2, wp_some, Int.cast_ofNat_Int, Nat.reduceAdd, Nat.reduceMul, Nat.reduceSub, Nat.reduceLeDiff, Nat.reduceEqDiff, Nat.reducePow, Int.reduceToNat, Int.reducePow, Int.reduceAdd, Int.reduceSub, Int.reduceMul, Int.reduceLT, Int.reduceLE, Int.reduceEq, Int.reduceNeg, E19.rp, E19.rq, Bool.or_true])
  refine Wp.bind (NumLogic_xor H (n + 1) E19 hR (bvI hR _) hb) fun v19 g19 ⟨E20, f19⟩ => ?_

  simp only [bvk_of hR] at f19
  subst f19
  (try simp -dsimp (disch := omega) only [↓pre, sp, sp2, wp_some, Int.cast_ofNat_Int, Nat.reduceAdd, Nat.reduceMul, Nat.reduceSub, Nat.reduceLeDiff, Nat.reduceEqDiff, Nat.reducePow, Int.reduceToNat, Int.reducePow, Int.reduceAdd, Int.reduceSub, Int.reduceMul, Int.reduceLT, Int.reduceLE, Int.reduceEq, Int.reduceNeg, E20.rp, E20.rq, Bool.or_true])
  refine Wp.bind (wrap_spec H (n + 3) E20.w k a ha) fun v20 g20 ⟨k20', f20⟩ => ?_
  rw [bvk_val hR] at f20
  subst f20
  have E21 := E20.kp k20'
  have q21 : ((bvk k a ^^^ bvk k b) ^^^ bvk k b) = bvk k a := by ext i hi; simp only [BitVec.getElem_and, BitVec.getElem_or, BitVec.getElem_xor, BitVec.getElem_not]; cases (bvk k a)[i] <;> cases (bvk k b)[i] <;> cases (bvk k c)[i] <;> rfl
  rw [q21]
  (try simp -dsimp (disch := omega) only [↓pre, sp, sp2, wp_some, Int.cast_ofNat_Int, Nat.reduceAdd, Nat.reduceMul, Nat.reduceSub, Nat.reduceLeDiff, Nat.reduceEqDiff, Nat.reducePow, Int.reduceToNat, Int.reducePow, Int.reduceAdd, Int.reduceSub, Int.reduceMul, Int.reduceLT, Int.reduceLE, Int.reduceEq, Int.reduceNeg, decide_true, E21.rp, E21.rq, Bool.or_true])
  refine Wp.bind (NumLogic_not H (n + 1) E21 hR ha) fun v21 g21 ⟨E22, f21⟩ => ?_

  subst f21
  (try simp -dsimp (disch := omega) only [↓pre, sp, sp2, wp_some, Int.cast_ofNat_Int, Nat.reduceAdd, Nat.reduceMul, Nat.reduceSub, Nat.reduceLeDiff, Nat.reduceEqDiff, Nat.reducePow, Int.reduceToNat, Int.reducePow, Int.reduceAdd, Int.reduceSub, Int.reduceMul, Int.reduceLT, Int.reduceLE, Int.reduceEq, Int.reduceNeg, E22.rp, E22.rq, Bool.or_true])
  refine Wp.bind (NumLogic_and2 H n E22 hR ha (bvI hR _)) fun v22 g22 ⟨E23, f22⟩ => ?_

  simp only [bvk_of hR] at f22
  subst f22
  have q23 : (((bvk k a &&& (~~~ bvk k a))).toNat : Int) = 0 := by rw [show (bvk k a &&& (~~~ bvk k a)) = 0#_ by ext i hi; simp]; simp
  rw [q23]
  (try simp -dsimp (disch := omega) only [↓pre, sp, sp2, wp_some, Int.cast_ofNat_Int, Nat.reduceAdd, Nat.reduceMul, Nat.reduceSub, Nat.reduceLeDiff, Nat.reduceEqDiff, Nat.reducePow, Int.reduceToNat, Int.reducePow, Int.reduceAdd, Int.reduceSub, Int.reduceMul, Int.reduceLT, Int.reduceLE, Int.reduceEq, Int.reduceNeg, decide_true, E23.rp, E23.rq, Bool.or_true])
end Go.Proofs.Ytijdkjngbogegaa.AI
