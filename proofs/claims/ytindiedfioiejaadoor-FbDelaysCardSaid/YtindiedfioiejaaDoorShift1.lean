/-AUTOIF-/
/- num.Convert, Shift, and the document's. -/
import Derived.Test.YtindiedfioiejaaDoorRef1
import Derived.Test.YtindiedfioiejaaDoorAiNumQ
namespace Go.Proofs.YtindiedfioiejaaDoor.AI
open Go
set_option linter.unusedSimpArgs false
set_option linter.unusedVariables false
variable {ov : AOver} {h : AH}
theorem toNat_andW (x : Int) (w : Nat) (hw : w ≤ 32) : ((BitVec.ofInt 64 x &&& BitVec.ofNat 64 (2 ^ w - 1)).toNat : Int) = x % 18446744073709551616 % 2 ^ w := by
  have hp : 2 ^ w ≤ 2 ^ 32 := Nat.pow_le_pow_right (by decide) hw
  have h0 : 0 < 2 ^ w := Nat.two_pow_pos w
  have hm : (2 ^ w - 1) % 2 ^ 64 = 2 ^ w - 1 := Nat.mod_eq_of_lt (by omega)
  rw [BitVec.toNat_and, BitVec.toNat_ofNat, hm, BitVec.toNat_ofInt, Nat.and_two_pow_sub_one_eq_mod]
  simp only [Nat.reducePow, Int.cast_ofNat_Int]
  rw [Int.natCast_emod, Int.toNat_of_nonneg (Int.emod_nonneg _ (by decide)), Int.natCast_pow]
  rfl
theorem and8 (x : Int) : iAnd .i64 x 255 = x % 256 := by
  have e : BitVec.ofInt 64 255 = BitVec.ofNat 64 (2 ^ 8 - 1) := by decide
  have e2 : iAnd .i64 x 255 = IntKind.wrap .i64 ((BitVec.ofInt 64 x &&& BitVec.ofInt 64 255 : BitVec 64).toNat : Int) := rfl
  rw [e2, e]
  clear e e2
  rw [toNat_andW x 8 (by omega), IntKind.wrap_i64]; simp only [Int.reducePow]; omega
theorem and16 (x : Int) : iAnd .i64 x 65535 = x % 65536 := by
  have e : BitVec.ofInt 64 65535 = BitVec.ofNat 64 (2 ^ 16 - 1) := by decide
  have e2 : iAnd .i64 x 65535 = IntKind.wrap .i64 ((BitVec.ofInt 64 x &&& BitVec.ofInt 64 65535 : BitVec 64).toNat : Int) := rfl
  rw [e2, e]
  clear e e2
  rw [toNat_andW x 16 (by omega), IntKind.wrap_i64]; simp only [Int.reducePow]; omega
theorem and32 (x : Int) : iAnd .i64 x 4294967295 = x % 4294967296 := by
  have e : BitVec.ofInt 64 4294967295 = BitVec.ofNat 64 (2 ^ 32 - 1) := by decide
  have e2 : iAnd .i64 x 4294967295 = IntKind.wrap .i64 ((BitVec.ofInt 64 x &&& BitVec.ofInt 64 4294967295 : BitVec 64).toNat : Int) := rfl
  rw [e2, e]
  clear e e2
  rw [toNat_andW x 32 (by omega), IntKind.wrap_i64]; simp only [Int.reducePow]; omega
theorem rwrap_spec (H : Plain ov) (n : Nat) (w : Wf h) (k x : Int) (hx : I64 x) : Wp (kc ov (n + 4) N_rungref1_Wrap [.int .i64 k, .int .i64 x] h) fun r h' => Kp h h' ∧ r = .int .i64 (wrapM k x) := by
  rw [C_rungref1_Wrap H]; unfold F_rungref1_Wrap
  (try simp -dsimp (disch := omega) only [↓pre, sp, sp2, wp_some, Int.cast_ofNat_Int, Nat.reduceAdd, Nat.reduceMul, Nat.reduceSub, Nat.reduceLeDiff, Nat.reduceEqDiff, Nat.reducePow, Int.reduceToNat, Int.reducePow, Int.reduceAdd, Int.reduceSub, Int.reduceMul, Int.reduceLT, Int.reduceLE, Int.reduceEq, Int.reduceNeg])
  refine Wp.bind (rwidth_spec H (n + 1) w k) fun v h1 ⟨k1, e⟩ => ?_
  subst e
  have rs := rrange_spec H n k1.w' k
  have a8 := and8 x
  have a16 := and16 x
  have a32 := and32 x
  rcases kcases k with rfl | rfl | rfl | rfl | rfl | rfl | rfl | rfl | rfl | rfl | rfl | ⟨e0, ew, hk⟩
  · have ed : kdM 1 = ⟨[66, 79, 79, 76], 1, false, true, true⟩ := rfl
    rw [ed]
    (try simp -dsimp (disch := omega) only [↓pre, sp, sp2, wp_some, Int.cast_ofNat_Int, Nat.reduceAdd, Nat.reduceMul, Nat.reduceSub, Nat.reduceLeDiff, Nat.reduceEqDiff, Nat.reducePow, Int.reduceToNat, Int.reducePow, Int.reduceAdd, Int.reduceSub, Int.reduceMul, Int.reduceLT, Int.reduceLE, Int.reduceEq, Int.reduceNeg, decide_false, decide_true])
    by_cases c : x = 0
    · (try simp -dsimp (disch := omega) only [↓pre, sp, sp2, wp_some, Int.cast_ofNat_Int, Nat.reduceAdd, Nat.reduceMul, Nat.reduceSub, Nat.reduceLeDiff, Nat.reduceEqDiff, Nat.reducePow, Int.reduceToNat, Int.reducePow, Int.reduceAdd, Int.reduceSub, Int.reduceMul, Int.reduceLT, Int.reduceLE, Int.reduceEq, Int.reduceNeg, c, decide_true, decide_false, Bool.not_true, Bool.not_false, not_true, if_false])
      exact ⟨k1, rfl⟩
    · (try simp -dsimp (disch := omega) only [↓pre, sp, sp2, wp_some, Int.cast_ofNat_Int, Nat.reduceAdd, Nat.reduceMul, Nat.reduceSub, Nat.reduceLeDiff, Nat.reduceEqDiff, Nat.reducePow, Int.reduceToNat, Int.reducePow, Int.reduceAdd, Int.reduceSub, Int.reduceMul, Int.reduceLT, Int.reduceLE, Int.reduceEq, Int.reduceNeg, c, decide_true, decide_false, Bool.not_true, Bool.not_false, not_false_iff, if_true])
      refine ⟨k1, ?_⟩
      simp [wrapM, c]
  · have ed : kdM 2 = ⟨[83, 73, 78, 84], 8, true, false, true⟩ := rfl
    rw [ed]
    rw [show loM 2 = -128 from rfl, show hiM 2 = 127 from rfl] at rs
    (try simp -dsimp (disch := omega) only [↓pre, sp, sp2, wp_some, Int.cast_ofNat_Int, Nat.reduceAdd, Nat.reduceMul, Nat.reduceSub, Nat.reduceLeDiff, Nat.reduceEqDiff, Nat.reducePow, Int.reduceToNat, Int.reducePow, Int.reduceAdd, Int.reduceSub, Int.reduceMul, Int.reduceLT, Int.reduceLE, Int.reduceEq, Int.reduceNeg, decide_false, a8])
    refine Wp.bind rs fun v h2 ⟨k2, e⟩ => ?_
    subst e
    (try simp -dsimp (disch := omega) only [↓pre, sp, sp2, wp_some, Int.cast_ofNat_Int, Nat.reduceAdd, Nat.reduceMul, Nat.reduceSub, Nat.reduceLeDiff, Nat.reduceEqDiff, Nat.reducePow, Int.reduceToNat, Int.reducePow, Int.reduceAdd, Int.reduceSub, Int.reduceMul, Int.reduceLT, Int.reduceLE, Int.reduceEq, Int.reduceNeg, kj_eq])
    refine wp_ite (fun c => ?_) (fun c => ?_)
    · (try simp -dsimp (disch := omega) only [↓pre, sp, sp2, wp_some, Int.cast_ofNat_Int, Nat.reduceAdd, Nat.reduceMul, Nat.reduceSub, Nat.reduceLeDiff, Nat.reduceEqDiff, Nat.reducePow, Int.reduceToNat, Int.reducePow, Int.reduceAdd, Int.reduceSub, Int.reduceMul, Int.reduceLT, Int.reduceLE, Int.reduceEq, Int.reduceNeg])
      refine ⟨k1.trans k2, ?_⟩
      simp only [wrapM, Int.reduceEq, if_false, if_true, or_false, false_or, or_true, true_or, or_self]
      all_goals (first | (exfalso; omega) | (congr 1; omega))
    · (try simp -dsimp (disch := omega) only [↓pre, sp, sp2, wp_some, Int.cast_ofNat_Int, Nat.reduceAdd, Nat.reduceMul, Nat.reduceSub, Nat.reduceLeDiff, Nat.reduceEqDiff, Nat.reducePow, Int.reduceToNat, Int.reducePow, Int.reduceAdd, Int.reduceSub, Int.reduceMul, Int.reduceLT, Int.reduceLE, Int.reduceEq, Int.reduceNeg])
      refine ⟨k1.trans k2, ?_⟩
      simp only [wrapM, Int.reduceEq, if_false, if_true, or_false, false_or, or_true, true_or, or_self]
      all_goals (first | (exfalso; omega) | (congr 1; omega))
  · have ed : kdM 3 = ⟨[73, 78, 84], 16, true, false, true⟩ := rfl
    rw [ed]
    rw [show loM 3 = -32768 from rfl, show hiM 3 = 32767 from rfl] at rs
    (try simp -dsimp (disch := omega) only [↓pre, sp, sp2, wp_some, Int.cast_ofNat_Int, Nat.reduceAdd, Nat.reduceMul, Nat.reduceSub, Nat.reduceLeDiff, Nat.reduceEqDiff, Nat.reducePow, Int.reduceToNat, Int.reducePow, Int.reduceAdd, Int.reduceSub, Int.reduceMul, Int.reduceLT, Int.reduceLE, Int.reduceEq, Int.reduceNeg, decide_false, a16])
    refine Wp.bind rs fun v h2 ⟨k2, e⟩ => ?_
    subst e
    (try simp -dsimp (disch := omega) only [↓pre, sp, sp2, wp_some, Int.cast_ofNat_Int, Nat.reduceAdd, Nat.reduceMul, Nat.reduceSub, Nat.reduceLeDiff, Nat.reduceEqDiff, Nat.reducePow, Int.reduceToNat, Int.reducePow, Int.reduceAdd, Int.reduceSub, Int.reduceMul, Int.reduceLT, Int.reduceLE, Int.reduceEq, Int.reduceNeg, kj_eq])
    refine wp_ite (fun c => ?_) (fun c => ?_)
    · (try simp -dsimp (disch := omega) only [↓pre, sp, sp2, wp_some, Int.cast_ofNat_Int, Nat.reduceAdd, Nat.reduceMul, Nat.reduceSub, Nat.reduceLeDiff, Nat.reduceEqDiff, Nat.reducePow, Int.reduceToNat, Int.reducePow, Int.reduceAdd, Int.reduceSub, Int.reduceMul, Int.reduceLT, Int.reduceLE, Int.reduceEq, Int.reduceNeg])
      refine ⟨k1.trans k2, ?_⟩
      simp only [wrapM, Int.reduceEq, if_false, if_true, or_false, false_or, or_true, true_or, or_self]
      all_goals (first | (exfalso; omega) | (congr 1; omega))
    · (try simp -dsimp (disch := omega) only [↓pre, sp, sp2, wp_some, Int.cast_ofNat_Int, Nat.reduceAdd, Nat.reduceMul, Nat.reduceSub, Nat.reduceLeDiff, Nat.reduceEqDiff, Nat.reducePow, Int.reduceToNat, Int.reducePow, Int.reduceAdd, Int.reduceSub, Int.reduceMul, Int.reduceLT, Int.reduceLE, Int.reduceEq, Int.reduceNeg])
      refine ⟨k1.trans k2, ?_⟩
      simp only [wrapM, Int.reduceEq, if_false, if_true, or_false, false_or, or_true, true_or, or_self]
      all_goals (first | (exfalso; omega) | (congr 1; omega))
  · have ed : kdM 4 = ⟨[68, 73, 78, 84], 32, true, false, true⟩ := rfl
    rw [ed]
    rw [show loM 4 = -2147483648 from rfl, show hiM 4 = 2147483647 from rfl] at rs
    (try simp -dsimp (disch := omega) only [↓pre, sp, sp2, wp_some, Int.cast_ofNat_Int, Nat.reduceAdd, Nat.reduceMul, Nat.reduceSub, Nat.reduceLeDiff, Nat.reduceEqDiff, Nat.reducePow, Int.reduceToNat, Int.reducePow, Int.reduceAdd, Int.reduceSub, Int.reduceMul, Int.reduceLT, Int.reduceLE, Int.reduceEq, Int.reduceNeg, decide_false, a32])
    refine Wp.bind rs fun v h2 ⟨k2, e⟩ => ?_
    subst e
    (try simp -dsimp (disch := omega) only [↓pre, sp, sp2, wp_some, Int.cast_ofNat_Int, Nat.reduceAdd, Nat.reduceMul, Nat.reduceSub, Nat.reduceLeDiff, Nat.reduceEqDiff, Nat.reducePow, Int.reduceToNat, Int.reducePow, Int.reduceAdd, Int.reduceSub, Int.reduceMul, Int.reduceLT, Int.reduceLE, Int.reduceEq, Int.reduceNeg, kj_eq])
    refine wp_ite (fun c => ?_) (fun c => ?_)
    · (try simp -dsimp (disch := omega) only [↓pre, sp, sp2, wp_some, Int.cast_ofNat_Int, Nat.reduceAdd, Nat.reduceMul, Nat.reduceSub, Nat.reduceLeDiff, Nat.reduceEqDiff, Nat.reducePow, Int.reduceToNat, Int.reducePow, Int.reduceAdd, Int.reduceSub, Int.reduceMul, Int.reduceLT, Int.reduceLE, Int.reduceEq, Int.reduceNeg])
      refine ⟨k1.trans k2, ?_⟩
      simp only [wrapM, Int.reduceEq, if_false, if_true, or_false, false_or, or_true, true_or, or_self]
      all_goals (first | (exfalso; omega) | (congr 1; omega))
    · (try simp -dsimp (disch := omega) only [↓pre, sp, sp2, wp_some, Int.cast_ofNat_Int, Nat.reduceAdd, Nat.reduceMul, Nat.reduceSub, Nat.reduceLeDiff, Nat.reduceEqDiff, Nat.reducePow, Int.reduceToNat, Int.reducePow, Int.reduceAdd, Int.reduceSub, Int.reduceMul, Int.reduceLT, Int.reduceLE, Int.reduceEq, Int.reduceNeg])
      refine ⟨k1.trans k2, ?_⟩
      simp only [wrapM, Int.reduceEq, if_false, if_true, or_false, false_or, or_true, true_or, or_self]
      all_goals (first | (exfalso; omega) | (congr 1; omega))
  · have ed : kdM 5 = ⟨[85, 83, 73, 78, 84], 8, false, false, true⟩ := rfl
    rw [ed]
    rw [show loM 5 = 0 from rfl, show hiM 5 = 255 from rfl] at rs
    (try simp -dsimp (disch := omega) only [↓pre, sp, sp2, wp_some, Int.cast_ofNat_Int, Nat.reduceAdd, Nat.reduceMul, Nat.reduceSub, Nat.reduceLeDiff, Nat.reduceEqDiff, Nat.reducePow, Int.reduceToNat, Int.reducePow, Int.reduceAdd, Int.reduceSub, Int.reduceMul, Int.reduceLT, Int.reduceLE, Int.reduceEq, Int.reduceNeg, decide_false, a8])
    refine Wp.bind rs fun v h2 ⟨k2, e⟩ => ?_
    subst e
    (try simp -dsimp (disch := omega) only [↓pre, sp, sp2, wp_some, Int.cast_ofNat_Int, Nat.reduceAdd, Nat.reduceMul, Nat.reduceSub, Nat.reduceLeDiff, Nat.reduceEqDiff, Nat.reducePow, Int.reduceToNat, Int.reducePow, Int.reduceAdd, Int.reduceSub, Int.reduceMul, Int.reduceLT, Int.reduceLE, Int.reduceEq, Int.reduceNeg, kj_eq])
    refine wp_ite (fun c => ?_) (fun c => ?_)
    · (try simp -dsimp (disch := omega) only [↓pre, sp, sp2, wp_some, Int.cast_ofNat_Int, Nat.reduceAdd, Nat.reduceMul, Nat.reduceSub, Nat.reduceLeDiff, Nat.reduceEqDiff, Nat.reducePow, Int.reduceToNat, Int.reducePow, Int.reduceAdd, Int.reduceSub, Int.reduceMul, Int.reduceLT, Int.reduceLE, Int.reduceEq, Int.reduceNeg])
      refine ⟨k1.trans k2, ?_⟩
      simp only [wrapM, Int.reduceEq, if_false, if_true, or_false, false_or, or_true, true_or, or_self]
      all_goals (first | (exfalso; omega) | (congr 1; omega))
    · (try simp -dsimp (disch := omega) only [↓pre, sp, sp2, wp_some, Int.cast_ofNat_Int, Nat.reduceAdd, Nat.reduceMul, Nat.reduceSub, Nat.reduceLeDiff, Nat.reduceEqDiff, Nat.reducePow, Int.reduceToNat, Int.reducePow, Int.reduceAdd, Int.reduceSub, Int.reduceMul, Int.reduceLT, Int.reduceLE, Int.reduceEq, Int.reduceNeg])
      refine ⟨k1.trans k2, ?_⟩
      simp only [wrapM, Int.reduceEq, if_false, if_true, or_false, false_or, or_true, true_or, or_self]
      all_goals (first | (exfalso; omega) | (congr 1; omega))
  · have ed : kdM 6 = ⟨[85, 73, 78, 84], 16, false, false, true⟩ := rfl
    rw [ed]
    rw [show loM 6 = 0 from rfl, show hiM 6 = 65535 from rfl] at rs
    (try simp -dsimp (disch := omega) only [↓pre, sp, sp2, wp_some, Int.cast_ofNat_Int, Nat.reduceAdd, Nat.reduceMul, Nat.reduceSub, Nat.reduceLeDiff, Nat.reduceEqDiff, Nat.reducePow, Int.reduceToNat, Int.reducePow, Int.reduceAdd, Int.reduceSub, Int.reduceMul, Int.reduceLT, Int.reduceLE, Int.reduceEq, Int.reduceNeg, decide_false, a16])
    refine Wp.bind rs fun v h2 ⟨k2, e⟩ => ?_
    subst e
    (try simp -dsimp (disch := omega) only [↓pre, sp, sp2, wp_some, Int.cast_ofNat_Int, Nat.reduceAdd, Nat.reduceMul, Nat.reduceSub, Nat.reduceLeDiff, Nat.reduceEqDiff, Nat.reducePow, Int.reduceToNat, Int.reducePow, Int.reduceAdd, Int.reduceSub, Int.reduceMul, Int.reduceLT, Int.reduceLE, Int.reduceEq, Int.reduceNeg, kj_eq])
    refine wp_ite (fun c => ?_) (fun c => ?_)
    · (try simp -dsimp (disch := omega) only [↓pre, sp, sp2, wp_some, Int.cast_ofNat_Int, Nat.reduceAdd, Nat.reduceMul, Nat.reduceSub, Nat.reduceLeDiff, Nat.reduceEqDiff, Nat.reducePow, Int.reduceToNat, Int.reducePow, Int.reduceAdd, Int.reduceSub, Int.reduceMul, Int.reduceLT, Int.reduceLE, Int.reduceEq, Int.reduceNeg])
      refine ⟨k1.trans k2, ?_⟩
      simp only [wrapM, Int.reduceEq, if_false, if_true, or_false, false_or, or_true, true_or, or_self]
      all_goals (first | (exfalso; omega) | (congr 1; omega))
    · (try simp -dsimp (disch := omega) only [↓pre, sp, sp2, wp_some, Int.cast_ofNat_Int, Nat.reduceAdd, Nat.reduceMul, Nat.reduceSub, Nat.reduceLeDiff, Nat.reduceEqDiff, Nat.reducePow, Int.reduceToNat, Int.reducePow, Int.reduceAdd, Int.reduceSub, Int.reduceMul, Int.reduceLT, Int.reduceLE, Int.reduceEq, Int.reduceNeg])
      refine ⟨k1.trans k2, ?_⟩
      simp only [wrapM, Int.reduceEq, if_false, if_true, or_false, false_or, or_true, true_or, or_self]
      all_goals (first | (exfalso; omega) | (congr 1; omega))
  · have ed : kdM 7 = ⟨[85, 68, 73, 78, 84], 32, false, false, true⟩ := rfl
    rw [ed]
    rw [show loM 7 = 0 from rfl, show hiM 7 = 4294967295 from rfl] at rs
    (try simp -dsimp (disch := omega) only [↓pre, sp, sp2, wp_some, Int.cast_ofNat_Int, Nat.reduceAdd, Nat.reduceMul, Nat.reduceSub, Nat.reduceLeDiff, Nat.reduceEqDiff, Nat.reducePow, Int.reduceToNat, Int.reducePow, Int.reduceAdd, Int.reduceSub, Int.reduceMul, Int.reduceLT, Int.reduceLE, Int.reduceEq, Int.reduceNeg, decide_false, a32])
    refine Wp.bind rs fun v h2 ⟨k2, e⟩ => ?_
    subst e
    (try simp -dsimp (disch := omega) only [↓pre, sp, sp2, wp_some, Int.cast_ofNat_Int, Nat.reduceAdd, Nat.reduceMul, Nat.reduceSub, Nat.reduceLeDiff, Nat.reduceEqDiff, Nat.reducePow, Int.reduceToNat, Int.reducePow, Int.reduceAdd, Int.reduceSub, Int.reduceMul, Int.reduceLT, Int.reduceLE, Int.reduceEq, Int.reduceNeg, kj_eq])
    refine wp_ite (fun c => ?_) (fun c => ?_)
    · (try simp -dsimp (disch := omega) only [↓pre, sp, sp2, wp_some, Int.cast_ofNat_Int, Nat.reduceAdd, Nat.reduceMul, Nat.reduceSub, Nat.reduceLeDiff, Nat.reduceEqDiff, Nat.reducePow, Int.reduceToNat, Int.reducePow, Int.reduceAdd, Int.reduceSub, Int.reduceMul, Int.reduceLT, Int.reduceLE, Int.reduceEq, Int.reduceNeg])
      refine ⟨k1.trans k2, ?_⟩
      simp only [wrapM, Int.reduceEq, if_false, if_true, or_false, false_or, or_true, true_or, or_self]
      all_goals (first | (exfalso; omega) | (congr 1; omega))
    · (try simp -dsimp (disch := omega) only [↓pre, sp, sp2, wp_some, Int.cast_ofNat_Int, Nat.reduceAdd, Nat.reduceMul, Nat.reduceSub, Nat.reduceLeDiff, Nat.reduceEqDiff, Nat.reducePow, Int.reduceToNat, Int.reducePow, Int.reduceAdd, Int.reduceSub, Int.reduceMul, Int.reduceLT, Int.reduceLE, Int.reduceEq, Int.reduceNeg])
      refine ⟨k1.trans k2, ?_⟩
      simp only [wrapM, Int.reduceEq, if_false, if_true, or_false, false_or, or_true, true_or, or_self]
      all_goals (first | (exfalso; omega) | (congr 1; omega))
  · have ed : kdM 8 = ⟨[66, 89, 84, 69], 8, false, true, true⟩ := rfl
    rw [ed]
    rw [show loM 8 = 0 from rfl, show hiM 8 = 255 from rfl] at rs
    (try simp -dsimp (disch := omega) only [↓pre, sp, sp2, wp_some, Int.cast_ofNat_Int, Nat.reduceAdd, Nat.reduceMul, Nat.reduceSub, Nat.reduceLeDiff, Nat.reduceEqDiff, Nat.reducePow, Int.reduceToNat, Int.reducePow, Int.reduceAdd, Int.reduceSub, Int.reduceMul, Int.reduceLT, Int.reduceLE, Int.reduceEq, Int.reduceNeg, decide_false, a8])
    refine Wp.bind rs fun v h2 ⟨k2, e⟩ => ?_
    subst e
    (try simp -dsimp (disch := omega) only [↓pre, sp, sp2, wp_some, Int.cast_ofNat_Int, Nat.reduceAdd, Nat.reduceMul, Nat.reduceSub, Nat.reduceLeDiff, Nat.reduceEqDiff, Nat.reducePow, Int.reduceToNat, Int.reducePow, Int.reduceAdd, Int.reduceSub, Int.reduceMul, Int.reduceLT, Int.reduceLE, Int.reduceEq, Int.reduceNeg, kj_eq])
    refine wp_ite (fun c => ?_) (fun c => ?_)
    · (try simp -dsimp (disch := omega) only [↓pre, sp, sp2, wp_some, Int.cast_ofNat_Int, Nat.reduceAdd, Nat.reduceMul, Nat.reduceSub, Nat.reduceLeDiff, Nat.reduceEqDiff, Nat.reducePow, Int.reduceToNat, Int.reducePow, Int.reduceAdd, Int.reduceSub, Int.reduceMul, Int.reduceLT, Int.reduceLE, Int.reduceEq, Int.reduceNeg])
      refine ⟨k1.trans k2, ?_⟩
      simp only [wrapM, Int.reduceEq, if_false, if_true, or_false, false_or, or_true, true_or, or_self]
      all_goals (first | (exfalso; omega) | (congr 1; omega))
    · (try simp -dsimp (disch := omega) only [↓pre, sp, sp2, wp_some, Int.cast_ofNat_Int, Nat.reduceAdd, Nat.reduceMul, Nat.reduceSub, Nat.reduceLeDiff, Nat.reduceEqDiff, Nat.reducePow, Int.reduceToNat, Int.reducePow, Int.reduceAdd, Int.reduceSub, Int.reduceMul, Int.reduceLT, Int.reduceLE, Int.reduceEq, Int.reduceNeg])
      refine ⟨k1.trans k2, ?_⟩
      simp only [wrapM, Int.reduceEq, if_false, if_true, or_false, false_or, or_true, true_or, or_self]
      all_goals (first | (exfalso; omega) | (congr 1; omega))
  · have ed : kdM 9 = ⟨[87, 79, 82, 68], 16, false, true, true⟩ := rfl
    rw [ed]
    rw [show loM 9 = 0 from rfl, show hiM 9 = 65535 from rfl] at rs
    (try simp -dsimp (disch := omega) only [↓pre, sp, sp2, wp_some, Int.cast_ofNat_Int, Nat.reduceAdd, Nat.reduceMul, Nat.reduceSub, Nat.reduceLeDiff, Nat.reduceEqDiff, Nat.reducePow, Int.reduceToNat, Int.reducePow, Int.reduceAdd, Int.reduceSub, Int.reduceMul, Int.reduceLT, Int.reduceLE, Int.reduceEq, Int.reduceNeg, decide_false, a16])
    refine Wp.bind rs fun v h2 ⟨k2, e⟩ => ?_
    subst e
    (try simp -dsimp (disch := omega) only [↓pre, sp, sp2, wp_some, Int.cast_ofNat_Int, Nat.reduceAdd, Nat.reduceMul, Nat.reduceSub, Nat.reduceLeDiff, Nat.reduceEqDiff, Nat.reducePow, Int.reduceToNat, Int.reducePow, Int.reduceAdd, Int.reduceSub, Int.reduceMul, Int.reduceLT, Int.reduceLE, Int.reduceEq, Int.reduceNeg, kj_eq])
    refine wp_ite (fun c => ?_) (fun c => ?_)
    · (try simp -dsimp (disch := omega) only [↓pre, sp, sp2, wp_some, Int.cast_ofNat_Int, Nat.reduceAdd, Nat.reduceMul, Nat.reduceSub, Nat.reduceLeDiff, Nat.reduceEqDiff, Nat.reducePow, Int.reduceToNat, Int.reducePow, Int.reduceAdd, Int.reduceSub, Int.reduceMul, Int.reduceLT, Int.reduceLE, Int.reduceEq, Int.reduceNeg])
      refine ⟨k1.trans k2, ?_⟩
      simp only [wrapM, Int.reduceEq, if_false, if_true, or_false, false_or, or_true, true_or, or_self]
      all_goals (first | (exfalso; omega) | (congr 1; omega))
    · (try simp -dsimp (disch := omega) only [↓pre, sp, sp2, wp_some, Int.cast_ofNat_Int, Nat.reduceAdd, Nat.reduceMul, Nat.reduceSub, Nat.reduceLeDiff, Nat.reduceEqDiff, Nat.reducePow, Int.reduceToNat, Int.reducePow, Int.reduceAdd, Int.reduceSub, Int.reduceMul, Int.reduceLT, Int.reduceLE, Int.reduceEq, Int.reduceNeg])
      refine ⟨k1.trans k2, ?_⟩
      simp only [wrapM, Int.reduceEq, if_false, if_true, or_false, false_or, or_true, true_or, or_self]
      all_goals (first | (exfalso; omega) | (congr 1; omega))
  · have ed : kdM 10 = ⟨[68, 87, 79, 82, 68], 32, false, true, true⟩ := rfl
    rw [ed]
    rw [show loM 10 = 0 from rfl, show hiM 10 = 4294967295 from rfl] at rs
    (try simp -dsimp (disch := omega) only [↓pre, sp, sp2, wp_some, Int.cast_ofNat_Int, Nat.reduceAdd, Nat.reduceMul, Nat.reduceSub, Nat.reduceLeDiff, Nat.reduceEqDiff, Nat.reducePow, Int.reduceToNat, Int.reducePow, Int.reduceAdd, Int.reduceSub, Int.reduceMul, Int.reduceLT, Int.reduceLE, Int.reduceEq, Int.reduceNeg, decide_false, a32])
    refine Wp.bind rs fun v h2 ⟨k2, e⟩ => ?_
    subst e
    (try simp -dsimp (disch := omega) only [↓pre, sp, sp2, wp_some, Int.cast_ofNat_Int, Nat.reduceAdd, Nat.reduceMul, Nat.reduceSub, Nat.reduceLeDiff, Nat.reduceEqDiff, Nat.reducePow, Int.reduceToNat, Int.reducePow, Int.reduceAdd, Int.reduceSub, Int.reduceMul, Int.reduceLT, Int.reduceLE, Int.reduceEq, Int.reduceNeg, kj_eq])
    refine wp_ite (fun c => ?_) (fun c => ?_)
    · (try simp -dsimp (disch := omega) only [↓pre, sp, sp2, wp_some, Int.cast_ofNat_Int, Nat.reduceAdd, Nat.reduceMul, Nat.reduceSub, Nat.reduceLeDiff, Nat.reduceEqDiff, Nat.reducePow, Int.reduceToNat, Int.reducePow, Int.reduceAdd, Int.reduceSub, Int.reduceMul, Int.reduceLT, Int.reduceLE, Int.reduceEq, Int.reduceNeg])
      refine ⟨k1.trans k2, ?_⟩
      simp only [wrapM, Int.reduceEq, if_false, if_true, or_false, false_or, or_true, true_or, or_self]
      all_goals (first | (exfalso; omega) | (congr 1; omega))
    · (try simp -dsimp (disch := omega) only [↓pre, sp, sp2, wp_some, Int.cast_ofNat_Int, Nat.reduceAdd, Nat.reduceMul, Nat.reduceSub, Nat.reduceLeDiff, Nat.reduceEqDiff, Nat.reducePow, Int.reduceToNat, Int.reducePow, Int.reduceAdd, Int.reduceSub, Int.reduceMul, Int.reduceLT, Int.reduceLE, Int.reduceEq, Int.reduceNeg])
      refine ⟨k1.trans k2, ?_⟩
      simp only [wrapM, Int.reduceEq, if_false, if_true, or_false, false_or, or_true, true_or, or_self]
      all_goals (first | (exfalso; omega) | (congr 1; omega))
  · have ed : kdM 11 = ⟨[84, 73, 77, 69], 32, true, false, true⟩ := rfl
    rw [ed]
    rw [show loM 11 = -2147483648 from rfl, show hiM 11 = 2147483647 from rfl] at rs
    (try simp -dsimp (disch := omega) only [↓pre, sp, sp2, wp_some, Int.cast_ofNat_Int, Nat.reduceAdd, Nat.reduceMul, Nat.reduceSub, Nat.reduceLeDiff, Nat.reduceEqDiff, Nat.reducePow, Int.reduceToNat, Int.reducePow, Int.reduceAdd, Int.reduceSub, Int.reduceMul, Int.reduceLT, Int.reduceLE, Int.reduceEq, Int.reduceNeg, decide_false, a32])
    refine Wp.bind rs fun v h2 ⟨k2, e⟩ => ?_
    subst e
    (try simp -dsimp (disch := omega) only [↓pre, sp, sp2, wp_some, Int.cast_ofNat_Int, Nat.reduceAdd, Nat.reduceMul, Nat.reduceSub, Nat.reduceLeDiff, Nat.reduceEqDiff, Nat.reducePow, Int.reduceToNat, Int.reducePow, Int.reduceAdd, Int.reduceSub, Int.reduceMul, Int.reduceLT, Int.reduceLE, Int.reduceEq, Int.reduceNeg, kj_eq])
    refine wp_ite (fun c => ?_) (fun c => ?_)
    · (try simp -dsimp (disch := omega) only [↓pre, sp, sp2, wp_some, Int.cast_ofNat_Int, Nat.reduceAdd, Nat.reduceMul, Nat.reduceSub, Nat.reduceLeDiff, Nat.reduceEqDiff, Nat.reducePow, Int.reduceToNat, Int.reducePow, Int.reduceAdd, Int.reduceSub, Int.reduceMul, Int.reduceLT, Int.reduceLE, Int.reduceEq, Int.reduceNeg])
      refine ⟨k1.trans k2, ?_⟩
      simp only [wrapM, Int.reduceEq, if_false, if_true, or_false, false_or, or_true, true_or, or_self]
      all_goals (first | (exfalso; omega) | (congr 1; omega))
    · (try simp -dsimp (disch := omega) only [↓pre, sp, sp2, wp_some, Int.cast_ofNat_Int, Nat.reduceAdd, Nat.reduceMul, Nat.reduceSub, Nat.reduceLeDiff, Nat.reduceEqDiff, Nat.reducePow, Int.reduceToNat, Int.reducePow, Int.reduceAdd, Int.reduceSub, Int.reduceMul, Int.reduceLT, Int.reduceLE, Int.reduceEq, Int.reduceNeg])
      refine ⟨k1.trans k2, ?_⟩
      simp only [wrapM, Int.reduceEq, if_false, if_true, or_false, false_or, or_true, true_or, or_self]
      all_goals (first | (exfalso; omega) | (congr 1; omega))
  · rw [e0]
    (try simp -dsimp (disch := omega) only [↓pre, sp, sp2, wp_some, Int.cast_ofNat_Int, Nat.reduceAdd, Nat.reduceMul, Nat.reduceSub, Nat.reduceLeDiff, Nat.reduceEqDiff, Nat.reducePow, Int.reduceToNat, Int.reducePow, Int.reduceAdd, Int.reduceSub, Int.reduceMul, Int.reduceLT, Int.reduceLE, Int.reduceEq, Int.reduceNeg])
    exact ⟨k1, by rw [ew]⟩
def K3 (k : Int) : Prop := k = 8 ∨ k = 9 ∨ k = 10
instance (k : Int) : Decidable (K3 k) := inferInstanceAs (Decidable (k = 8 ∨ k = 9 ∨ k = 10))
def SHL : List UInt8 := [83, 72, 76]
def SHR : List UInt8 := [83, 72, 82]
def ROL : List UInt8 := [82, 79, 76]
def ROR : List UInt8 := [82, 79, 82]
/-- What is moved: of the number A with so many bits, by m. -/
def shB (s : List UInt8) (k : Int) (W : Nat) (A m : Int) : Int :=
  if s = [83, 72, 76] then (if m ≥ (W : Int) then 0 else wrapM k (IntKind.wrap .i64 (A * 2 ^ m.toNat)))
  else if s = [83, 72, 82] then (if m ≥ (W : Int) then 0 else A / 2 ^ m.toNat)
  else if s = [82, 79, 76] then wrapM k (iOr .i64 (IntKind.wrap .i64 (A * 2 ^ (m.tmod W).toNat)) (A / 2 ^ ((W : Int) - m.tmod W).toNat))
  else if s = [82, 79, 82] then wrapM k (iOr .i64 (A / 2 ^ (m.tmod W).toNat) (IntKind.wrap .i64 (A * 2 ^ ((W : Int) - m.tmod W).toNat)))
  else 0
def shM (s : List UInt8) (k a n : Int) : Int := if K3 k then shB s k (kdM k).w (wrapM k a) (max n 0) else 0
theorem k3_w {k : Int} (h : K3 k) : (kdM k).bits = true ∧ ((kdM k).w = 8 ∨ (kdM k).w = 16 ∨ (kdM k).w = 32) := by
  rcases h with rfl | rfl | rfl
  · exact ⟨rfl, .inl rfl⟩
  · exact ⟨rfl, .inr (.inl rfl)⟩
  · exact ⟨rfl, .inr (.inr rfl)⟩
theorem k3_pos {k : Int} (h : K3 k) (x : Int) : 0 ≤ wrapM k x := by
  rcases h with rfl | rfl | rfl
  · exact Int.emod_nonneg _ (by decide)
  · exact Int.emod_nonneg _ (by decide)
  · exact Int.emod_nonneg _ (by decide)
theorem bits_k {k : Int} : ((kdM k).bits = true ∧ ¬ k = 1) ↔ K3 k := by
  unfold K3
  rcases kcases k with rfl | rfl | rfl | rfl | rfl | rfl | rfl | rfl | rfl | rfl | rfl | ⟨e, _, h⟩
  all_goals first | decide | (rw [e]; simp; omega)
end Go.Proofs.YtindiedfioiejaaDoor.AI
