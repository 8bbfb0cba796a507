/- runghelp.Frame: the same frame? -/
import Derived.Test.YtfnmgclalcoplaaRef3m
namespace Go.Proofs.Ytfnmgclalcoplaa.AI
open Go
set_option linter.unusedSimpArgs false
set_option linter.unusedVariables false
variable {ov : AOver} {h : AH} {v a b : AVal} {md md' : AMode}

theorem frame_spec (H : Plain ov) (n : Nat) (w : Wf h) {i1 i2 u1 u2 : Nat} {x y : List UInt8} (sa : Bs h a x md) (sb : Bs h b y md') :
    Wp (kc ov (n + 2) N_runghelp_Frame [.agg [.int .u16 i1, .int .u8 u1, a], .agg [.int .u16 i2, .int .u8 u2, b]] h) fun r h' => Kp h h' ∧ r = .bool (decide (i1 = i2 ∧ u1 = u2 ∧ x = y)) := by
  rw [C_runghelp_Frame H]; unfold F_runghelp_Frame
  refine wp_box w rfl (by simp only [ic, sa.isCell]) fun p h1 hp k1 n1 g1 => ?_
  refine wp_box k1.w' rfl (by simp only [ic, sb.isCell]) fun q h2 hq k2 n2 g2 => ?_
  have g1' := k2.gt g1
  have K : Kp h h2 := k1.trans k2
  have hb := bytes_spec H n (sa.kp K) (sb.kp K)
  simp -dsimp (disch := omega) only [↓pre, sp, sp2, wp_some, Int.cast_ofNat_Int, Nat.reduceAdd, Nat.reduceMul, Nat.reduceSub, Nat.reduceLeDiff, Nat.reduceEqDiff, Nat.reducePow, Int.reduceToNat, Int.reducePow, Int.reduceAdd, Int.reduceSub, Int.reduceMul, Int.reduceLT, Int.reduceLE, Int.reduceEq, Int.reduceNeg, row_rw g1', row_rw g2]
  refine wp_kTh (fun v h3 => h3 = h2 ∧ v = .bool (decide (i1 = i2 ∧ u1 = u2 ∧ x = y))) (fun j hj => ?_) ?_
  · by_cases c1 : (i1 : Int) = i2
    · by_cases c2 : (u1 : Int) = u2
      · simp -dsimp (disch := omega) only [↓pre, sp, sp2, wp_some, Int.cast_ofNat_Int, Nat.reduceAdd, Nat.reduceMul, Nat.reduceSub, Nat.reduceLeDiff, Nat.reduceEqDiff, Nat.reducePow, Int.reduceToNat, Int.reducePow, Int.reduceAdd, Int.reduceSub, Int.reduceMul, Int.reduceLT, Int.reduceLE, Int.reduceEq, Int.reduceNeg, row_rw g1', row_rw g2, c1, c2, decide_true, hb]
        refine hj _ _ ⟨rfl, ?_⟩
        simp only [show i1 = i2 by omega, show u1 = u2 by omega, true_and]
      · simp -dsimp (disch := omega) only [↓pre, sp, sp2, wp_some, Int.cast_ofNat_Int, Nat.reduceAdd, Nat.reduceMul, Nat.reduceSub, Nat.reduceLeDiff, Nat.reduceEqDiff, Nat.reducePow, Int.reduceToNat, Int.reducePow, Int.reduceAdd, Int.reduceSub, Int.reduceMul, Int.reduceLT, Int.reduceLE, Int.reduceEq, Int.reduceNeg, row_rw g1', row_rw g2, c1, c2, decide_true, decide_false]
        refine hj _ _ ⟨rfl, ?_⟩
        simp only [show ¬ u1 = u2 by omega, false_and, and_false, decide_false]
    · simp -dsimp (disch := omega) only [↓pre, sp, sp2, wp_some, Int.cast_ofNat_Int, Nat.reduceAdd, Nat.reduceMul, Nat.reduceSub, Nat.reduceLeDiff, Nat.reduceEqDiff, Nat.reducePow, Int.reduceToNat, Int.reducePow, Int.reduceAdd, Int.reduceSub, Int.reduceMul, Int.reduceLT, Int.reduceLE, Int.reduceEq, Int.reduceNeg, row_rw g1', row_rw g2, c1, decide_false]
      refine hj _ _ ⟨rfl, ?_⟩
      simp only [show ¬ i1 = i2 by omega, false_and, decide_false]
  · rintro v h3 ⟨rfl, rfl⟩
    simp -dsimp (disch := omega) only [↓pre, sp, sp2, wp_some, Int.cast_ofNat_Int, Nat.reduceAdd, Nat.reduceMul, Nat.reduceSub, Nat.reduceLeDiff, Nat.reduceEqDiff, Nat.reducePow, Int.reduceToNat, Int.reducePow, Int.reduceAdd, Int.reduceSub, Int.reduceMul, Int.reduceLT, Int.reduceLE, Int.reduceEq, Int.reduceNeg]
    exact K
end Go.Proofs.Ytfnmgclalcoplaa.AI
