/- runghelp.Place. -/
import Derived.Test.YtindiedfioiejaaDoorF
namespace Go.Proofs.YtindiedfioiejaaDoor.AI
open Go
set_option linter.unusedSimpArgs false
set_option linter.unusedVariables false
variable {ov : AOver} {h : AH}
theorem place_spec (H : Plain ov) (n : Nat) {k : Int} {m : Nat} (hk : -9223372036854775808 ≤ k ∧ k < 9223372036854775808) (h0 : 0 < m) (h1 : m < 2 ^ 40) :
    ∃ i : Nat, i < m ∧ kc ov (n + 1) N_runghelp_Place [.int .i64 k, .int .i64 m] h = some (.int .i64 i, h) ∧ (i : Int) = k % m := by
  have hr : rBin .rem .no false (.int .i64 k) (.int .i64 m) = some (.int .i64 (k.tmod m)) := by
    have : (m : Int) ≠ 0 := by omega
    simp [rBin, aInt, this]
    omega
  have hlt : k.tmod m < m := Int.tmod_lt_of_pos k (by omega)
  have hgt : -(m : Int) < k.tmod m := by
    have := Int.tmod_lt_of_pos (-k) (b := (m : Int)) (by omega)
    rw [Int.neg_tmod] at this
    omega
  have hem : k % m = if k.tmod m < 0 then k.tmod m + m else k.tmod m := by
    have e1 := Int.mul_tdiv_add_tmod k m
    have key : ∀ x : Int, 0 ≤ x → x < m → (∃ q, k = m * q + x) → k % m = x := by
      rintro x hx hx' ⟨q, rfl⟩
      rw [Int.add_comm, Int.add_mul_emod_self_left, Int.emod_eq_of_lt hx hx']
    split
    · exact key _ (by omega) (by omega) ⟨k.tdiv m - 1, by rw [Int.mul_sub]; omega⟩
    · exact key _ (by omega) (by omega) ⟨k.tdiv m, by omega⟩
  rw [C_runghelp_Place H]
  by_cases c : k.tmod m < 0
  · refine ⟨(k.tmod m + m).toNat, by omega, ?_, by rw [hem, if_pos c]; omega⟩
    have e : IntKind.wrap .i64 (k.tmod m + m) = k.tmod m + m := wrap_i64 (by omega) (by omega)
    (try simp -dsimp (disch := omega) only [↓pre, sp, sp2, wp_some, Int.cast_ofNat_Int, Nat.reduceAdd, Nat.reduceMul, Nat.reduceSub, Nat.reduceLeDiff, Nat.reduceEqDiff, Nat.reducePow, Int.reduceToNat, Int.reducePow, Int.reduceAdd, Int.reduceSub, Int.reduceMul, Int.reduceLT, Int.reduceLE, Int.reduceEq, Int.reduceNeg, F_runghelp_Place, hr, c, if_true, e, kj_eq])
    rw [Int.toNat_of_nonneg (by omega)]
  · refine ⟨(k.tmod m).toNat, by omega, ?_, by rw [hem, if_neg c]; omega⟩
    (try simp -dsimp (disch := omega) only [↓pre, sp, sp2, wp_some, Int.cast_ofNat_Int, Nat.reduceAdd, Nat.reduceMul, Nat.reduceSub, Nat.reduceLeDiff, Nat.reduceEqDiff, Nat.reducePow, Int.reduceToNat, Int.reducePow, Int.reduceAdd, Int.reduceSub, Int.reduceMul, Int.reduceLT, Int.reduceLE, Int.reduceEq, Int.reduceNeg, F_runghelp_Place, hr, c, if_false, kj_eq])
    rw [Int.toNat_of_nonneg (by omega)]
end Go.Proofs.YtindiedfioiejaaDoor.AI
