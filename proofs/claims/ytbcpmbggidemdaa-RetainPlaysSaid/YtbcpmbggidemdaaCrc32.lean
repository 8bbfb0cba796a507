/- crc.Sum32. -/
import Derived.Test.YtbcpmbggidemdaaHelp
import Derived.Test.YtbcpmbggidemdaaAiRetP
namespace Go.Proofs.Ytbcpmbggidemdaa.AI
open Go
set_option linter.unusedSimpArgs false
set_option linter.unusedVariables false
variable {ov : AOver} {h : AH} {v : AVal} {md : AMode}
theorem sum32_spec (H : Plain ov) (n : Nat) {l : List UInt8} (s : Bs h v l md) (hl : l.length ≤ 2 ^ 40) : ∃ r, aUn .xor (.int .u32 (crcL32 0xFFFFFFFF#32 l).toNat) = some r ∧ kc ov (n + 1) N_crc_Sum32 [v] h = some (r, h) := by
  refine ⟨_, rfl, Wp.eq ?_⟩
  rw [C_crc_Sum32 H]; unfold F_crc_Sum32
  (try simp -dsimp (disch := omega) only [↓pre, sp, sp2, wp_some, Int.cast_ofNat_Int, Nat.reduceAdd, Nat.reduceMul, Nat.reduceSub, Nat.reduceLeDiff, Nat.reduceEqDiff, Nat.reducePow, Int.reduceToNat, Int.reducePow, Int.reduceAdd, Int.reduceSub, Int.reduceMul, Int.reduceLT, Int.reduceLE, Int.reduceEq, Int.reduceNeg, s.len])
  refine wp_loop (fun m x h1 => ∃ i : Nat, x = [.int .u32 (crcL32 0xFFFFFFFF#32 (l.take i)).toNat, .int .i64 i] ∧ i + m = l.length ∧ h = h1) l.length (by omega) ⟨0, rfl, by omega, rfl⟩ ?_
  rintro m _ _ j ⟨i, rfl, him, rfl⟩ hj
  unfold L_crc_Sum32_1
  (try simp -dsimp (disch := omega) only [↓pre, sp, sp2, wp_some, Int.cast_ofNat_Int, Nat.reduceAdd, Nat.reduceMul, Nat.reduceSub, Nat.reduceLeDiff, Nat.reduceEqDiff, Nat.reducePow, Int.reduceToNat, Int.reducePow, Int.reduceAdd, Int.reduceSub, Int.reduceMul, Int.reduceLT, Int.reduceLE, Int.reduceEq, Int.reduceNeg])
  refine wp_ite (fun c => ?_) (fun c => ?_)
  · have hg := gb_lt l i
    have hx := byte_xor32 (crcL32 0xFFFFFFFF#32 (l.take i)) l i
    (try simp -dsimp (disch := omega) only [↓pre, sp, sp2, wp_some, Int.cast_ofNat_Int, Nat.reduceAdd, Nat.reduceMul, Nat.reduceSub, Nat.reduceLeDiff, Nat.reduceEqDiff, Nat.reducePow, Int.reduceToNat, Int.reducePow, Int.reduceAdd, Int.reduceSub, Int.reduceMul, Int.reduceLT, Int.reduceLE, Int.reduceEq, Int.reduceNeg, s.at, s.ldb, hx])
    refine wp_loop (fun m2 y h1 => ∃ k : Nat, y = [.int .u32 (stepN32 k (crcL32 0xFFFFFFFF#32 (l.take i) ^^^ zx32 (l.getD i 0))).toNat, .int .i64 k] ∧ k + m2 = 8 ∧ h = h1) 8 (by omega) ⟨0, rfl, by omega, rfl⟩ ?_
    rintro m2 _ _ j2 ⟨k, rfl, hkm, rfl⟩ hj2
    unfold L_crc_Sum32_0
    (try simp -dsimp (disch := omega) only [↓pre, sp, sp2, wp_some, Int.cast_ofNat_Int, Nat.reduceAdd, Nat.reduceMul, Nat.reduceSub, Nat.reduceLeDiff, Nat.reduceEqDiff, Nat.reducePow, Int.reduceToNat, Int.reducePow, Int.reduceAdd, Int.reduceSub, Int.reduceMul, Int.reduceLT, Int.reduceLE, Int.reduceEq, Int.reduceNeg])
    refine wp_ite (fun c2 => ?_) (fun c2 => ?_)
    · have hm := bit_mul32 (stepN32 k (crcL32 0xFFFFFFFF#32 (l.take i) ^^^ zx32 (l.getD i 0)))
      have ek : ((k : Int) + 1) = ((k + 1 : Nat) : Int) := by omega
      (try simp -dsimp (disch := omega) only [↓pre, sp, sp2, wp_some, Int.cast_ofNat_Int, Nat.reduceAdd, Nat.reduceMul, Nat.reduceSub, Nat.reduceLeDiff, Nat.reduceEqDiff, Nat.reducePow, Int.reduceToNat, Int.reducePow, Int.reduceAdd, Int.reduceSub, Int.reduceMul, Int.reduceLT, Int.reduceLE, Int.reduceEq, Int.reduceNeg, hm, ek])
      exact hj2 (m2 - 1) _ _ (by omega) ⟨k + 1, rfl, by omega, rfl⟩
    · have ei : ((i : Int) + 1) = ((i + 1 : Nat) : Int) := by omega
      have hk8 : k = 8 := by omega
      subst hk8
      (try simp -dsimp (disch := omega) only [↓pre, sp, sp2, wp_some, Int.cast_ofNat_Int, Nat.reduceAdd, Nat.reduceMul, Nat.reduceSub, Nat.reduceLeDiff, Nat.reduceEqDiff, Nat.reducePow, Int.reduceToNat, Int.reducePow, Int.reduceAdd, Int.reduceSub, Int.reduceMul, Int.reduceLT, Int.reduceLE, Int.reduceEq, Int.reduceNeg, ei])
      exact hj (m - 1) _ _ (by omega) ⟨i + 1, by rw [crcL32_take _ (by omega)], by omega, rfl⟩
  · have : l.take i = l := List.take_of_length_le (by omega)
    rw [this]
    have hu : aUn .xor (.int .u32 (crcL32 0xFFFFFFFF#32 l).toNat) = some _ := rfl
    (try simp -dsimp (disch := omega) only [↓pre, sp, sp2, wp_some, Int.cast_ofNat_Int, Nat.reduceAdd, Nat.reduceMul, Nat.reduceSub, Nat.reduceLeDiff, Nat.reduceEqDiff, Nat.reducePow, Int.reduceToNat, Int.reducePow, Int.reduceAdd, Int.reduceSub, Int.reduceMul, Int.reduceLT, Int.reduceLE, Int.reduceEq, Int.reduceNeg, hu])
theorem s32_spec (H : Plain ov) (n : Nat) {l : List UInt8} (s : Bs h v l md) (hl : l.length ≤ 2 ^ 40) : kc ov (n + 1) N_crc_Sum32 [v] h = some (.int .u32 (s32 l : Nat), h) := by
  obtain ⟨r, e1, e2⟩ := sum32_spec H n s hl
  rw [aUn_not32] at e1
  simp only [Option.some.injEq] at e1
  rw [e2, ← e1]; rfl
end Go.Proofs.Ytbcpmbggidemdaa.AI
