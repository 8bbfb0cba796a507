/- crc, rungref2: sums of 16 bits. -/
import Derived.Test.YtpbkgmcpelhlpaaHelp
import Derived.Test.YtpbkgmcpelhlpaaAiCrcP
namespace Go.Proofs.Ytpbkgmcpelhlpaa.AI
open Go
set_option linter.unusedSimpArgs false
set_option linter.unusedVariables false
variable {ov : AOver} {h : AH} {v : AVal} {md : AMode}

theorem step16_spec (H : Plain ov) (n : Nat) (s : BitVec 16) : kc ov (n + 1) N_crc_step16 [.int .u16 s.toNat] h = some (.int .u16 (stepN 8 s).toNat, h) := by
  refine Wp.eq ?_
  rw [C_crc_step16 H]; unfold F_crc_step16
  (try simp -dsimp (disch := omega) only [↓pre, sp, sp2, wp_some, Int.cast_ofNat_Int, Nat.reduceAdd, Nat.reduceMul, Nat.reduceSub, Nat.reduceLeDiff, Nat.reduceEqDiff, Nat.reducePow, Int.reduceToNat, Int.reducePow, Int.reduceAdd, Int.reduceSub, Int.reduceMul, Int.reduceLT, Int.reduceLE, Int.reduceEq, Int.reduceNeg])
  refine wp_loop (fun m l h1 => ∃ i : Nat, l = [.int .u16 (stepN i s).toNat, .int .i64 i] ∧ i + m = 8 ∧ h = h1) 8 (by omega) ⟨0, rfl, by omega, rfl⟩ ?_
  rintro m _ _ j ⟨i, rfl, him, rfl⟩ hj
  unfold L_crc_step16_0
  (try simp -dsimp (disch := omega) only [↓pre, sp, sp2, wp_some, Int.cast_ofNat_Int, Nat.reduceAdd, Nat.reduceMul, Nat.reduceSub, Nat.reduceLeDiff, Nat.reduceEqDiff, Nat.reducePow, Int.reduceToNat, Int.reducePow, Int.reduceAdd, Int.reduceSub, Int.reduceMul, Int.reduceLT, Int.reduceLE, Int.reduceEq, Int.reduceNeg])
  refine wp_ite (fun c => ?_) (fun c => ?_)
  · have ei : ((i : Int) + 1) = ((i + 1 : Nat) : Int) := by omega
    have hm := bit_mul (stepN i s)
    (try simp -dsimp (disch := omega) only [↓pre, sp, sp2, wp_some, Int.cast_ofNat_Int, Nat.reduceAdd, Nat.reduceMul, Nat.reduceSub, Nat.reduceLeDiff, Nat.reduceEqDiff, Nat.reducePow, Int.reduceToNat, Int.reducePow, Int.reduceAdd, Int.reduceSub, Int.reduceMul, Int.reduceLT, Int.reduceLE, Int.reduceEq, Int.reduceNeg, hm, ei])
    exact hj (m - 1) _ _ (by omega) ⟨i + 1, rfl, by omega, rfl⟩
  · (try simp -dsimp (disch := omega) only [↓pre, sp, sp2, wp_some, Int.cast_ofNat_Int, Nat.reduceAdd, Nat.reduceMul, Nat.reduceSub, Nat.reduceLeDiff, Nat.reduceEqDiff, Nat.reducePow, Int.reduceToNat, Int.reducePow, Int.reduceAdd, Int.reduceSub, Int.reduceMul, Int.reduceLT, Int.reduceLE, Int.reduceEq, Int.reduceNeg])
    have : i = 8 := by omega
    subst this
    rfl
theorem sum16_spec (H : Plain ov) (n : Nat) {l : List UInt8} (s : Bs h v l md) (hl : l.length ≤ 2 ^ 40) : kc ov (n + 2) N_crc_Sum16 [v] h = some (.int .u16 (crc16 l).toNat, h) := by
  refine Wp.eq ?_
  rw [C_crc_Sum16 H]; unfold F_crc_Sum16
  (try simp -dsimp (disch := omega) only [↓pre, sp, sp2, wp_some, Int.cast_ofNat_Int, Nat.reduceAdd, Nat.reduceMul, Nat.reduceSub, Nat.reduceLeDiff, Nat.reduceEqDiff, Nat.reducePow, Int.reduceToNat, Int.reducePow, Int.reduceAdd, Int.reduceSub, Int.reduceMul, Int.reduceLT, Int.reduceLE, Int.reduceEq, Int.reduceNeg, s.len])
  refine wp_loop (fun m x h1 => ∃ i : Nat, x = [.int .u16 (crcL 0xFFFF#16 (l.take i)).toNat, .int .i64 i] ∧ i + m = l.length ∧ h = h1) l.length (by omega) ⟨0, rfl, by omega, rfl⟩ ?_
  rintro m _ _ j ⟨i, rfl, him, rfl⟩ hj
  unfold L_crc_Sum16_0
  (try simp -dsimp (disch := omega) only [↓pre, sp, sp2, wp_some, Int.cast_ofNat_Int, Nat.reduceAdd, Nat.reduceMul, Nat.reduceSub, Nat.reduceLeDiff, Nat.reduceEqDiff, Nat.reducePow, Int.reduceToNat, Int.reducePow, Int.reduceAdd, Int.reduceSub, Int.reduceMul, Int.reduceLT, Int.reduceLE, Int.reduceEq, Int.reduceNeg])
  refine wp_ite (fun c => ?_) (fun c => ?_)
  · have ei : ((i : Int) + 1) = ((i + 1 : Nat) : Int) := by omega
    have hg := gb_lt l i
    have hx := byte_xor (crcL 0xFFFF#16 (l.take i)) l i
    have hs := fun t => step16_spec (h := h) H n t
    (try simp -dsimp (disch := omega) only [↓pre, sp, sp2, wp_some, Int.cast_ofNat_Int, Nat.reduceAdd, Nat.reduceMul, Nat.reduceSub, Nat.reduceLeDiff, Nat.reduceEqDiff, Nat.reducePow, Int.reduceToNat, Int.reducePow, Int.reduceAdd, Int.reduceSub, Int.reduceMul, Int.reduceLT, Int.reduceLE, Int.reduceEq, Int.reduceNeg, s.at, s.ldb, hx, hs, ei])
    exact hj (m - 1) _ _ (by omega) ⟨i + 1, by rw [crcL_take _ (by omega)], by omega, rfl⟩
  · (try simp -dsimp (disch := omega) only [↓pre, sp, sp2, wp_some, Int.cast_ofNat_Int, Nat.reduceAdd, Nat.reduceMul, Nat.reduceSub, Nat.reduceLeDiff, Nat.reduceEqDiff, Nat.reducePow, Int.reduceToNat, Int.reducePow, Int.reduceAdd, Int.reduceSub, Int.reduceMul, Int.reduceLT, Int.reduceLE, Int.reduceEq, Int.reduceNeg])
    have : l.take i = l := List.take_of_length_le (by omega)
    rw [this]
    rfl
theorem rsum16_spec (H : Plain ov) (n : Nat) {l : List UInt8} (s : Bs h v l md) (hl : l.length ≤ 2 ^ 40) : kc ov (n + 1) N_rungref2_Sum16 [v] h = some (.int .u16 (crc16 l).toNat, h) := by
  refine Wp.eq ?_
  rw [C_rungref2_Sum16 H]; unfold F_rungref2_Sum16
  (try simp -dsimp (disch := omega) only [↓pre, sp, sp2, wp_some, Int.cast_ofNat_Int, Nat.reduceAdd, Nat.reduceMul, Nat.reduceSub, Nat.reduceLeDiff, Nat.reduceEqDiff, Nat.reducePow, Int.reduceToNat, Int.reducePow, Int.reduceAdd, Int.reduceSub, Int.reduceMul, Int.reduceLT, Int.reduceLE, Int.reduceEq, Int.reduceNeg])
  refine wp_loop (fun m x h1 => ∃ i : Nat, x = [.int .u16 (crcL 0xFFFF#16 (l.take i)).toNat, .int .i64 i] ∧ i + m = l.length ∧ h = h1) l.length (by omega) ⟨0, rfl, by omega, rfl⟩ ?_
  rintro m _ _ j ⟨i, rfl, him, rfl⟩ hj
  unfold L_rungref2_Sum16_1
  (try simp -dsimp (disch := omega) only [↓pre, sp, sp2, wp_some, Int.cast_ofNat_Int, Nat.reduceAdd, Nat.reduceMul, Nat.reduceSub, Nat.reduceLeDiff, Nat.reduceEqDiff, Nat.reducePow, Int.reduceToNat, Int.reducePow, Int.reduceAdd, Int.reduceSub, Int.reduceMul, Int.reduceLT, Int.reduceLE, Int.reduceEq, Int.reduceNeg, s.len])
  refine wp_ite (fun c => ?_) (fun c => ?_)
  · have hg := gb_lt l i
    have hx := byte_xor (crcL 0xFFFF#16 (l.take i)) l i
    (try simp -dsimp (disch := omega) only [↓pre, sp, sp2, wp_some, Int.cast_ofNat_Int, Nat.reduceAdd, Nat.reduceMul, Nat.reduceSub, Nat.reduceLeDiff, Nat.reduceEqDiff, Nat.reducePow, Int.reduceToNat, Int.reducePow, Int.reduceAdd, Int.reduceSub, Int.reduceMul, Int.reduceLT, Int.reduceLE, Int.reduceEq, Int.reduceNeg, s.at, s.ldb, hx])
    refine wp_loop (fun m2 y h1 => ∃ k : Nat, y = [.int .u16 (stepN k (crcL 0xFFFF#16 (l.take i) ^^^ zx (l.getD i 0))).toNat, .int .i64 k] ∧ k + m2 = 8 ∧ h = h1) 8 (by omega) ⟨0, rfl, by omega, rfl⟩ ?_
    rintro m2 _ _ j2 ⟨k, rfl, hkm, rfl⟩ hj2
    unfold L_rungref2_Sum16_0
    have ha := bit_and (stepN k (crcL 0xFFFF#16 (l.take i) ^^^ zx (l.getD i 0)))
    (try simp -dsimp (disch := omega) only [↓pre, sp, sp2, wp_some, Int.cast_ofNat_Int, Nat.reduceAdd, Nat.reduceMul, Nat.reduceSub, Nat.reduceLeDiff, Nat.reduceEqDiff, Nat.reducePow, Int.reduceToNat, Int.reducePow, Int.reduceAdd, Int.reduceSub, Int.reduceMul, Int.reduceLT, Int.reduceLE, Int.reduceEq, Int.reduceNeg, ha])
    refine wp_ite (fun c2 => ?_) (fun c2 => ?_)
    · have ek : ((k : Int) + 1) = ((k + 1 : Nat) : Int) := by omega
      generalize hT : stepN k (crcL 0xFFFF#16 (l.take i) ^^^ zx (l.getD i 0)) = T
      refine wp_kJ (fun y h1 => h = h1 ∧ y = [.int .u16 (stepB T).toNat]) (fun j3 hj3 => ?_) ?_
      · rw [bv_toNat]
        cases hb : T.getLsbD 0 with
        | true =>
          have e1 := bit_one T hb
          (try simp -dsimp (disch := omega) only [↓pre, sp, sp2, wp_some, Int.cast_ofNat_Int, Nat.reduceAdd, Nat.reduceMul, Nat.reduceSub, Nat.reduceLeDiff, Nat.reduceEqDiff, Nat.reducePow, Int.reduceToNat, Int.reducePow, Int.reduceAdd, Int.reduceSub, Int.reduceMul, Int.reduceLT, Int.reduceLE, Int.reduceEq, Int.reduceNeg, e1, decide_true])
          exact hj3 _ _ ⟨rfl, rfl⟩
        | false =>
          have e1 := bit_none T hb
          have hne : ¬ ((0 : Int) = 1) := by omega
          simp only [Bool.false_eq_true, if_false, hne, decide_false]
          (try simp -dsimp (disch := omega) only [↓pre, sp, sp2, wp_some, Int.cast_ofNat_Int, Nat.reduceAdd, Nat.reduceMul, Nat.reduceSub, Nat.reduceLeDiff, Nat.reduceEqDiff, Nat.reducePow, Int.reduceToNat, Int.reducePow, Int.reduceAdd, Int.reduceSub, Int.reduceMul, Int.reduceLT, Int.reduceLE, Int.reduceEq, Int.reduceNeg, e1])
          exact hj3 _ _ ⟨rfl, rfl⟩
      · rintro _ _ ⟨rfl, rfl⟩
        (try simp -dsimp (disch := omega) only [↓pre, sp, sp2, wp_some, Int.cast_ofNat_Int, Nat.reduceAdd, Nat.reduceMul, Nat.reduceSub, Nat.reduceLeDiff, Nat.reduceEqDiff, Nat.reducePow, Int.reduceToNat, Int.reducePow, Int.reduceAdd, Int.reduceSub, Int.reduceMul, Int.reduceLT, Int.reduceLE, Int.reduceEq, Int.reduceNeg, ek])
        exact hj2 (m2 - 1) _ _ (by omega) ⟨k + 1, by rw [← hT]; rfl, by omega, rfl⟩
    · have ei : ((i : Int) + 1) = ((i + 1 : Nat) : Int) := by omega
      have hk8 : k = 8 := by omega
      subst hk8
      (try simp -dsimp (disch := omega) only [↓pre, sp, sp2, wp_some, Int.cast_ofNat_Int, Nat.reduceAdd, Nat.reduceMul, Nat.reduceSub, Nat.reduceLeDiff, Nat.reduceEqDiff, Nat.reducePow, Int.reduceToNat, Int.reducePow, Int.reduceAdd, Int.reduceSub, Int.reduceMul, Int.reduceLT, Int.reduceLE, Int.reduceEq, Int.reduceNeg, ei])
      exact hj (m - 1) _ _ (by omega) ⟨i + 1, by rw [crcL_take _ (by omega)], by omega, rfl⟩
  · (try simp -dsimp (disch := omega) only [↓pre, sp, sp2, wp_some, Int.cast_ofNat_Int, Nat.reduceAdd, Nat.reduceMul, Nat.reduceSub, Nat.reduceLeDiff, Nat.reduceEqDiff, Nat.reducePow, Int.reduceToNat, Int.reducePow, Int.reduceAdd, Int.reduceSub, Int.reduceMul, Int.reduceLT, Int.reduceLE, Int.reduceEq, Int.reduceNeg])
    have : l.take i = l := List.take_of_length_le (by omega)
    rw [this]
    rfl
end Go.Proofs.Ytpbkgmcpelhlpaa.AI
