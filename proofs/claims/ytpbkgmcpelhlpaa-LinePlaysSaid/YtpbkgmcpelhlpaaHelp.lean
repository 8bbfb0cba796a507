/- Helps of the statements: what they come to. -/
import Derived.Test.YtpbkgmcpelhlpaaF
namespace Go.Proofs.Ytpbkgmcpelhlpaa.AI
open Go
set_option linter.unusedSimpArgs false
set_option linter.unusedVariables false
variable {ov : AOver} {h : AH} {v a b : AVal} {md md' : AMode}

/-- Bytes of its own. -/
abbrev Ob (h : AH) (v : AVal) (l : List UInt8) : Prop := Ow h v T_uint8 1 l.length (bytesOf l)
theorem Ob.bs {l : List UInt8} (o : Ob h v l) : Bs h v l .rw := Ow.rd o

theorem bytes_spec (H : Plain ov) (n : Nat) {x y : List UInt8} (ha : Bs h a x md) (hb : Bs h b y md') : kc ov (n + 1) N_runghelp_Bytes [a, b] h = some (.bool (decide (x = y)), h) := by
  rw [C_runghelp_Bytes H]
  (try simp -dsimp (disch := omega) only [↓pre, sp, sp2, wp_some, Int.cast_ofNat_Int, Nat.reduceAdd, Nat.reduceMul, Nat.reduceSub, Nat.reduceLeDiff, Nat.reduceEqDiff, Nat.reducePow, Int.reduceToNat, Int.reducePow, Int.reduceAdd, Int.reduceSub, Int.reduceMul, Int.reduceLT, Int.reduceLE, Int.reduceEq, Int.reduceNeg, F_runghelp_Bytes, ha.text, hb.text])

theorem copy_spec (H : Plain ov) (n : Nat) (w : Wf h) {l : List UInt8} (s : Bs h v l md) (hl : l.length ≤ 2 ^ 40) :
    Wp (kc ov (n + 1) N_runghelp_Copy [v] h) fun r h' => Kp h h' ∧ Ob h' r l ∧ Fresh h r := by
  rw [C_runghelp_Copy H]
  (try simp -dsimp (disch := omega) only [↓pre, sp, sp2, wp_some, Int.cast_ofNat_Int, Nat.reduceAdd, Nat.reduceMul, Nat.reduceSub, Nat.reduceLeDiff, Nat.reduceEqDiff, Nat.reducePow, Int.reduceToNat, Int.reducePow, Int.reduceAdd, Int.reduceSub, Int.reduceMul, Int.reduceLT, Int.reduceLE, Int.reduceEq, Int.reduceNeg, F_runghelp_Copy])
  refine wp_append w (Ow.nil h T_uint8 1 (by omega)) s (isCell_bytes l) (by omega) (by omega) fun v' h' o k f => ?_
  (try simp -dsimp (disch := omega) only [↓pre, sp, sp2, wp_some, Int.cast_ofNat_Int, Nat.reduceAdd, Nat.reduceMul, Nat.reduceSub, Nat.reduceLeDiff, Nat.reduceEqDiff, Nat.reducePow, Int.reduceToNat, Int.reducePow, Int.reduceAdd, Int.reduceSub, Int.reduceMul, Int.reduceLT, Int.reduceLE, Int.reduceEq, Int.reduceNeg])
  exact ⟨k.mono fun _ x => x.elim, by simpa using o, fun i hi => (f i hi).resolve_left id⟩

theorem place_spec (H : Plain ov) (n : Nat) {k : Int} {m : Nat} (hk : -9223372036854775808 ≤ k ∧ k < 9223372036854775808) (h0 : 0 < m) (h1 : m < 2 ^ 40) :
    ∃ i : Nat, i < m ∧ kc ov (n + 1) N_runghelp_Place [.int .i64 k, .int .i64 m] h = some (.int .i64 i, h) ∧ (i : Int) = k % m := by
  have hr : rBin .rem .no false (.int .i64 k) (.int .i64 m) = some (.int .i64 (k.tmod m)) := by
    have : (m : Int) ≠ 0 := by omega
    simp [rBin, aInt, this]
    omega
  have hlt : k.tmod m < m := Int.tmod_lt_of_pos k (by omega)
  have hgt : -(m : Int) < k.tmod m := by
    have := Int.tmod_lt_of_pos (-k) (b := (m : Int)) (by omega)
    rw [Int.neg_tmod] at this
    omega
  have hem : k % m = if k.tmod m < 0 then k.tmod m + m else k.tmod m := by
    have e1 := Int.mul_tdiv_add_tmod k m
    have key : ∀ x : Int, 0 ≤ x → x < m → (∃ q, k = m * q + x) → k % m = x := by
      rintro x hx hx' ⟨q, rfl⟩
      rw [Int.add_comm, Int.add_mul_emod_self_left, Int.emod_eq_of_lt hx hx']
    split
    · exact key _ (by omega) (by omega) ⟨k.tdiv m - 1, by rw [Int.mul_sub]; omega⟩
    · exact key _ (by omega) (by omega) ⟨k.tdiv m, by omega⟩
  rw [C_runghelp_Place H]
  by_cases c : k.tmod m < 0
  · refine ⟨(k.tmod m + m).toNat, by omega, ?_, by rw [hem, if_pos c]; omega⟩
    have e : IntKind.wrap .i64 (k.tmod m + m) = k.tmod m + m := wrap_i64 (by omega) (by omega)
    (try simp -dsimp (disch := omega) only [↓pre, sp, sp2, wp_some, Int.cast_ofNat_Int, Nat.reduceAdd, Nat.reduceMul, Nat.reduceSub, Nat.reduceLeDiff, Nat.reduceEqDiff, Nat.reducePow, Int.reduceToNat, Int.reducePow, Int.reduceAdd, Int.reduceSub, Int.reduceMul, Int.reduceLT, Int.reduceLE, Int.reduceEq, Int.reduceNeg, F_runghelp_Place, hr, c, if_true, e, kj_eq])
    rw [Int.toNat_of_nonneg (by omega)]
  · refine ⟨(k.tmod m).toNat, by omega, ?_, by rw [hem, if_neg c]; omega⟩
    (try simp -dsimp (disch := omega) only [↓pre, sp, sp2, wp_some, Int.cast_ofNat_Int, Nat.reduceAdd, Nat.reduceMul, Nat.reduceSub, Nat.reduceLeDiff, Nat.reduceEqDiff, Nat.reducePow, Int.reduceToNat, Int.reducePow, Int.reduceAdd, Int.reduceSub, Int.reduceMul, Int.reduceLT, Int.reduceLE, Int.reduceEq, Int.reduceNeg, F_runghelp_Place, hr, c, if_false, kj_eq])
    rw [Int.toNat_of_nonneg (by omega)]
/-- runghelp.Spoil: one's own bytes are written over. -/
theorem spoilh_spec (H : Plain ov) (n : Nat) (w : Wf h) {l : List UInt8} (o : Ow h v T_uint8 1 l.length (bytesOf l)) (hl : l.length ≤ 2 ^ 40) :
    Wp (kc ov (n + 1) N_runghelp_Spoil [v] h) fun r h' => r = .tuple [] ∧ Ke (isBk v) h h' := by
  rw [C_runghelp_Spoil H]; unfold F_runghelp_Spoil
  (try simp -dsimp (disch := omega) only [↓pre, sp, sp2, wp_some, Int.cast_ofNat_Int, Nat.reduceAdd, Nat.reduceMul, Nat.reduceSub, Nat.reduceLeDiff, Nat.reduceEqDiff, Nat.reducePow, Int.reduceToNat, Int.reducePow, Int.reduceAdd, Int.reduceSub, Int.reduceMul, Int.reduceLT, Int.reduceLE, Int.reduceEq, Int.reduceNeg])
  refine wp_loop (fun m x h2 => ∃ (i : Nat) (c : List UInt8), x = [.int .i64 i] ∧ i + m = l.length ∧ c.length = l.length ∧ Ke (isBk v) h h2 ∧ Ow h2 v T_uint8 1 c.length (bytesOf c)) l.length (by omega)
    ⟨0, l, rfl, by omega, rfl, Ke.refl w, o⟩ ?_
  rintro m _ h2 j ⟨i, c, rfl, him, hc, k2, o2⟩ hj
  have s2 := Ow.rd o2
  unfold L_runghelp_Spoil_0
  (try simp -dsimp (disch := omega) only [↓pre, sp, sp2, wp_some, Int.cast_ofNat_Int, Nat.reduceAdd, Nat.reduceMul, Nat.reduceSub, Nat.reduceLeDiff, Nat.reduceEqDiff, Nat.reducePow, Int.reduceToNat, Int.reducePow, Int.reduceAdd, Int.reduceSub, Int.reduceMul, Int.reduceLT, Int.reduceLE, Int.reduceEq, Int.reduceNeg, s2.len])
  refine wp_ite (fun c1 => ?_) (fun c1 => ?_)
  · (try simp -dsimp (disch := omega) only [↓pre, sp, sp2, wp_some, Int.cast_ofNat_Int, Nat.reduceAdd, Nat.reduceMul, Nat.reduceSub, Nat.reduceLeDiff, Nat.reduceEqDiff, Nat.reducePow, Int.reduceToNat, Int.reducePow, Int.reduceAdd, Int.reduceSub, Int.reduceMul, Int.reduceLT, Int.reduceLE, Int.reduceEq, Int.reduceNeg, s2.at, s2.ldb])
    have ex : iXor .u8 (gb c i : Int) 165 = ((c.getD i 0 ^^^ 165).toNat : Int) := xor_u8 (c.getD i 0) 165
    (try simp -dsimp (disch := omega) only [↓pre, sp, sp2, wp_some, Int.cast_ofNat_Int, Nat.reduceAdd, Nat.reduceMul, Nat.reduceSub, Nat.reduceLeDiff, Nat.reduceEqDiff, Nat.reducePow, Int.reduceToNat, Int.reducePow, Int.reduceAdd, Int.reduceSub, Int.reduceMul, Int.reduceLT, Int.reduceLE, Int.reduceEq, Int.reduceNeg, ex])
    refine wp_storeOw k2.w' o2 rfl rfl rfl (by rw [bytesOf_length]; omega) (by rw [bytesOf_length]; omega) rfl fun h3 o3 k3 n3 => ?_
    rw [splice_one _ _ _ (by rw [bytesOf_length]; omega), ← bytesOf_set] at o3
    have e1 : IntKind.wrap .i64 ((i : Int) + 1) = ((i + 1 : Nat) : Int) := by rw [wr_i64 (by omega) (by omega)]; omega
    (try simp -dsimp (disch := omega) only [↓pre, sp, sp2, wp_some, Int.cast_ofNat_Int, Nat.reduceAdd, Nat.reduceMul, Nat.reduceSub, Nat.reduceLeDiff, Nat.reduceEqDiff, Nat.reducePow, Int.reduceToNat, Int.reducePow, Int.reduceAdd, Int.reduceSub, Int.reduceMul, Int.reduceLT, Int.reduceLE, Int.reduceEq, Int.reduceNeg, e1])
    refine hj (m - 1) _ _ (by omega) ⟨i + 1, c.set i (c.getD i 0 ^^^ 165), rfl, by omega, by simpa using hc, k2.trans k3, o3.to rfl (by simp)⟩
  · (try simp -dsimp (disch := omega) only [↓pre, sp, sp2, wp_some, Int.cast_ofNat_Int, Nat.reduceAdd, Nat.reduceMul, Nat.reduceSub, Nat.reduceLeDiff, Nat.reduceEqDiff, Nat.reducePow, Int.reduceToNat, Int.reducePow, Int.reduceAdd, Int.reduceSub, Int.reduceMul, Int.reduceLT, Int.reduceLE, Int.reduceEq, Int.reduceNeg])
    exact k2
end Go.Proofs.Ytpbkgmcpelhlpaa.AI
