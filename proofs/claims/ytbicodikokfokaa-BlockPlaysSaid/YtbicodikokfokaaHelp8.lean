/- Chapter 8's own helps: drawn, light; runghelp.Spoil. -/
import Derived.Test.YtbicodikokfokaaBlk
namespace Go.Proofs.Ytbicodikokfokaa.AI
open Go
set_option linter.unusedSimpArgs false
set_option linter.unusedVariables false
variable {ov : AOver} {h : AH} {v : AVal} {md : AMode}

/-- Bytes of a block's size. -/
def drawnM (b : List UInt8) (n : Nat) : List UInt8 := (List.range n).map fun i => if b.length = 0 then 0 else b.getD (i % b.length) 0 + UInt8.ofNat (i / b.length)
theorem drawnM_length (b : List UInt8) (n : Nat) : (drawnM b n).length = n := by simp [drawnM]
theorem add_u8 (x : UInt8) (k : Nat) : IntKind.wrap .u8 ((x.toNat : Int) + IntKind.wrap .u8 (k : Int)) = ((x + UInt8.ofNat k).toNat : Int) := by
  rw [IntKind.wrap_u8, IntKind.wrap_u8]
  simp [UInt8.toNat_add]
theorem drawn_spec (H : Plain ov) (n : Nat) (w : Wf h) {b : List UInt8} (s : Bs h v b md) {z : Nat} (hz : 0 < z ∧ z ≤ 4096) (hb : b.length ≤ 2 ^ 40) :
    Wp (kc ov (n + 1) N_runglaw8_drawn [v, .int .i64 z] h) fun r h' => Kp h h' ∧ Ob h' r (drawnM b z) ∧ Fresh h r := by
  rw [C_runglaw8_drawn H]; unfold F_runglaw8_drawn
  simp -dsimp (disch := omega) only [↓pre, sp, sp2, wp_some, Int.cast_ofNat_Int, Nat.reduceAdd, Nat.reduceMul, Nat.reduceSub, Nat.reduceLeDiff, Nat.reduceEqDiff, Nat.reducePow, Int.reduceToNat, Int.reducePow, Int.reduceAdd, Int.reduceSub, Int.reduceMul, Int.reduceLT, Int.reduceLE, Int.reduceEq, Int.reduceNeg]
  refine wp_makeSl w (by omega) (by omega) (by omega) (by omega) rfl (by omega) rfl fun q h1 hq k1 n1 g1 => ?_
  simp -dsimp (disch := omega) only [↓pre, sp, sp2, wp_some, Int.cast_ofNat_Int, Nat.reduceAdd, Nat.reduceMul, Nat.reduceSub, Nat.reduceLeDiff, Nat.reduceEqDiff, Nat.reducePow, Int.reduceToNat, Int.reducePow, Int.reduceAdd, Int.reduceSub, Int.reduceMul, Int.reduceLT, Int.reduceLE, Int.reduceEq, Int.reduceNeg]
  have o1 : Ow h1 (.slice (some (q, 0, 1)) z z) T_uint8 1 z (bytesOf (List.replicate z 0)) := by
    rw [Int.toNat_natCast, manyT_u8] at g1
    exact Ow.new g1 (by omega) z (by simp [bytesOf]) (isCell_bytes _)
  refine wp_loop (fun m l h2 => ∃ i : Nat, l = [.int .i64 i] ∧ i + m = z ∧ Kp h h2 ∧ Ow h2 (.slice (some (q, 0, 1)) z z) T_uint8 1 z (bytesOf ((drawnM b z).take i ++ List.replicate (z - i) 0))) z (by omega)
    ⟨0, rfl, by omega, k1, by simpa using o1⟩ ?_
  rintro m _ h2 j ⟨i, rfl, him, k2, o2⟩ hj
  have s2 := s.kp k2
  unfold L_runglaw8_drawn_0
  simp -dsimp (disch := omega) only [↓pre, sp, sp2, wp_some, Int.cast_ofNat_Int, Nat.reduceAdd, Nat.reduceMul, Nat.reduceSub, Nat.reduceLeDiff, Nat.reduceEqDiff, Nat.reducePow, Int.reduceToNat, Int.reducePow, Int.reduceAdd, Int.reduceSub, Int.reduceMul, Int.reduceLT, Int.reduceLE, Int.reduceEq, Int.reduceNeg]
  refine wp_kT (.bool (decide (i < z ∧ b.length > 0))) (fun j hj => ?_) ?_
  · by_cases c : (i : Int) < z
    · simp -dsimp (disch := omega) only [↓pre, sp, sp2, wp_some, Int.cast_ofNat_Int, Nat.reduceAdd, Nat.reduceMul, Nat.reduceSub, Nat.reduceLeDiff, Nat.reduceEqDiff, Nat.reducePow, Int.reduceToNat, Int.reducePow, Int.reduceAdd, Int.reduceSub, Int.reduceMul, Int.reduceLT, Int.reduceLE, Int.reduceEq, Int.reduceNeg, c, s2.len]
      have c' : i < z := by omega
      have e : ((b.length : Int) > 0) ↔ b.length > 0 := by omega
      simpa only [c', e, true_and] using hj
    · simp -dsimp (disch := omega) only [↓pre, sp, sp2, wp_some, Int.cast_ofNat_Int, Nat.reduceAdd, Nat.reduceMul, Nat.reduceSub, Nat.reduceLeDiff, Nat.reduceEqDiff, Nat.reducePow, Int.reduceToNat, Int.reducePow, Int.reduceAdd, Int.reduceSub, Int.reduceMul, Int.reduceLT, Int.reduceLE, Int.reduceEq, Int.reduceNeg, c]
      have c' : ¬ i < z := by omega
      simpa only [c', false_and, decide_false] using hj
  simp -dsimp (disch := omega) only [↓pre, sp, sp2, wp_some, Int.cast_ofNat_Int, Nat.reduceAdd, Nat.reduceMul, Nat.reduceSub, Nat.reduceLeDiff, Nat.reduceEqDiff, Nat.reducePow, Int.reduceToNat, Int.reducePow, Int.reduceAdd, Int.reduceSub, Int.reduceMul, Int.reduceLT, Int.reduceLE, Int.reduceEq, Int.reduceNeg]
  refine wp_ite (fun c => ?_) (fun c => ?_)
  · have hlen := drawnM_length b z
    have hm : i % b.length < b.length := Nat.mod_lt _ c.2
    have hdv : i / b.length ≤ i := Nat.div_le_self _ _
    have ew : IntKind.wrap .i64 ((i / b.length : Nat) : Int) = ((i / b.length : Nat) : Int) := by
      generalize i / b.length = d at hdv ⊢
      rw [wr_i64 (by omega) (by omega)]
    simp -dsimp (disch := omega) only [↓pre, sp, sp2, wp_some, Int.cast_ofNat_Int, Nat.reduceAdd, Nat.reduceMul, Nat.reduceSub, Nat.reduceLeDiff, Nat.reduceEqDiff, Nat.reducePow, Int.reduceToNat, Int.reducePow, Int.reduceAdd, Int.reduceSub, Int.reduceMul, Int.reduceLT, Int.reduceLE, Int.reduceEq, Int.reduceNeg, s2.len, s2.at, s2.ldb, (Ow.rd o2).at, ew]
    have ea : IntKind.wrap .u8 ((gb b (i % b.length) : Int) + IntKind.wrap .u8 ((i / b.length : Nat) : Int)) = (((drawnM b z).getD i 0).toNat : Int) := by
      have : (drawnM b z).getD i 0 = b.getD (i % b.length) 0 + UInt8.ofNat (i / b.length) := by
        simp [drawnM, List.getD, c.1, show b.length ≠ 0 by omega]
      rw [this]
      exact add_u8 _ _
    rw [ea]
    have hl2 : ((drawnM b z).take i ++ List.replicate (z - i) (0 : UInt8)).length = z := by rw [List.length_append, List.length_take, List.length_replicate]; omega
    refine wp_storeOw k2.w' o2 rfl rfl rfl (by rw [bytesOf_length, hl2]; omega) (by rw [bytesOf_length, hl2]; omega) rfl fun h3 o3 k3 n3 => ?_
    rw [splice_one _ _ _ (by rw [bytesOf_length, hl2]; omega), ← bytesOf_set] at o3
    have e1 : IntKind.wrap .i64 ((i : Int) + 1) = ((i + 1 : Nat) : Int) := by rw [wr_i64 (by omega) (by omega)]; omega
    simp -dsimp (disch := omega) only [↓pre, sp, sp2, wp_some, Int.cast_ofNat_Int, Nat.reduceAdd, Nat.reduceMul, Nat.reduceSub, Nat.reduceLeDiff, Nat.reduceEqDiff, Nat.reducePow, Int.reduceToNat, Int.reducePow, Int.reduceAdd, Int.reduceSub, Int.reduceMul, Int.reduceLT, Int.reduceLE, Int.reduceEq, Int.reduceNeg, e1]
    refine hj (m - 1) _ _ (by omega) ⟨i + 1, rfl, by omega, Ke.new_p k2 k3 (fun i hi => by simp only [isBk] at hi; omega), o3.to ?_ rfl⟩
    congr 1
    have hi : i < (drawnM b z).length := by omega
    rw [List.set_append_right _ _ (by rw [List.length_take]; omega), List.length_take, Nat.min_eq_left (by omega), Nat.sub_self, List.take_succ_eq_append_getElem hi, List.append_assoc]
    congr 1
    rw [show z - i = (z - (i + 1)) + 1 by omega, List.replicate_succ, List.set_cons_zero]
    simp [List.getD, hi]
  · simp -dsimp (disch := omega) only [↓pre, sp, sp2, wp_some, Int.cast_ofNat_Int, Nat.reduceAdd, Nat.reduceMul, Nat.reduceSub, Nat.reduceLeDiff, Nat.reduceEqDiff, Nat.reducePow, Int.reduceToNat, Int.reducePow, Int.reduceAdd, Int.reduceSub, Int.reduceMul, Int.reduceLT, Int.reduceLE, Int.reduceEq, Int.reduceNeg]
    refine ⟨k2, o2.to ?_ (drawnM_length b z).symm, fun i hi => by simp only [isBk] at hi; omega⟩
    congr 1
    have hlen := drawnM_length b z
    by_cases ci : i < z
    · have hb0 : b.length = 0 := by omega
      have : drawnM b z = List.replicate z 0 := by
        apply List.ext_getElem?
        intro k
        simp only [drawnM, hb0, if_true, List.getElem?_map, List.getElem?_replicate, List.getElem?_range]
        by_cases ck : k < z
        · simp [ck]
        · simp [ck]
      rw [this, List.take_replicate, Nat.min_eq_left (by omega), List.replicate_append_replicate]
      congr 1; omega
    · rw [List.take_of_length_le (by omega), show z - i = 0 by omega]; simp
/-- runghelp.Spoil: one's own bytes are written over. -/
theorem spoilh_spec (H : Plain ov) (n : Nat) (w : Wf h) {l : List UInt8} (o : Ow h v T_uint8 1 l.length (bytesOf l)) (hl : l.length ≤ 2 ^ 40) :
    Wp (kc ov (n + 1) N_runghelp_Spoil [v] h) fun r h' => r = .tuple [] ∧ Ke (isBk v) h h' := by
  rw [C_runghelp_Spoil H]; unfold F_runghelp_Spoil
  simp -dsimp (disch := omega) only [↓pre, sp, sp2, wp_some, Int.cast_ofNat_Int, Nat.reduceAdd, Nat.reduceMul, Nat.reduceSub, Nat.reduceLeDiff, Nat.reduceEqDiff, Nat.reducePow, Int.reduceToNat, Int.reducePow, Int.reduceAdd, Int.reduceSub, Int.reduceMul, Int.reduceLT, Int.reduceLE, Int.reduceEq, Int.reduceNeg]
  refine wp_loop (fun m x h2 => ∃ (i : Nat) (c : List UInt8), x = [.int .i64 i] ∧ i + m = l.length ∧ c.length = l.length ∧ Ke (isBk v) h h2 ∧ Ow h2 v T_uint8 1 c.length (bytesOf c)) l.length (by omega)
    ⟨0, l, rfl, by omega, rfl, Ke.refl w, o⟩ ?_
  rintro m _ h2 j ⟨i, c, rfl, him, hc, k2, o2⟩ hj
  have s2 := Ow.rd o2
  unfold L_runghelp_Spoil_0
  simp -dsimp (disch := omega) only [↓pre, sp, sp2, wp_some, Int.cast_ofNat_Int, Nat.reduceAdd, Nat.reduceMul, Nat.reduceSub, Nat.reduceLeDiff, Nat.reduceEqDiff, Nat.reducePow, Int.reduceToNat, Int.reducePow, Int.reduceAdd, Int.reduceSub, Int.reduceMul, Int.reduceLT, Int.reduceLE, Int.reduceEq, Int.reduceNeg, s2.len]
  refine wp_ite (fun c1 => ?_) (fun c1 => ?_)
  · simp -dsimp (disch := omega) only [↓pre, sp, sp2, wp_some, Int.cast_ofNat_Int, Nat.reduceAdd, Nat.reduceMul, Nat.reduceSub, Nat.reduceLeDiff, Nat.reduceEqDiff, Nat.reducePow, Int.reduceToNat, Int.reducePow, Int.reduceAdd, Int.reduceSub, Int.reduceMul, Int.reduceLT, Int.reduceLE, Int.reduceEq, Int.reduceNeg, s2.at, s2.ldb]
    have ex : iXor .u8 (gb c i : Int) 165 = ((c.getD i 0 ^^^ 165).toNat : Int) := xor_u8 (c.getD i 0) 165
    (try simp -dsimp (disch := omega) only [↓pre, sp, sp2, wp_some, Int.cast_ofNat_Int, Nat.reduceAdd, Nat.reduceMul, Nat.reduceSub, Nat.reduceLeDiff, Nat.reduceEqDiff, Nat.reducePow, Int.reduceToNat, Int.reducePow, Int.reduceAdd, Int.reduceSub, Int.reduceMul, Int.reduceLT, Int.reduceLE, Int.reduceEq, Int.reduceNeg, ex])
    refine wp_storeOw k2.w' o2 rfl rfl rfl (by rw [bytesOf_length]; omega) (by rw [bytesOf_length]; omega) rfl fun h3 o3 k3 n3 => ?_
    rw [splice_one _ _ _ (by rw [bytesOf_length]; omega), ← bytesOf_set] at o3
    have e1 : IntKind.wrap .i64 ((i : Int) + 1) = ((i + 1 : Nat) : Int) := by rw [wr_i64 (by omega) (by omega)]; omega
    simp -dsimp (disch := omega) only [↓pre, sp, sp2, wp_some, Int.cast_ofNat_Int, Nat.reduceAdd, Nat.reduceMul, Nat.reduceSub, Nat.reduceLeDiff, Nat.reduceEqDiff, Nat.reducePow, Int.reduceToNat, Int.reducePow, Int.reduceAdd, Int.reduceSub, Int.reduceMul, Int.reduceLT, Int.reduceLE, Int.reduceEq, Int.reduceNeg, e1]
    refine hj (m - 1) _ _ (by omega) ⟨i + 1, c.set i (c.getD i 0 ^^^ 165), rfl, by omega, by simpa using hc, k2.trans k3, o3.to rfl (by simp)⟩
  · simp -dsimp (disch := omega) only [↓pre, sp, sp2, wp_some, Int.cast_ofNat_Int, Nat.reduceAdd, Nat.reduceMul, Nat.reduceSub, Nat.reduceLeDiff, Nat.reduceEqDiff, Nat.reducePow, Int.reduceToNat, Int.reducePow, Int.reduceAdd, Int.reduceSub, Int.reduceMul, Int.reduceLT, Int.reduceLE, Int.reduceEq, Int.reduceNeg]
    exact k2
end Go.Proofs.Ytbicodikokfokaa.AI
