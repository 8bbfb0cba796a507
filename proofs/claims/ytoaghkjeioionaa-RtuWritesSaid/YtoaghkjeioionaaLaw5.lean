/- The statements of chapter 5: what their texts come to. -/
import Derived.Test.YtoaghkjeioionaaRtu
namespace Go.Proofs.Ytoaghkjeioionaa.AI
open Go
set_option linter.unusedSimpArgs false
set_option linter.unusedVariables false
variable {ov : AOver} {h : AH} {v a b : AVal} {md md' : AMode}

def knownAns : List AVal → AH → Ans := fun args h => match args with
  | [] => some (.bool true, h)
  | _ => none
structure Ov5 (ov : AOver) : Prop where
  p : Plain ov
  k : ov N_runglaw5_known = some knownAns
theorem known_spec (H : Ov5 ov) (n : Nat) : kc ov (n + 1) N_runglaw5_known [] h = some (.bool true, h) := by
  unfold kc; simp only [kcall, H.k]; rfl

theorem openR_write {x : UInt8} {l : List UInt8} (c : ¬ (l.length < 1 ∨ 253 < l.length)) : openR (x :: l ++ sumB (x :: l)) = (x, l, 0) := by
  have hl : (x :: l ++ sumB (x :: l)).length = l.length + 3 := by simp [sumB_len]
  have ht : (x :: l ++ sumB (x :: l)).take (l.length + 3 - 2) = x :: l := List.take_left' (by simp)
  unfold openR
  rw [hl, if_neg (by omega), ht, if_pos rfl]
  rfl

theorem rtuReads (H : Ov5 ov) (n : Nat) (w : Wf h) {l : List UInt8} (s : Bs h v l md) :
    Wp (kc ov (n + 5) N_runglaw5_RtuReads [v] h) fun r h' => r = .bool true := by
  rw [C_runglaw5_RtuReads H.p]; unfold F_runglaw5_RtuReads
  (try simp -dsimp (disch := omega) only [↓pre, sp, sp2, wp_some, Int.cast_ofNat_Int, Nat.reduceAdd, Nat.reduceMul, Nat.reduceSub, Nat.reduceLeDiff, Nat.reduceEqDiff, Nat.reducePow, Int.reduceToNat, Int.reducePow, Int.reduceAdd, Int.reduceSub, Int.reduceMul, Int.reduceLT, Int.reduceLE, Int.reduceEq, Int.reduceNeg, known_spec H, s.len])
  refine wp_ite (fun c => ?_) (fun c => ?_)
  · (try simp -dsimp (disch := omega) only [↓pre, sp, sp2, wp_some, Int.cast_ofNat_Int, Nat.reduceAdd, Nat.reduceMul, Nat.reduceSub, Nat.reduceLeDiff, Nat.reduceEqDiff, Nat.reducePow, Int.reduceToNat, Int.reducePow, Int.reduceAdd, Int.reduceSub, Int.reduceMul, Int.reduceLT, Int.reduceLE, Int.reduceEq, Int.reduceNeg])
  refine Wp.bind (ropen_spec H.p n w s) fun v4 h1 ⟨k1, p1, e1, s1⟩ => ?_
  subst e1
  (try simp -dsimp (disch := omega) only [↓pre, sp, sp2, wp_some, Int.cast_ofNat_Int, Nat.reduceAdd, Nat.reduceMul, Nat.reduceSub, Nat.reduceLeDiff, Nat.reduceEqDiff, Nat.reducePow, Int.reduceToNat, Int.reducePow, Int.reduceAdd, Int.reduceSub, Int.reduceMul, Int.reduceLT, Int.reduceLE, Int.reduceEq, Int.reduceNeg])
  refine Wp.bind (rref_open_spec H.p (n + 2) k1.w' (s.kp k1)) fun v5 h2 ⟨k2, p2, e2, s2⟩ => ?_
  subst e2
  have hb := fun n => bytes_spec H.p n (s1.kp k2) s2
  (try simp -dsimp (disch := omega) only [↓pre, sp, sp2, wp_some, Int.cast_ofNat_Int, Nat.reduceAdd, Nat.reduceMul, Nat.reduceSub, Nat.reduceLeDiff, Nat.reduceEqDiff, Nat.reducePow, Int.reduceToNat, Int.reducePow, Int.reduceAdd, Int.reduceSub, Int.reduceMul, Int.reduceLT, Int.reduceLE, Int.reduceEq, Int.reduceNeg, hb])
  have et : ∀ i : Int, decide (i = i) = true := fun i => decide_eq_true rfl
  first
    | (refine wp_kTh (fun v h3 => v = .bool true) (fun j hj => ?_) ?_
       · (try simp -dsimp (disch := omega) only [↓pre, sp, sp2, wp_some, Int.cast_ofNat_Int, Nat.reduceAdd, Nat.reduceMul, Nat.reduceSub, Nat.reduceLeDiff, Nat.reduceEqDiff, Nat.reducePow, Int.reduceToNat, Int.reducePow, Int.reduceAdd, Int.reduceSub, Int.reduceMul, Int.reduceLT, Int.reduceLE, Int.reduceEq, Int.reduceNeg, hb, et, and_self, decide_true])
         exact hj _ _ rfl
       · rintro v h3 rfl
         (try simp -dsimp (disch := omega) only [↓pre, sp, sp2, wp_some, Int.cast_ofNat_Int, Nat.reduceAdd, Nat.reduceMul, Nat.reduceSub, Nat.reduceLeDiff, Nat.reduceEqDiff, Nat.reducePow, Int.reduceToNat, Int.reducePow, Int.reduceAdd, Int.reduceSub, Int.reduceMul, Int.reduceLT, Int.reduceLE, Int.reduceEq, Int.reduceNeg]))
    | (try simp -dsimp (disch := omega) only [↓pre, sp, sp2, wp_some, Int.cast_ofNat_Int, Nat.reduceAdd, Nat.reduceMul, Nat.reduceSub, Nat.reduceLeDiff, Nat.reduceEqDiff, Nat.reducePow, Int.reduceToNat, Int.reducePow, Int.reduceAdd, Int.reduceSub, Int.reduceMul, Int.reduceLT, Int.reduceLE, Int.reduceEq, Int.reduceNeg, et, and_self, decide_true])

theorem rtuWrites (H : Ov5 ov) (n : Nat) (w : Wf h) {l : List UInt8} {x : UInt8} (s : Bs h v l md) :
    Wp (kc ov (n + 5) N_runglaw5_RtuWrites [.int .u8 x.toNat, v] h) fun r h' => r = .bool true := by
  rw [C_runglaw5_RtuWrites H.p]; unfold F_runglaw5_RtuWrites
  (try simp -dsimp (disch := omega) only [↓pre, sp, sp2, wp_some, Int.cast_ofNat_Int, Nat.reduceAdd, Nat.reduceMul, Nat.reduceSub, Nat.reduceLeDiff, Nat.reduceEqDiff, Nat.reducePow, Int.reduceToNat, Int.reducePow, Int.reduceAdd, Int.reduceSub, Int.reduceMul, Int.reduceLT, Int.reduceLE, Int.reduceEq, Int.reduceNeg, known_spec H, s.len])
  refine wp_ite (fun c => ?_) (fun c => ?_)
  · (try simp -dsimp (disch := omega) only [↓pre, sp, sp2, wp_some, Int.cast_ofNat_Int, Nat.reduceAdd, Nat.reduceMul, Nat.reduceSub, Nat.reduceLeDiff, Nat.reduceEqDiff, Nat.reducePow, Int.reduceToNat, Int.reducePow, Int.reduceAdd, Int.reduceSub, Int.reduceMul, Int.reduceLT, Int.reduceLE, Int.reduceEq, Int.reduceNeg])
  refine Wp.bind (rwrite_spec H.p n w s) fun v4 h1 ⟨k1, e1⟩ => ?_
  split at e1
  · rename_i c1
    subst e1
    (try simp -dsimp (disch := omega) only [↓pre, sp, sp2, wp_some, Int.cast_ofNat_Int, Nat.reduceAdd, Nat.reduceMul, Nat.reduceSub, Nat.reduceLeDiff, Nat.reduceEqDiff, Nat.reducePow, Int.reduceToNat, Int.reducePow, Int.reduceAdd, Int.reduceSub, Int.reduceMul, Int.reduceLT, Int.reduceLE, Int.reduceEq, Int.reduceNeg])
    refine Wp.bind (rref_write_spec H.p (n + 2) k1.w' (s.kp k1)) fun v5 h2 ⟨k2, e2⟩ => ?_
    rw [if_pos c1] at e2
    subst e2
    have hb := fun n => bytes_spec (h := h2) H.p n (x := []) (y := []) (Sz.nil h2 1 (by omega) .rw) (Sz.nil h2 1 (by omega) .rw)
    (try simp -dsimp (disch := omega) only [↓pre, sp, sp2, wp_some, Int.cast_ofNat_Int, Nat.reduceAdd, Nat.reduceMul, Nat.reduceSub, Nat.reduceLeDiff, Nat.reduceEqDiff, Nat.reducePow, Int.reduceToNat, Int.reducePow, Int.reduceAdd, Int.reduceSub, Int.reduceMul, Int.reduceLT, Int.reduceLE, Int.reduceEq, Int.reduceNeg, hb])
    refine wp_kT (.bool false) (fun j hj => ?_) ?_
    · (try simp -dsimp (disch := omega) only [↓pre, sp, sp2, wp_some, Int.cast_ofNat_Int, Nat.reduceAdd, Nat.reduceMul, Nat.reduceSub, Nat.reduceLeDiff, Nat.reduceEqDiff, Nat.reducePow, Int.reduceToNat, Int.reducePow, Int.reduceAdd, Int.reduceSub, Int.reduceMul, Int.reduceLT, Int.reduceLE, Int.reduceEq, Int.reduceNeg]); exact hj
    · (try simp -dsimp (disch := omega) only [↓pre, sp, sp2, wp_some, Int.cast_ofNat_Int, Nat.reduceAdd, Nat.reduceMul, Nat.reduceSub, Nat.reduceLeDiff, Nat.reduceEqDiff, Nat.reducePow, Int.reduceToNat, Int.reducePow, Int.reduceAdd, Int.reduceSub, Int.reduceMul, Int.reduceLT, Int.reduceLE, Int.reduceEq, Int.reduceNeg])
  · rename_i c1
    obtain ⟨v5, rfl, o5, f5⟩ := e1
    (try simp -dsimp (disch := omega) only [↓pre, sp, sp2, wp_some, Int.cast_ofNat_Int, Nat.reduceAdd, Nat.reduceMul, Nat.reduceSub, Nat.reduceLeDiff, Nat.reduceEqDiff, Nat.reducePow, Int.reduceToNat, Int.reducePow, Int.reduceAdd, Int.reduceSub, Int.reduceMul, Int.reduceLT, Int.reduceLE, Int.reduceEq, Int.reduceNeg])
    refine Wp.bind (rref_write_spec H.p (n + 2) k1.w' (s.kp k1)) fun v6 h2 ⟨k2, e2⟩ => ?_
    rw [if_neg c1] at e2
    obtain ⟨v7, rfl, o7, f7⟩ := e2
    have hb := fun n => bytes_spec H.p n (o5.kp k2).rd o7.rd
    (try simp -dsimp (disch := omega) only [↓pre, sp, sp2, wp_some, Int.cast_ofNat_Int, Nat.reduceAdd, Nat.reduceMul, Nat.reduceSub, Nat.reduceLeDiff, Nat.reduceEqDiff, Nat.reducePow, Int.reduceToNat, Int.reducePow, Int.reduceAdd, Int.reduceSub, Int.reduceMul, Int.reduceLT, Int.reduceLE, Int.reduceEq, Int.reduceNeg, hb])
    refine wp_kT (.bool false) (fun j hj => ?_) ?_
    · (try simp -dsimp (disch := omega) only [↓pre, sp, sp2, wp_some, Int.cast_ofNat_Int, Nat.reduceAdd, Nat.reduceMul, Nat.reduceSub, Nat.reduceLeDiff, Nat.reduceEqDiff, Nat.reducePow, Int.reduceToNat, Int.reducePow, Int.reduceAdd, Int.reduceSub, Int.reduceMul, Int.reduceLT, Int.reduceLE, Int.reduceEq, Int.reduceNeg]); exact hj
    (try simp -dsimp (disch := omega) only [↓pre, sp, sp2, wp_some, Int.cast_ofNat_Int, Nat.reduceAdd, Nat.reduceMul, Nat.reduceSub, Nat.reduceLeDiff, Nat.reduceEqDiff, Nat.reducePow, Int.reduceToNat, Int.reducePow, Int.reduceAdd, Int.reduceSub, Int.reduceMul, Int.reduceLT, Int.reduceLE, Int.reduceEq, Int.reduceNeg])
    refine Wp.bind (ropen_spec H.p n k2.w' (o5.kp k2).rd) fun v8 h3 ⟨k3, p3, e3, s3⟩ => ?_
    rw [openR_write c1] at e3 s3
    subst e3
    have hb3 := fun n => bytes_spec H.p n s3 (s.kp ((k1.trans k2).trans k3))
    (try simp -dsimp (disch := omega) only [↓pre, sp, sp2, wp_some, Int.cast_ofNat_Int, Nat.reduceAdd, Nat.reduceMul, Nat.reduceSub, Nat.reduceLeDiff, Nat.reduceEqDiff, Nat.reducePow, Int.reduceToNat, Int.reducePow, Int.reduceAdd, Int.reduceSub, Int.reduceMul, Int.reduceLT, Int.reduceLE, Int.reduceEq, Int.reduceNeg, hb3])
    have et : ∀ i : Int, decide (i = i) = true := fun i => decide_eq_true rfl
    first
      | (refine wp_kTh (fun v h3 => v = .bool true) (fun j hj => ?_) ?_
         · (try simp -dsimp (disch := omega) only [↓pre, sp, sp2, wp_some, Int.cast_ofNat_Int, Nat.reduceAdd, Nat.reduceMul, Nat.reduceSub, Nat.reduceLeDiff, Nat.reduceEqDiff, Nat.reducePow, Int.reduceToNat, Int.reducePow, Int.reduceAdd, Int.reduceSub, Int.reduceMul, Int.reduceLT, Int.reduceLE, Int.reduceEq, Int.reduceNeg, hb3, et, and_self, decide_true])
           exact hj _ _ rfl
         · rintro v h3 rfl
           (try simp -dsimp (disch := omega) only [↓pre, sp, sp2, wp_some, Int.cast_ofNat_Int, Nat.reduceAdd, Nat.reduceMul, Nat.reduceSub, Nat.reduceLeDiff, Nat.reduceEqDiff, Nat.reducePow, Int.reduceToNat, Int.reducePow, Int.reduceAdd, Int.reduceSub, Int.reduceMul, Int.reduceLT, Int.reduceLE, Int.reduceEq, Int.reduceNeg]))
      | (try simp -dsimp (disch := omega) only [↓pre, sp, sp2, wp_some, Int.cast_ofNat_Int, Nat.reduceAdd, Nat.reduceMul, Nat.reduceSub, Nat.reduceLeDiff, Nat.reduceEqDiff, Nat.reducePow, Int.reduceToNat, Int.reducePow, Int.reduceAdd, Int.reduceSub, Int.reduceMul, Int.reduceLT, Int.reduceLE, Int.reduceEq, Int.reduceNeg, et, and_self, decide_true])

theorem rtuTells (H : Ov5 ov) (n : Nat) (w : Wf h) {l : List UInt8} {x : UInt8} {k : Int} {e : BitVec 16} (hk : -9223372036854775808 ≤ k ∧ k < 9223372036854775808) (s : Bs h v l md) :
    Wp (kc ov (n + 5) N_runglaw5_RtuTells [.int .u8 x.toNat, v, .int .i64 k, .int .u16 e.toNat] h) fun r h' => r = .bool true := by
  rw [C_runglaw5_RtuTells H.p]; unfold F_runglaw5_RtuTells
  (try simp -dsimp (disch := omega) only [↓pre, sp, sp2, wp_some, Int.cast_ofNat_Int, Nat.reduceAdd, Nat.reduceMul, Nat.reduceSub, Nat.reduceLeDiff, Nat.reduceEqDiff, Nat.reducePow, Int.reduceToNat, Int.reducePow, Int.reduceAdd, Int.reduceSub, Int.reduceMul, Int.reduceLT, Int.reduceLE, Int.reduceEq, Int.reduceNeg, known_spec H, s.len])
  refine wp_kT (.bool (decide (l.length > 253 ∨ l.length < 1 ∨ e = 0#16))) (fun j hj => ?_) ?_
  · by_cases c : (l.length : Int) > 253
    · (try simp -dsimp (disch := omega) only [↓pre, sp, sp2, wp_some, Int.cast_ofNat_Int, Nat.reduceAdd, Nat.reduceMul, Nat.reduceSub, Nat.reduceLeDiff, Nat.reduceEqDiff, Nat.reducePow, Int.reduceToNat, Int.reducePow, Int.reduceAdd, Int.reduceSub, Int.reduceMul, Int.reduceLT, Int.reduceLE, Int.reduceEq, Int.reduceNeg, c, decide_true]); simpa [show l.length > 253 by omega] using hj
    · by_cases c2 : (l.length : Int) < 1
      · (try simp -dsimp (disch := omega) only [↓pre, sp, sp2, wp_some, Int.cast_ofNat_Int, Nat.reduceAdd, Nat.reduceMul, Nat.reduceSub, Nat.reduceLeDiff, Nat.reduceEqDiff, Nat.reducePow, Int.reduceToNat, Int.reducePow, Int.reduceAdd, Int.reduceSub, Int.reduceMul, Int.reduceLT, Int.reduceLE, Int.reduceEq, Int.reduceNeg, c, c2, decide_true, decide_false, s.len]); simpa [show l.length < 1 by omega] using hj
      · (try simp -dsimp (disch := omega) only [↓pre, sp, sp2, wp_some, Int.cast_ofNat_Int, Nat.reduceAdd, Nat.reduceMul, Nat.reduceSub, Nat.reduceLeDiff, Nat.reduceEqDiff, Nat.reducePow, Int.reduceToNat, Int.reducePow, Int.reduceAdd, Int.reduceSub, Int.reduceMul, Int.reduceLT, Int.reduceLE, Int.reduceEq, Int.reduceNeg, c, c2, decide_false, s.len])
        have e1 : ((e.toNat : Int) = 0) ↔ e = 0#16 := ⟨fun hh => BitVec.eq_of_toNat_eq (by simpa using hh), fun hh => by rw [hh]; rfl⟩
        simpa only [e1, show ¬ l.length > 253 by omega, show ¬ l.length < 1 by omega, false_or] using hj
  (try simp -dsimp (disch := omega) only [↓pre, sp, sp2, wp_some, Int.cast_ofNat_Int, Nat.reduceAdd, Nat.reduceMul, Nat.reduceSub, Nat.reduceLeDiff, Nat.reduceEqDiff, Nat.reducePow, Int.reduceToNat, Int.reducePow, Int.reduceAdd, Int.reduceSub, Int.reduceMul, Int.reduceLT, Int.reduceLE, Int.reduceEq, Int.reduceNeg])
  refine wp_ite (fun c => ?_) (fun c => ?_)
  · (try simp -dsimp (disch := omega) only [↓pre, sp, sp2, wp_some, Int.cast_ofNat_Int, Nat.reduceAdd, Nat.reduceMul, Nat.reduceSub, Nat.reduceLeDiff, Nat.reduceEqDiff, Nat.reducePow, Int.reduceToNat, Int.reducePow, Int.reduceAdd, Int.reduceSub, Int.reduceMul, Int.reduceLT, Int.reduceLE, Int.reduceEq, Int.reduceNeg])
  have he : e ≠ 0#16 := fun hh => c (.inr (.inr hh))
  (try simp -dsimp (disch := omega) only [↓pre, sp, sp2, wp_some, Int.cast_ofNat_Int, Nat.reduceAdd, Nat.reduceMul, Nat.reduceSub, Nat.reduceLeDiff, Nat.reduceEqDiff, Nat.reducePow, Int.reduceToNat, Int.reducePow, Int.reduceAdd, Int.reduceSub, Int.reduceMul, Int.reduceLT, Int.reduceLE, Int.reduceEq, Int.reduceNeg])
  refine Wp.bind (rwrite_spec H.p n w s) fun v4 h1 ⟨k1, e1⟩ => ?_
  rw [if_neg (by omega)] at e1
  obtain ⟨v5, rfl, o5, f5⟩ := e1
  have hB : (x :: l ++ sumB (x :: l)).length = l.length + 3 := by simp [sumB_len]
  have hl5 : rLen v5 = some (.int .i64 ((l.length + 3 : Nat) : Int)) := by rw [o5.rd.len, hB]
  (try simp -dsimp (disch := omega) only [↓pre, sp, sp2, wp_some, Int.cast_ofNat_Int, Nat.reduceAdd, Nat.reduceMul, Nat.reduceSub, Nat.reduceLeDiff, Nat.reduceEqDiff, Nat.reducePow, Int.reduceToNat, Int.reducePow, Int.reduceAdd, Int.reduceSub, Int.reduceMul, Int.reduceLT, Int.reduceLE, Int.reduceEq, Int.reduceNeg])
  refine wp_kT (.bool false) (fun j hj => ?_) ?_
  · have e2 : ((l.length + 3 : Nat) : Int) = (l.length : Int) + 3 := by omega
    (try simp -dsimp (disch := omega) only [↓pre, sp, sp2, wp_some, Int.cast_ofNat_Int, Nat.reduceAdd, Nat.reduceMul, Nat.reduceSub, Nat.reduceLeDiff, Nat.reduceEqDiff, Nat.reducePow, Int.reduceToNat, Int.reducePow, Int.reduceAdd, Int.reduceSub, Int.reduceMul, Int.reduceLT, Int.reduceLE, Int.reduceEq, Int.reduceNeg, hl5, s.len, e2, decide_true])
    simpa [hl5, s.len] using hj
  have em : (8 : Int) * (((l.length + 3 : Nat) : Int) - 4) + 1 = ((8 * (l.length - 1) + 1 : Nat) : Int) := by omega
  have e4 : IntKind.wrap .i64 (((l.length + 3 : Nat) : Int) - 4) = ((l.length + 3 : Nat) : Int) - 4 := wr_i64 (by omega) (by omega)
  have e5 : IntKind.wrap .i64 ((8 : Int) * (((l.length + 3 : Nat) : Int) - 4)) = (8 : Int) * (((l.length + 3 : Nat) : Int) - 4) := wr_i64 (by omega) (by omega)
  have e6 : IntKind.wrap .i64 ((8 : Int) * (((l.length + 3 : Nat) : Int) - 4) + 1) = ((8 * (l.length - 1) + 1 : Nat) : Int) := by rw [wr_i64 (by omega) (by omega)]; omega
  obtain ⟨at_, hat, e7, _⟩ := place_spec (h := h1) H.p (n + 3) hk (m := 8 * (l.length - 1) + 1) (by omega) (by omega)
  (try simp -dsimp (disch := omega) only [↓pre, sp, sp2, wp_some, Int.cast_ofNat_Int, Nat.reduceAdd, Nat.reduceMul, Nat.reduceSub, Nat.reduceLeDiff, Nat.reduceEqDiff, Nat.reducePow, Int.reduceToNat, Int.reducePow, Int.reduceAdd, Int.reduceSub, Int.reduceMul, Int.reduceLT, Int.reduceLE, Int.reduceEq, Int.reduceNeg, hl5, e4, e5, e6, em, e7])
  refine wp_loop (fun m y h2 => ∃ (i : Nat) (cc : List UInt8), y = [.int .i64 i] ∧ i + m = 16 ∧ Wf h2 ∧ Ow h2 v5 T_uint8 1 cc.length (bytesOf cc) ∧ Turned (x :: l ++ sumB (x :: l)) cc at_ i e) 16 (by omega) ⟨0, _, rfl, by omega, k1.w', o5, Turned.zero _ _ _⟩ ?_
  rintro m _ h2 j ⟨i, cc, rfl, him, w2, o2, t2⟩ hj
  have hcl : cc.length = l.length + 3 := by rw [t2.1, hB]
  have s2 := Ow.rd o2
  unfold L_runglaw5_RtuTells_0
  have hsb := shr_bit e i
  (try simp -dsimp (disch := omega) only [↓pre, sp, sp2, wp_some, Int.cast_ofNat_Int, Nat.reduceAdd, Nat.reduceMul, Nat.reduceSub, Nat.reduceLeDiff, Nat.reduceEqDiff, Nat.reducePow, Int.reduceToNat, Int.reducePow, Int.reduceAdd, Int.reduceSub, Int.reduceMul, Int.reduceLT, Int.reduceLE, Int.reduceEq, Int.reduceNeg, hsb])
  refine wp_ite (fun c1 => ?_) (fun c1 => ?_)
  · have hi : i < 16 := by omega
    refine wp_kJ (fun y h3 => ∃ cc', Wf h3 ∧ Ow h3 v5 T_uint8 1 cc'.length (bytesOf cc') ∧ Turned (x :: l ++ sumB (x :: l)) cc' at_ (i + 1) e) (fun j2 hj2 => ?_) ?_
    · rw [bv_toNat]
      cases hb : e.getLsbD i with
      | true =>
        have ea : (at_ : Int) + i = ((at_ + i : Nat) : Int) := by omega
        have eq8 : Int.tdiv ((at_ + i : Nat) : Int) 8 = (((at_ + i) / 8 : Nat) : Int) := (Int.ofNat_tdiv (at_ + i) 8).symm
        have er8 : Int.tmod ((at_ + i : Nat) : Int) 8 = (((at_ + i) % 8 : Nat) : Int) := (Int.ofNat_tmod (at_ + i) 8).symm
        have eb := shl_bit8 (k := (at_ + i) % 8) (by omega)
        have ex : iXor .u8 (gb cc ((at_ + i) / 8) : Int) ((bit8 ((at_ + i) % 8)).toNat : Int) = ((cc.getD ((at_ + i) / 8) 0 ^^^ bit8 ((at_ + i) % 8)).toNat : Int) := xor_u8 _ _
        have d1 : (0 : Int) ≤ (((at_ + i) / 8 : Nat) : Int) := by omega
        have ew : IntKind.wrap .i64 (((at_ + i) / 8 : Nat) : Int) = (((at_ + i) / 8 : Nat) : Int) := wr_i64 (by omega) (by omega)
        simp only [if_true]
        (try simp -dsimp (disch := omega) only [↓pre, sp, sp2, wp_some, Int.cast_ofNat_Int, Nat.reduceAdd, Nat.reduceMul, Nat.reduceSub, Nat.reduceLeDiff, Nat.reduceEqDiff, Nat.reducePow, Int.reduceToNat, Int.reducePow, Int.reduceAdd, Int.reduceSub, Int.reduceMul, Int.reduceLT, Int.reduceLE, Int.reduceEq, Int.reduceNeg, decide_true, ea, eq8, er8, ew, s2.at, s2.ldb, eb, ex])
        refine wp_storeOw w2 o2 rfl rfl rfl (by rw [bytesOf_length]; omega) (by rw [bytesOf_length]; omega) rfl fun h3 o3 k3 n3 => ?_
        rw [splice_one _ _ _ (by rw [bytesOf_length]; omega), ← bytesOf_set] at o3
        (try simp -dsimp (disch := omega) only [↓pre, sp, sp2, wp_some, Int.cast_ofNat_Int, Nat.reduceAdd, Nat.reduceMul, Nat.reduceSub, Nat.reduceLeDiff, Nat.reduceEqDiff, Nat.reducePow, Int.reduceToNat, Int.reducePow, Int.reduceAdd, Int.reduceSub, Int.reduceMul, Int.reduceLT, Int.reduceLE, Int.reduceEq, Int.reduceNeg])
        exact hj2 _ _ ⟨_, k3.w', o3.to rfl (by rw [List.length_set]), t2.on hb (by omega)⟩
      | false =>
        have hne : ¬ ((0 : Int) = 1) := by omega
        simp only [Bool.false_eq_true, if_false, hne, decide_false]
        (try simp -dsimp (disch := omega) only [↓pre, sp, sp2, wp_some, Int.cast_ofNat_Int, Nat.reduceAdd, Nat.reduceMul, Nat.reduceSub, Nat.reduceLeDiff, Nat.reduceEqDiff, Nat.reducePow, Int.reduceToNat, Int.reducePow, Int.reduceAdd, Int.reduceSub, Int.reduceMul, Int.reduceLT, Int.reduceLE, Int.reduceEq, Int.reduceNeg])
        exact hj2 _ _ ⟨cc, w2, o2, t2.off hb⟩
    · rintro _ h3 ⟨cc', w3, o3, t3⟩
      have ei : ((i : Int) + 1) = ((i + 1 : Nat) : Int) := by omega
      (try simp -dsimp (disch := omega) only [↓pre, sp, sp2, wp_some, Int.cast_ofNat_Int, Nat.reduceAdd, Nat.reduceMul, Nat.reduceSub, Nat.reduceLeDiff, Nat.reduceEqDiff, Nat.reducePow, Int.reduceToNat, Int.reducePow, Int.reduceAdd, Int.reduceSub, Int.reduceMul, Int.reduceLT, Int.reduceLE, Int.reduceEq, Int.reduceNeg, ei])
      exact hj (m - 1) _ _ (by omega) ⟨i + 1, cc', rfl, by omega, w3, o3, t3⟩
  · have hi : i = 16 := by omega
    subst hi
    have hfr := t2.frame he (by rw [List.length_cons]; omega)
    have ho : openR cc = (0, [], 50) := by unfold openR; rw [if_neg (by omega), if_neg hfr]
    (try simp -dsimp (disch := omega) only [↓pre, sp, sp2, wp_some, Int.cast_ofNat_Int, Nat.reduceAdd, Nat.reduceMul, Nat.reduceSub, Nat.reduceLeDiff, Nat.reduceEqDiff, Nat.reducePow, Int.reduceToNat, Int.reducePow, Int.reduceAdd, Int.reduceSub, Int.reduceMul, Int.reduceLT, Int.reduceLE, Int.reduceEq, Int.reduceNeg])
    refine Wp.bind (ropen_spec H.p n w2 s2) fun v8 h3 ⟨k3, p3, e3, s3⟩ => ?_
    rw [ho] at e3
    subst e3
    (try simp -dsimp (disch := omega) only [↓pre, sp, sp2, wp_some, Int.cast_ofNat_Int, Nat.reduceAdd, Nat.reduceMul, Nat.reduceSub, Nat.reduceLeDiff, Nat.reduceEqDiff, Nat.reducePow, Int.reduceToNat, Int.reducePow, Int.reduceAdd, Int.reduceSub, Int.reduceMul, Int.reduceLT, Int.reduceLE, Int.reduceEq, Int.reduceNeg])
end Go.Proofs.Ytoaghkjeioionaa.AI
