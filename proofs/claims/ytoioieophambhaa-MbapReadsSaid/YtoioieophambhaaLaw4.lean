/- The statements of chapter 4: what their texts come to. -/
import Derived.Test.YtoioieophambhaaFrame
namespace Go.Proofs.Ytoioieophambhaa.AI
open Go
set_option linter.unusedSimpArgs false
set_option linter.unusedVariables false
variable {ov : AOver} {h : AH} {v a b : AVal} {md md' : AMode}

def knownAns : List AVal → AH → Ans := fun args h => match args with
  | [] => some (.bool true, h)
  | _ => none
structure Ov4 (ov : AOver) : Prop where
  p : Plain ov
  k : ov N_runglaw4_known = some knownAns
theorem known_spec (H : Ov4 ov) (n : Nat) : kc ov (n + 1) N_runglaw4_known [] h = some (.bool true, h) := by
  unfold kc; simp only [kcall, H.k]; rfl

theorem openM_len (l : List UInt8) : (openM l).1 < 65536 ∧ (openM l).2.1 < 256 ∧ (openM l).2.2.1.length ≤ l.length := by
  have h0 := gb_lt l 0; have h1 := gb_lt l 1; have h6 := gb_lt l 6
  unfold openM
  repeat' split
  all_goals simp
  all_goals omega

theorem mbapReads (H : Ov4 ov) (n : Nat) (w : Wf h) {l : List UInt8} (s : Bs h v l md) :
    Wp (kc ov (n + 3) N_runglaw4_MbapReads [v] h) fun r h' => r = .bool true := by
  rw [C_runglaw4_MbapReads H.p]; unfold F_runglaw4_MbapReads
  simp -dsimp (disch := omega) only [↓pre, sp, wp_some, Int.cast_ofNat_Int, Nat.reduceAdd, Nat.reduceMul, Nat.reduceSub, Nat.reduceLeDiff, Nat.reduceEqDiff, Nat.reducePow, Int.reduceToNat, Int.reducePow, Int.reduceAdd, Int.reduceSub, Int.reduceMul, Int.reduceLT, Int.reduceLE, Int.reduceEq, Int.reduceNeg, known_spec H, s.len]
  refine wp_ite (fun c => ?_) (fun c => ?_)
  · simp -dsimp (disch := omega) only [↓pre, sp, wp_some, Int.cast_ofNat_Int, Nat.reduceAdd, Nat.reduceMul, Nat.reduceSub, Nat.reduceLeDiff, Nat.reduceEqDiff, Nat.reducePow, Int.reduceToNat, Int.reducePow, Int.reduceAdd, Int.reduceSub, Int.reduceMul, Int.reduceLT, Int.reduceLE, Int.reduceEq, Int.reduceNeg]
  refine Wp.bind (copy_spec H.p _ w s (by omega)) fun v4 h1 ⟨k1, o1, f1⟩ => ?_
  refine Wp.bind (open_spec H.p _ k1.w' o1.bs (by omega)) fun v5 h2 ⟨k2, p2, e2, s2⟩ => ?_
  subst e2
  simp -dsimp (disch := omega) only [↓pre, sp, wp_some, Int.cast_ofNat_Int, Nat.reduceAdd, Nat.reduceMul, Nat.reduceSub, Nat.reduceLeDiff, Nat.reduceEqDiff, Nat.reducePow, Int.reduceToNat, Int.reducePow, Int.reduceAdd, Int.reduceSub, Int.reduceMul, Int.reduceLT, Int.reduceLE, Int.reduceEq, Int.reduceNeg]
  refine wp_box k2.w' rfl rfl fun p h3 hp k3 n3 g3 => ?_
  simp -dsimp (disch := omega) only [↓pre, sp, wp_some, Int.cast_ofNat_Int, Nat.reduceAdd, Nat.reduceMul, Nat.reduceSub, Nat.reduceLeDiff, Nat.reduceEqDiff, Nat.reducePow, Int.reduceToNat, Int.reducePow, Int.reduceAdd, Int.reduceSub, Int.reduceMul, Int.reduceLT, Int.reduceLE, Int.reduceEq, Int.reduceNeg]
  refine wp_store k3.w' g3 rfl rfl (by decide) (by simp only [ic, s2.isCell]) fun h4 k4 n4 g4 => ?_
  have K4 : Kp h2 h4 := Ke.new_p k3 k4 fun i hi => by omega
  have K : Kp h h4 := (k1.trans k2).trans K4
  refine Wp.bind (openMbap_spec H.p _ k4.w' (s.kp K) (by omega)) fun v11 h5 ⟨k5, q5, e5, s5⟩ => ?_
  subst e5
  simp -dsimp (disch := omega) only [↓pre, sp, wp_some, Int.cast_ofNat_Int, Nat.reduceAdd, Nat.reduceMul, Nat.reduceSub, Nat.reduceLeDiff, Nat.reduceEqDiff, Nat.reducePow, Int.reduceToNat, Int.reducePow, Int.reduceAdd, Int.reduceSub, Int.reduceMul, Int.reduceLT, Int.reduceLE, Int.reduceEq, Int.reduceNeg]
  refine wp_box k5.w' rfl rfl fun q h6 hq k6 n6 g6 => ?_
  simp -dsimp (disch := omega) only [↓pre, sp, wp_some, Int.cast_ofNat_Int, Nat.reduceAdd, Nat.reduceMul, Nat.reduceSub, Nat.reduceLeDiff, Nat.reduceEqDiff, Nat.reducePow, Int.reduceToNat, Int.reducePow, Int.reduceAdd, Int.reduceSub, Int.reduceMul, Int.reduceLT, Int.reduceLE, Int.reduceEq, Int.reduceNeg]
  refine wp_store k6.w' g6 rfl rfl (by decide) (by simp only [ic, s5.isCell]) fun h7 k7 n7 g7 => ?_
  have K7 : Kp h5 h7 := Ke.new_p k6 k7 fun i hi => by omega
  have K47 : Kp h4 h7 := k5.trans K7
  have g4' := K47.gt g4
  have sp2 := s2.kp (K4.trans K47)
  have sp5 := s5.kp K7
  have so1 := (o1.bs).kp (k2.trans (K4.trans K47))
  have sv := s.kp (K.trans K47)
  simp -dsimp (disch := omega) only [↓pre, sp, wp_some, Int.cast_ofNat_Int, Nat.reduceAdd, Nat.reduceMul, Nat.reduceSub, Nat.reduceLeDiff, Nat.reduceEqDiff, Nat.reducePow, Int.reduceToNat, Int.reducePow, Int.reduceAdd, Int.reduceSub, Int.reduceMul, Int.reduceLT, Int.reduceLE, Int.reduceEq, Int.reduceNeg]
  refine wp_kTh (fun v _ => v = .bool true) (fun j hj => ?_) ?_
  · simp -dsimp (disch := omega) only [↓pre, sp, wp_some, Int.cast_ofNat_Int, Nat.reduceAdd, Nat.reduceMul, Nat.reduceSub, Nat.reduceLeDiff, Nat.reduceEqDiff, Nat.reducePow, Int.reduceToNat, Int.reducePow, Int.reduceAdd, Int.reduceSub, Int.reduceMul, Int.reduceLT, Int.reduceLE, Int.reduceEq, Int.reduceNeg, row_rw g4', row_rw g7, splice_def]
    refine Wp.bind (frame_spec H.p _ k7.w' sp2 sp5) fun v25 h8 ⟨k8, e8⟩ => ?_
    subst e8
    have hb := fun n => bytes_spec H.p n (so1.kp k8) (sv.kp k8)
    simp -dsimp (disch := omega) only [↓pre, sp, wp_some, Int.cast_ofNat_Int, Nat.reduceAdd, Nat.reduceMul, Nat.reduceSub, Nat.reduceLeDiff, Nat.reduceEqDiff, Nat.reducePow, Int.reduceToNat, Int.reducePow, Int.reduceAdd, Int.reduceSub, Int.reduceMul, Int.reduceLT, Int.reduceLE, Int.reduceEq, Int.reduceNeg, hb, and_self, decide_true]
    exact hj _ _ rfl
  · rintro v h3 rfl
    simp -dsimp (disch := omega) only [↓pre, sp, wp_some, Int.cast_ofNat_Int, Nat.reduceAdd, Nat.reduceMul, Nat.reduceSub, Nat.reduceLeDiff, Nat.reduceEqDiff, Nat.reducePow, Int.reduceToNat, Int.reducePow, Int.reduceAdd, Int.reduceSub, Int.reduceMul, Int.reduceLT, Int.reduceLE, Int.reduceEq, Int.reduceNeg]

/-- A frame's bytes open as the frame, whatever stands behind them. -/
theorem openM_head {id un : Nat} (hid : id < 65536) (hun : un < 256) {l m : List UInt8} (h1 : ¬ (l.length < 1 ∨ 253 < l.length)) : openM (headOf id un (l.length + 1) ++ l ++ m) = (id, un, l, l.length + 7, 0) := by
  have e0 : gb (headOf id un (l.length + 1) ++ l ++ m) 0 = id / 256 := by simp [gb, headOf]; omega
  have e1 : gb (headOf id un (l.length + 1) ++ l ++ m) 1 = id % 256 := by simp [gb, headOf]
  have e2 : gb (headOf id un (l.length + 1) ++ l ++ m) 2 = 0 := by simp [gb, headOf]
  have e3 : gb (headOf id un (l.length + 1) ++ l ++ m) 3 = 0 := by simp [gb, headOf]
  have e4 : gb (headOf id un (l.length + 1) ++ l ++ m) 4 = (l.length + 1) / 256 := by simp [gb, headOf]; omega
  have e5 : gb (headOf id un (l.length + 1) ++ l ++ m) 5 = (l.length + 1) % 256 := by simp [gb, headOf]
  have e6 : gb (headOf id un (l.length + 1) ++ l ++ m) 6 = un := by simp [gb, headOf]; omega
  have el : (headOf id un (l.length + 1) ++ l ++ m).length = 7 + l.length + m.length := by simp [headOf]; omega
  unfold openM
  rw [e0, e1, e2, e3, e4, e5, e6, el, if_neg (by omega), if_neg (by omega), if_neg (by omega), if_neg (by omega)]
  have ed : (List.take (6 + ((l.length + 1) / 256 * 256 + (l.length + 1) % 256)) (headOf id un (l.length + 1) ++ l ++ m)).drop 7 = l := by
    rw [show 6 + ((l.length + 1) / 256 * 256 + (l.length + 1) % 256) = (headOf id un (l.length + 1) ++ l).length by simp [headOf]; omega, List.take_left,
      show 7 = (headOf id un (l.length + 1)).length by simp [headOf], List.drop_left]
  rw [ed]
  simp only [Prod.mk.injEq, true_and, and_true]
  omega
/-- A beginning of a frame's bytes tells nothing yet. -/
theorem openM_part {id un : Nat} (hid : id < 65536) (hun : un < 256) {l : List UInt8} (h1 : ¬ (l.length < 1 ∨ 253 < l.length)) {k : Nat} (hk : k < (headOf id un (l.length + 1) ++ l).length) : openM ((headOf id un (l.length + 1) ++ l).take k) = (0, 0, [], 0, 0) := by
  have el : (headOf id un (l.length + 1) ++ l).length = 7 + l.length := by simp [headOf]; omega
  have ek : ((headOf id un (l.length + 1) ++ l).take k).length = k := by rw [List.length_take]; omega
  unfold openM
  by_cases c : k < 6
  · rw [if_pos (by omega)]
  · have e : ∀ i, i < 6 → gb ((headOf id un (l.length + 1) ++ l).take k) i = gb (headOf id un (l.length + 1) ++ l) i := by
      intro i hi
      unfold gb
      rw [List.getD_eq_getElem?_getD, List.getElem?_take_of_lt (by omega), ← List.getD_eq_getElem?_getD]
    have e2 : gb (headOf id un (l.length + 1) ++ l) 2 = 0 := by simp [gb, headOf]
    have e3 : gb (headOf id un (l.length + 1) ++ l) 3 = 0 := by simp [gb, headOf]
    have e4 : gb (headOf id un (l.length + 1) ++ l) 4 = (l.length + 1) / 256 := by simp [gb, headOf]; omega
    have e5 : gb (headOf id un (l.length + 1) ++ l) 5 = (l.length + 1) % 256 := by simp [gb, headOf]
    rw [e 2 (by omega), e 3 (by omega), e 4 (by omega), e 5 (by omega), e2, e3, e4, e5, ek, if_neg (by omega), if_neg (by omega), if_neg (by omega), if_pos (by omega)]

theorem mbapWaits (H : Ov4 ov) (n : Nat) (w : Wf h) {l : List UInt8} {id un : Nat} (hid : id < 65536) (hun : un < 256) (s : Bs h v l md) {k : Int} (hk : -9223372036854775808 ≤ k ∧ k < 9223372036854775808) :
    Wp (kc ov (n + 3) N_runglaw4_MbapWaits [.agg [.int .u16 id, .int .u8 un, v], .int .i64 k] h) fun r h' => r = .bool true := by
  rw [C_runglaw4_MbapWaits H.p]; unfold F_runglaw4_MbapWaits
  refine wp_box w rfl (by simp only [ic, s.isCell]) fun p h1 hp k1 n1 g1 => ?_
  have s1 := s.kp k1
  simp -dsimp (disch := omega) only [↓pre, sp, wp_some, Int.cast_ofNat_Int, Nat.reduceAdd, Nat.reduceMul, Nat.reduceSub, Nat.reduceLeDiff, Nat.reduceEqDiff, Nat.reducePow, Int.reduceToNat, Int.reducePow, Int.reduceAdd, Int.reduceSub, Int.reduceMul, Int.reduceLT, Int.reduceLE, Int.reduceEq, Int.reduceNeg, known_spec H, row_rw g1, s1.len]
  refine wp_ite (fun c => ?_) (fun c => ?_)
  · simp -dsimp (disch := omega) only [↓pre, sp, wp_some, Int.cast_ofNat_Int, Nat.reduceAdd, Nat.reduceMul, Nat.reduceSub, Nat.reduceLeDiff, Nat.reduceEqDiff, Nat.reducePow, Int.reduceToNat, Int.reducePow, Int.reduceAdd, Int.reduceSub, Int.reduceMul, Int.reduceLT, Int.reduceLE, Int.reduceEq, Int.reduceNeg]
  refine Wp.bind (write_spec H.p _ k1.w' hid hun s1) fun v2 h2 ⟨k2, e2⟩ => ?_
  split at e2
  · subst e2
    simp -dsimp (disch := omega) only [↓pre, sp, wp_some, Int.cast_ofNat_Int, Nat.reduceAdd, Nat.reduceMul, Nat.reduceSub, Nat.reduceLeDiff, Nat.reduceEqDiff, Nat.reducePow, Int.reduceToNat, Int.reducePow, Int.reduceAdd, Int.reduceSub, Int.reduceMul, Int.reduceLT, Int.reduceLE, Int.reduceEq, Int.reduceNeg]
    refine wp_kT (.bool true) (fun j hj => ?_) ?_
    · simp -dsimp (disch := omega) only [↓pre, sp, wp_some, Int.cast_ofNat_Int, Nat.reduceAdd, Nat.reduceMul, Nat.reduceSub, Nat.reduceLeDiff, Nat.reduceEqDiff, Nat.reducePow, Int.reduceToNat, Int.reducePow, Int.reduceAdd, Int.reduceSub, Int.reduceMul, Int.reduceLT, Int.reduceLE, Int.reduceEq, Int.reduceNeg]; exact hj
    · simp -dsimp (disch := omega) only [↓pre, sp, wp_some, Int.cast_ofNat_Int, Nat.reduceAdd, Nat.reduceMul, Nat.reduceSub, Nat.reduceLeDiff, Nat.reduceEqDiff, Nat.reducePow, Int.reduceToNat, Int.reducePow, Int.reduceAdd, Int.reduceSub, Int.reduceMul, Int.reduceLT, Int.reduceLE, Int.reduceEq, Int.reduceNeg]
  · rename_i c2
    obtain ⟨v3, rfl, o3, f3⟩ := e2
    have hl3 : (headOf id un (l.length + 1) ++ l).length = 7 + l.length := by simp [headOf]; omega
    have sl3 := o3.bs.len
    simp -dsimp (disch := omega) only [↓pre, sp, wp_some, Int.cast_ofNat_Int, Nat.reduceAdd, Nat.reduceMul, Nat.reduceSub, Nat.reduceLeDiff, Nat.reduceEqDiff, Nat.reducePow, Int.reduceToNat, Int.reducePow, Int.reduceAdd, Int.reduceSub, Int.reduceMul, Int.reduceLT, Int.reduceLE, Int.reduceEq, Int.reduceNeg]
    refine wp_kT (.bool false) (fun j hj => ?_) ?_
    · have c3 : ¬ (((headOf id un (l.length + 1) ++ l).length : Nat) : Int) = 0 := by omega
      simp -dsimp (disch := omega) only [↓pre, sp, wp_some, Int.cast_ofNat_Int, Nat.reduceAdd, Nat.reduceMul, Nat.reduceSub, Nat.reduceLeDiff, Nat.reduceEqDiff, Nat.reducePow, Int.reduceToNat, Int.reducePow, Int.reduceAdd, Int.reduceSub, Int.reduceMul, Int.reduceLT, Int.reduceLE, Int.reduceEq, Int.reduceNeg, sl3, c3]; exact hj
    obtain ⟨i, hi, e4, _⟩ := place_spec (h := h2) H.p (n + 1) hk (m := (headOf id un (l.length + 1) ++ l).length) (by omega) (by omega)
    obtain ⟨v5, e5, s5, _⟩ := o3.bs.cutR (q := .i64) (b := (i : Int)) (by omega) (by omega)
    simp -dsimp (disch := omega) only [↓pre, sp, wp_some, Int.cast_ofNat_Int, Nat.reduceAdd, Nat.reduceMul, Nat.reduceSub, Nat.reduceLeDiff, Nat.reduceEqDiff, Nat.reducePow, Int.reduceToNat, Int.reducePow, Int.reduceAdd, Int.reduceSub, Int.reduceMul, Int.reduceLT, Int.reduceLE, Int.reduceEq, Int.reduceNeg, sl3, e4, e5]
    have s6 : Bs h2 v5 ((headOf id un (l.length + 1) ++ l).take i) .rw := s5.to (by rw [bytesOf_take]; simp) (by rw [List.length_take]; omega)
    refine Wp.bind (open_spec H.p _ k2.w' s6 (by rw [List.length_take]; omega)) fun v7 h7 ⟨k7, p7, e7, s7⟩ => ?_
    rw [openM_part hid hun c2 hi] at e7 s7
    subst e7
    simp -dsimp (disch := omega) only [↓pre, sp, wp_some, Int.cast_ofNat_Int, Nat.reduceAdd, Nat.reduceMul, Nat.reduceSub, Nat.reduceLeDiff, Nat.reduceEqDiff, Nat.reducePow, Int.reduceToNat, Int.reducePow, Int.reduceAdd, Int.reduceSub, Int.reduceMul, Int.reduceLT, Int.reduceLE, Int.reduceEq, Int.reduceNeg]
    refine wp_box k7.w' rfl rfl fun q h8 hq k8 n8 g8 => ?_
    simp -dsimp (disch := omega) only [↓pre, sp, wp_some, Int.cast_ofNat_Int, Nat.reduceAdd, Nat.reduceMul, Nat.reduceSub, Nat.reduceLeDiff, Nat.reduceEqDiff, Nat.reducePow, Int.reduceToNat, Int.reducePow, Int.reduceAdd, Int.reduceSub, Int.reduceMul, Int.reduceLT, Int.reduceLE, Int.reduceEq, Int.reduceNeg]
    refine wp_store k8.w' g8 rfl rfl (by decide) (by simp only [ic, s7.isCell]) fun h9 k9 n9 g9 => ?_
    simp -dsimp (disch := omega) only [↓pre, sp, wp_some, Int.cast_ofNat_Int, Nat.reduceAdd, Nat.reduceMul, Nat.reduceSub, Nat.reduceLeDiff, Nat.reduceEqDiff, Nat.reducePow, Int.reduceToNat, Int.reducePow, Int.reduceAdd, Int.reduceSub, Int.reduceMul, Int.reduceLT, Int.reduceLE, Int.reduceEq, Int.reduceNeg]
    refine wp_kT (.bool true) (fun j hj => ?_) ?_
    · simp -dsimp (disch := omega) only [↓pre, sp, wp_some, Int.cast_ofNat_Int, Nat.reduceAdd, Nat.reduceMul, Nat.reduceSub, Nat.reduceLeDiff, Nat.reduceEqDiff, Nat.reducePow, Int.reduceToNat, Int.reducePow, Int.reduceAdd, Int.reduceSub, Int.reduceMul, Int.reduceLT, Int.reduceLE, Int.reduceEq, Int.reduceNeg]; exact hj
    · simp -dsimp (disch := omega) only [↓pre, sp, wp_some, Int.cast_ofNat_Int, Nat.reduceAdd, Nat.reduceMul, Nat.reduceSub, Nat.reduceLeDiff, Nat.reduceEqDiff, Nat.reducePow, Int.reduceToNat, Int.reducePow, Int.reduceAdd, Int.reduceSub, Int.reduceMul, Int.reduceLT, Int.reduceLE, Int.reduceEq, Int.reduceNeg]

theorem mbapWrites (H : Ov4 ov) (n : Nat) (w : Wf h) {l m : List UInt8} {id un : Nat} (hid : id < 65536) (hun : un < 256) (s : Bs h v l md) (sm : Bs h a m md') :
    Wp (kc ov (n + 3) N_runglaw4_MbapWrites [.agg [.int .u16 id, .int .u8 un, v], a] h) fun r h' => r = .bool true := by
  rw [C_runglaw4_MbapWrites H.p]; unfold F_runglaw4_MbapWrites
  refine wp_box w rfl (by simp only [ic, s.isCell]) fun p h1 hp k1 n1 g1 => ?_
  have s1 := s.kp k1
  simp -dsimp (disch := omega) only [↓pre, sp, wp_some, Int.cast_ofNat_Int, Nat.reduceAdd, Nat.reduceMul, Nat.reduceSub, Nat.reduceLeDiff, Nat.reduceEqDiff, Nat.reducePow, Int.reduceToNat, Int.reducePow, Int.reduceAdd, Int.reduceSub, Int.reduceMul, Int.reduceLT, Int.reduceLE, Int.reduceEq, Int.reduceNeg, known_spec H, row_rw g1, s1.len]
  refine wp_kT (.bool (decide (l.length > 600 ∨ m.length > 300))) (fun j hj => ?_) ?_
  · by_cases c : (l.length : Int) > 600
    · simp -dsimp (disch := omega) only [↓pre, sp, wp_some, Int.cast_ofNat_Int, Nat.reduceAdd, Nat.reduceMul, Nat.reduceSub, Nat.reduceLeDiff, Nat.reduceEqDiff, Nat.reducePow, Int.reduceToNat, Int.reducePow, Int.reduceAdd, Int.reduceSub, Int.reduceMul, Int.reduceLT, Int.reduceLE, Int.reduceEq, Int.reduceNeg, c]; simpa [show l.length > 600 by omega] using hj
    · simp -dsimp (disch := omega) only [↓pre, sp, wp_some, Int.cast_ofNat_Int, Nat.reduceAdd, Nat.reduceMul, Nat.reduceSub, Nat.reduceLeDiff, Nat.reduceEqDiff, Nat.reducePow, Int.reduceToNat, Int.reducePow, Int.reduceAdd, Int.reduceSub, Int.reduceMul, Int.reduceLT, Int.reduceLE, Int.reduceEq, Int.reduceNeg, c, (sm.kp k1).len]
      have e : ((m.length : Int) > 300) ↔ m.length > 300 := by omega
      simpa only [e, show ¬ l.length > 600 by omega, false_or] using hj
  simp -dsimp (disch := omega) only [↓pre, sp, wp_some, Int.cast_ofNat_Int, Nat.reduceAdd, Nat.reduceMul, Nat.reduceSub, Nat.reduceLeDiff, Nat.reduceEqDiff, Nat.reducePow, Int.reduceToNat, Int.reducePow, Int.reduceAdd, Int.reduceSub, Int.reduceMul, Int.reduceLT, Int.reduceLE, Int.reduceEq, Int.reduceNeg, row_rw g1]
  refine wp_ite (fun c => ?_) (fun c => ?_)
  · simp -dsimp (disch := omega) only [↓pre, sp, wp_some, Int.cast_ofNat_Int, Nat.reduceAdd, Nat.reduceMul, Nat.reduceSub, Nat.reduceLeDiff, Nat.reduceEqDiff, Nat.reducePow, Int.reduceToNat, Int.reducePow, Int.reduceAdd, Int.reduceSub, Int.reduceMul, Int.reduceLT, Int.reduceLE, Int.reduceEq, Int.reduceNeg]
  refine Wp.bind (write_spec H.p _ k1.w' hid hun s1) fun v2 h2 ⟨k2, e2⟩ => ?_
  have g2 := k2.gt g1
  have s2 := s1.kp k2
  split at e2
  · rename_i c2
    subst e2
    simp -dsimp (disch := omega) only [↓pre, sp, wp_some, Int.cast_ofNat_Int, Nat.reduceAdd, Nat.reduceMul, Nat.reduceSub, Nat.reduceLeDiff, Nat.reduceEqDiff, Nat.reducePow, Int.reduceToNat, Int.reducePow, Int.reduceAdd, Int.reduceSub, Int.reduceMul, Int.reduceLT, Int.reduceLE, Int.reduceEq, Int.reduceNeg, row_rw g2]
    refine Wp.bind (mbap_spec H.p _ k2.w' hid hun s2) fun v3 h3 ⟨k3, e3⟩ => ?_
    rw [if_pos c2] at e3
    subst e3
    have hb := bytes_spec (h := h3) H.p (n + 1) (x := []) (y := []) (Sz.nil h3 1 (by omega) .rw) (Sz.nil h3 1 (by omega) .rw)
    simp -dsimp (disch := omega) only [↓pre, sp, wp_some, Int.cast_ofNat_Int, Nat.reduceAdd, Nat.reduceMul, Nat.reduceSub, Nat.reduceLeDiff, Nat.reduceEqDiff, Nat.reducePow, Int.reduceToNat, Int.reducePow, Int.reduceAdd, Int.reduceSub, Int.reduceMul, Int.reduceLT, Int.reduceLE, Int.reduceEq, Int.reduceNeg, hb]
    refine wp_kT (.bool false) (fun j hj => ?_) ?_
    · simp -dsimp (disch := omega) only [↓pre, sp, wp_some, Int.cast_ofNat_Int, Nat.reduceAdd, Nat.reduceMul, Nat.reduceSub, Nat.reduceLeDiff, Nat.reduceEqDiff, Nat.reducePow, Int.reduceToNat, Int.reducePow, Int.reduceAdd, Int.reduceSub, Int.reduceMul, Int.reduceLT, Int.reduceLE, Int.reduceEq, Int.reduceNeg]; exact hj
    · simp -dsimp (disch := omega) only [↓pre, sp, wp_some, Int.cast_ofNat_Int, Nat.reduceAdd, Nat.reduceMul, Nat.reduceSub, Nat.reduceLeDiff, Nat.reduceEqDiff, Nat.reducePow, Int.reduceToNat, Int.reducePow, Int.reduceAdd, Int.reduceSub, Int.reduceMul, Int.reduceLT, Int.reduceLE, Int.reduceEq, Int.reduceNeg]
  · rename_i c2
    obtain ⟨v3, rfl, o3, f3⟩ := e2
    simp -dsimp (disch := omega) only [↓pre, sp, wp_some, Int.cast_ofNat_Int, Nat.reduceAdd, Nat.reduceMul, Nat.reduceSub, Nat.reduceLeDiff, Nat.reduceEqDiff, Nat.reducePow, Int.reduceToNat, Int.reducePow, Int.reduceAdd, Int.reduceSub, Int.reduceMul, Int.reduceLT, Int.reduceLE, Int.reduceEq, Int.reduceNeg, row_rw g2]
    refine Wp.bind (mbap_spec H.p _ k2.w' hid hun s2) fun v4 h3 ⟨k3, e4⟩ => ?_
    rw [if_neg c2] at e4
    obtain ⟨v5, rfl, o5, f5⟩ := e4
    have o3' := o3.kp k3
    have hb := bytes_spec (h := h3) H.p (n + 1) o3'.rd o5.bs
    simp -dsimp (disch := omega) only [↓pre, sp, wp_some, Int.cast_ofNat_Int, Nat.reduceAdd, Nat.reduceMul, Nat.reduceSub, Nat.reduceLeDiff, Nat.reduceEqDiff, Nat.reducePow, Int.reduceToNat, Int.reducePow, Int.reduceAdd, Int.reduceSub, Int.reduceMul, Int.reduceLT, Int.reduceLE, Int.reduceEq, Int.reduceNeg, hb]
    refine wp_kT (.bool false) (fun j hj => ?_) ?_
    · simp -dsimp (disch := omega) only [↓pre, sp, wp_some, Int.cast_ofNat_Int, Nat.reduceAdd, Nat.reduceMul, Nat.reduceSub, Nat.reduceLeDiff, Nat.reduceEqDiff, Nat.reducePow, Int.reduceToNat, Int.reducePow, Int.reduceAdd, Int.reduceSub, Int.reduceMul, Int.reduceLT, Int.reduceLE, Int.reduceEq, Int.reduceNeg]; exact hj
    simp -dsimp (disch := omega) only [↓pre, sp, wp_some, Int.cast_ofNat_Int, Nat.reduceAdd, Nat.reduceMul, Nat.reduceSub, Nat.reduceLeDiff, Nat.reduceEqDiff, Nat.reducePow, Int.reduceToNat, Int.reducePow, Int.reduceAdd, Int.reduceSub, Int.reduceMul, Int.reduceLT, Int.reduceLE, Int.reduceEq, Int.reduceNeg]
    refine Wp.bind (copy_spec H.p _ k3.w' o3'.rd (by simp [headOf]; omega)) fun v6 h6 ⟨k6, o6, f6⟩ => ?_
    simp -dsimp (disch := omega) only [↓pre, sp, wp_some, Int.cast_ofNat_Int, Nat.reduceAdd, Nat.reduceMul, Nat.reduceSub, Nat.reduceLeDiff, Nat.reduceEqDiff, Nat.reducePow, Int.reduceToNat, Int.reducePow, Int.reduceAdd, Int.reduceSub, Int.reduceMul, Int.reduceLT, Int.reduceLE, Int.reduceEq, Int.reduceNeg]
    have K6 : Kp h h6 := ((k1.trans k2).trans k3).trans k6
    refine wp_append k6.w' o6 (sm.kp K6) (isCell_bytes m) (by omega) (by simp [headOf]; omega) fun v7 h7 o7 k7 f7 => ?_
    rw [← bytesOf_append] at o7
    have K37 : Kp h3 h7 := Ke.new_p k6 k7 f6
    have s7 : Bs h7 v7 (headOf id un (l.length + 1) ++ l ++ m) .rw := o7.rd.to rfl (by simp; omega)
    refine Wp.bind (open_spec H.p _ k7.w' s7 (by simp [headOf]; omega)) fun v8 h8 ⟨k8, p8, e8, s8⟩ => ?_
    rw [openM_head hid hun c2] at e8 s8
    subst e8
    simp -dsimp (disch := omega) only [↓pre, sp, wp_some, Int.cast_ofNat_Int, Nat.reduceAdd, Nat.reduceMul, Nat.reduceSub, Nat.reduceLeDiff, Nat.reduceEqDiff, Nat.reducePow, Int.reduceToNat, Int.reducePow, Int.reduceAdd, Int.reduceSub, Int.reduceMul, Int.reduceLT, Int.reduceLE, Int.reduceEq, Int.reduceNeg]
    refine wp_box k8.w' rfl rfl fun q h9 hq k9 n9 g9 => ?_
    simp -dsimp (disch := omega) only [↓pre, sp, wp_some, Int.cast_ofNat_Int, Nat.reduceAdd, Nat.reduceMul, Nat.reduceSub, Nat.reduceLeDiff, Nat.reduceEqDiff, Nat.reducePow, Int.reduceToNat, Int.reducePow, Int.reduceAdd, Int.reduceSub, Int.reduceMul, Int.reduceLT, Int.reduceLE, Int.reduceEq, Int.reduceNeg]
    refine wp_store k9.w' g9 rfl rfl (by decide) (by simp only [ic, s8.isCell]) fun ha ka na ga => ?_
    have Ka : Kp h8 ha := Ke.new_p k9 ka fun i hi => by omega
    have Kz : Kp h2 ha := k3.trans (K37.trans (k8.trans Ka))
    have g1a := Kz.gt g2
    have sa := s2.kp (k3.trans (K37.trans (k8.trans Ka)))
    have sl3 := o3.bs.len
    simp -dsimp (disch := omega) only [↓pre, sp, wp_some, Int.cast_ofNat_Int, Nat.reduceAdd, Nat.reduceMul, Nat.reduceSub, Nat.reduceLeDiff, Nat.reduceEqDiff, Nat.reducePow, Int.reduceToNat, Int.reducePow, Int.reduceAdd, Int.reduceSub, Int.reduceMul, Int.reduceLT, Int.reduceLE, Int.reduceEq, Int.reduceNeg]
    refine wp_kTh (fun v _ => v = .bool true) (fun j hj => ?_) ?_
    · have e9 : ((l.length + 7 : Nat) : Int) = ((headOf id un (l.length + 1) ++ l).length : Nat) := by simp [headOf]; omega
      simp -dsimp (disch := omega) only [↓pre, sp, wp_some, Int.cast_ofNat_Int, Nat.reduceAdd, Nat.reduceMul, Nat.reduceSub, Nat.reduceLeDiff, Nat.reduceEqDiff, Nat.reducePow, Int.reduceToNat, Int.reducePow, Int.reduceAdd, Int.reduceSub, Int.reduceMul, Int.reduceLT, Int.reduceLE, Int.reduceEq, Int.reduceNeg, sl3, e9, row_rw g1a, row_rw ga, splice_def]
      refine Wp.bind (frame_spec H.p _ ka.w' (s8.kp Ka) sa) fun vb hb ⟨kb, eb⟩ => ?_
      subst eb
      simp -dsimp (disch := omega) only [↓pre, sp, wp_some, Int.cast_ofNat_Int, Nat.reduceAdd, Nat.reduceMul, Nat.reduceSub, Nat.reduceLeDiff, Nat.reduceEqDiff, Nat.reducePow, Int.reduceToNat, Int.reducePow, Int.reduceAdd, Int.reduceSub, Int.reduceMul, Int.reduceLT, Int.reduceLE, Int.reduceEq, Int.reduceNeg, and_self, decide_true]
      exact hj _ _ rfl
    · rintro v h rfl
      simp -dsimp (disch := omega) only [↓pre, sp, wp_some, Int.cast_ofNat_Int, Nat.reduceAdd, Nat.reduceMul, Nat.reduceSub, Nat.reduceLeDiff, Nat.reduceEqDiff, Nat.reducePow, Int.reduceToNat, Int.reducePow, Int.reduceAdd, Int.reduceSub, Int.reduceMul, Int.reduceLT, Int.reduceLE, Int.reduceEq, Int.reduceNeg]
end Go.Proofs.Ytoioieophambhaa.AI
