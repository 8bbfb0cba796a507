/- The statements of chapter 6: what their texts come to. -/
import Derived.Test.YtfnmgclalcoplaaLaw6a
namespace Go.Proofs.Ytfnmgclalcoplaa.AI
open Go
set_option linter.unusedSimpArgs false
set_option linter.unusedVariables false
variable {ov : AOver} {h : AH} {v a b : AVal} {md md' : AMode}

theorem Ow.lda {e : TypeId} {cs : List AVal} {fs : List Frm} {R : AVal → Prop} (o : Ow h v e 3 fs.length cs) (fa : FrA h md R cs fs) {i : Nat} {f : Frm} (hf : fs[i]? = some f) :
    ∃ u, rLoadA 3 (ea v (i * 3)) h = some (.agg [.int .u16 f.1, .int .u8 f.2.1, u]) ∧ Bs h u f.2.2 md ∧ R u := by
  obtain ⟨u, e1, b, r⟩ := fa.2 i f hf
  have hi := lt_of_at'' hf
  refine ⟨u, ?_, b, r⟩
  rw [(Ow.rd o).ldA (by rw [fa.1]; omega) (by omega), e1]
where
  lt_of_at'' {α : Type} {cs : List α} {off : Nat} {x : α} (hx : cs[off]? = some x) : off < cs.length := by
    rcases Nat.lt_or_ge off cs.length with h | h
    · exact h
    · rw [List.getElem?_eq_none h] at hx; cases hx

theorem streamReads (H : Ov6 ov) (n : Nat) (w : Wf h) {l cuts : List UInt8} (s : Bs h a l md) (sc : Bs h b cuts md') :
    Wp (kc ov (n + 5) N_runglaw6_StreamReads [a, b] h) fun r h' => r = .bool true := by
  rw [C_runglaw6_StreamReads H.p]; unfold F_runglaw6_StreamReads
  simp -dsimp (disch := omega) only [↓pre, sp, sp2, wp_some, Int.cast_ofNat_Int, Nat.reduceAdd, Nat.reduceMul, Nat.reduceSub, Nat.reduceLeDiff, Nat.reduceEqDiff, Nat.reducePow, Int.reduceToNat, Int.reducePow, Int.reduceAdd, Int.reduceSub, Int.reduceMul, Int.reduceLT, Int.reduceLE, Int.reduceEq, Int.reduceNeg, known_spec H, s.len]
  refine wp_kT (.bool (decide (l.length > 4000 ∨ cuts.length > 400))) (fun j hj => ?_) ?_
  · by_cases c : (l.length : Int) > 4000
    · simp -dsimp (disch := omega) only [↓pre, sp, sp2, wp_some, Int.cast_ofNat_Int, Nat.reduceAdd, Nat.reduceMul, Nat.reduceSub, Nat.reduceLeDiff, Nat.reduceEqDiff, Nat.reducePow, Int.reduceToNat, Int.reducePow, Int.reduceAdd, Int.reduceSub, Int.reduceMul, Int.reduceLT, Int.reduceLE, Int.reduceEq, Int.reduceNeg, c]; simpa [show l.length > 4000 by omega] using hj
    · simp -dsimp (disch := omega) only [↓pre, sp, sp2, wp_some, Int.cast_ofNat_Int, Nat.reduceAdd, Nat.reduceMul, Nat.reduceSub, Nat.reduceLeDiff, Nat.reduceEqDiff, Nat.reducePow, Int.reduceToNat, Int.reducePow, Int.reduceAdd, Int.reduceSub, Int.reduceMul, Int.reduceLT, Int.reduceLE, Int.reduceEq, Int.reduceNeg, c, sc.len]
      have e : ((cuts.length : Int) > 400) ↔ cuts.length > 400 := by omega
      simpa only [e, show ¬ l.length > 4000 by omega, false_or] using hj
  simp -dsimp (disch := omega) only [↓pre, sp, sp2, wp_some, Int.cast_ofNat_Int, Nat.reduceAdd, Nat.reduceMul, Nat.reduceSub, Nat.reduceLeDiff, Nat.reduceEqDiff, Nat.reducePow, Int.reduceToNat, Int.reducePow, Int.reduceAdd, Int.reduceSub, Int.reduceMul, Int.reduceLT, Int.reduceLE, Int.reduceEq, Int.reduceNeg]
  refine wp_ite (fun c => ?_) (fun c => ?_)
  · simp -dsimp (disch := omega) only [↓pre, sp, sp2, wp_some, Int.cast_ofNat_Int, Nat.reduceAdd, Nat.reduceMul, Nat.reduceSub, Nat.reduceLeDiff, Nat.reduceEqDiff, Nat.reducePow, Int.reduceToNat, Int.reducePow, Int.reduceAdd, Int.reduceSub, Int.reduceMul, Int.reduceLT, Int.reduceLE, Int.reduceEq, Int.reduceNeg]
  refine Wp.bind (frames_spec H n w s sc (by omega) (by omega)) fun v1 h1 ⟨k1, out, cs, e1, o1, fa1⟩ => ?_
  subst e1
  simp -dsimp (disch := omega) only [↓pre, sp, sp2, wp_some, Int.cast_ofNat_Int, Nat.reduceAdd, Nat.reduceMul, Nat.reduceSub, Nat.reduceLeDiff, Nat.reduceEqDiff, Nat.reducePow, Int.reduceToNat, Int.reducePow, Int.reduceAdd, Int.reduceSub, Int.reduceMul, Int.reduceLT, Int.reduceLE, Int.reduceEq, Int.reduceNeg]
  have hlen := told_len l
  refine wp_loop (fun m x h2 => ∃ (at_ i : Nat), x = [.int .i64 at_, .int .i64 i] ∧ at_ + m = l.length ∧ Kp h1 h2 ∧ i ≤ (told l).1.length ∧ (told l).1.drop i = (told (l.drop at_)).1 ∧ (told l).2 = (told (l.drop at_)).2) l.length (by omega)
    ⟨0, 0, rfl, by omega, Ke.refl k1.w', by omega, by simp, by simp⟩ ?_
  rintro m _ h2 j ⟨at_, i, rfl, hat, k2, hi, t1, t2⟩ hj
  have s2 := s.kp (k1.trans k2)
  have o2 := o1.kp k2
  have fa2 := fa1.mono (h' := h2) (md' := .rw) (R' := fun _ => True) fun v x _ b r => ⟨b.kp k2, r⟩
  unfold L_runglaw6_StreamReads_0
  obtain ⟨v3, e3, s3, _⟩ := s2.cutL (p := .i64) (a := (at_ : Int)) (by omega) (by omega)
  have s3' : Bs h2 v3 (l.drop at_) md := s3.to (by rw [bytesOf_drop]; simp) (by rw [List.length_drop]; simp)
  simp -dsimp (disch := omega) only [↓pre, sp, sp2, wp_some, Int.cast_ofNat_Int, Nat.reduceAdd, Nat.reduceMul, Nat.reduceSub, Nat.reduceLeDiff, Nat.reduceEqDiff, Nat.reducePow, Int.reduceToNat, Int.reducePow, Int.reduceAdd, Int.reduceSub, Int.reduceMul, Int.reduceLT, Int.reduceLE, Int.reduceEq, Int.reduceNeg, e3]
  refine Wp.bind (openMbap_spec H.p _ k2.w' s3' (by rw [List.length_drop]; omega)) fun v4 h4 ⟨k4, p4, e4, s4⟩ => ?_
  subst e4
  simp -dsimp (disch := omega) only [↓pre, sp, sp2, wp_some, Int.cast_ofNat_Int, Nat.reduceAdd, Nat.reduceMul, Nat.reduceSub, Nat.reduceLeDiff, Nat.reduceEqDiff, Nat.reducePow, Int.reduceToNat, Int.reducePow, Int.reduceAdd, Int.reduceSub, Int.reduceMul, Int.reduceLT, Int.reduceLE, Int.reduceEq, Int.reduceNeg]
  refine wp_box k4.w' rfl rfl fun q h5 hq k5 n5 g5 => ?_
  refine wp_store k5.w' g5 rfl rfl (by decide) (by simp only [ic, s4.isCell]) fun h6 k6 n6 g6 => ?_
  have K6 : Kp h4 h6 := Ke.new_p k5 k6 fun i hi => by omega
  have K46 := k4.trans K6
  have hM := openM_n (l.drop at_)
  simp -dsimp (disch := omega) only [↓pre, sp, sp2, wp_some, Int.cast_ofNat_Int, Nat.reduceAdd, Nat.reduceMul, Nat.reduceSub, Nat.reduceLeDiff, Nat.reduceEqDiff, Nat.reducePow, Int.reduceToNat, Int.reducePow, Int.reduceAdd, Int.reduceSub, Int.reduceMul, Int.reduceLT, Int.reduceLE, Int.reduceEq, Int.reduceNeg]
  refine wp_kT (.bool (decide ((openM (l.drop at_)).2.2.2.1 = 0))) (fun j hj => ?_) ?_
  · by_cases c2 : (((openM (l.drop at_)).2.2.2.2 : Nat) : Int) = 0
    · simp -dsimp (disch := omega) only [↓pre, sp, sp2, wp_some, Int.cast_ofNat_Int, Nat.reduceAdd, Nat.reduceMul, Nat.reduceSub, Nat.reduceLeDiff, Nat.reduceEqDiff, Nat.reducePow, Int.reduceToNat, Int.reducePow, Int.reduceAdd, Int.reduceSub, Int.reduceMul, Int.reduceLT, Int.reduceLE, Int.reduceEq, Int.reduceNeg, c2]
      have e3 : (((openM (l.drop at_)).2.2.2.1 : Nat) : Int) = 0 ↔ (openM (l.drop at_)).2.2.2.1 = 0 := by omega
      simpa only [e3] using hj
    · simp -dsimp (disch := omega) only [↓pre, sp, sp2, wp_some, Int.cast_ofNat_Int, Nat.reduceAdd, Nat.reduceMul, Nat.reduceSub, Nat.reduceLeDiff, Nat.reduceEqDiff, Nat.reducePow, Int.reduceToNat, Int.reducePow, Int.reduceAdd, Int.reduceSub, Int.reduceMul, Int.reduceLT, Int.reduceLE, Int.reduceEq, Int.reduceNeg, c2]
      have e3 : (openM (l.drop at_)).2.2.2.1 = 0 := by
        rcases Nat.eq_zero_or_pos (openM (l.drop at_)).2.2.2.1 with e | e
        · exact e
        · have := (hM.2.2.1 (by omega)).1; omega
      simpa only [e3, decide_true] using hj
  simp -dsimp (disch := omega) only [↓pre, sp, sp2, wp_some, Int.cast_ofNat_Int, Nat.reduceAdd, Nat.reduceMul, Nat.reduceSub, Nat.reduceLeDiff, Nat.reduceEqDiff, Nat.reducePow, Int.reduceToNat, Int.reducePow, Int.reduceAdd, Int.reduceSub, Int.reduceMul, Int.reduceLT, Int.reduceLE, Int.reduceEq, Int.reduceNeg]
  have o6 := o2.kp K46
  refine wp_ite (fun c2 => ?_) (fun c2 => ?_)
  · have ht : told (l.drop at_) = ([], (openM (l.drop at_)).2.2.2.2) := by
      by_cases c3 : (openM (l.drop at_)).2.2.2.2 = 0
      · rw [told_wait ⟨c2, c3⟩, c3]
      · exact told_err c3
    rw [ht] at t1 t2
    have hi2 : i = (told l).1.length := by
      have := congrArg List.length t1
      simp at this; omega
    have d1 : ((i : Int) = ((told l).1.length : Nat)) := by omega
    have d2 : (((told l).2 : Nat) : Int) = ((openM (l.drop at_)).2.2.2.2 : Nat) := by rw [t2]
    refine wp_kT (.bool true) (fun j hj => ?_) ?_
    · simp -dsimp (disch := omega) only [↓pre, sp, sp2, wp_some, Int.cast_ofNat_Int, Nat.reduceAdd, Nat.reduceMul, Nat.reduceSub, Nat.reduceLeDiff, Nat.reduceEqDiff, Nat.reducePow, Int.reduceToNat, Int.reducePow, Int.reduceAdd, Int.reduceSub, Int.reduceMul, Int.reduceLT, Int.reduceLE, Int.reduceEq, Int.reduceNeg, d2, d1, (Ow.rd o6).len, decide_true]
      exact hj
    · simp -dsimp (disch := omega) only [↓pre, sp, sp2, wp_some, Int.cast_ofNat_Int, Nat.reduceAdd, Nat.reduceMul, Nat.reduceSub, Nat.reduceLeDiff, Nat.reduceEqDiff, Nat.reducePow, Int.reduceToNat, Int.reducePow, Int.reduceAdd, Int.reduceSub, Int.reduceMul, Int.reduceLT, Int.reduceLE, Int.reduceEq, Int.reduceNeg]
  · have ht := told_frame c2
    rw [ht] at t1 t2
    have hi3 : i < (told l).1.length := by
      rcases Nat.lt_or_ge i (told l).1.length with h | h
      · exact h
      · rw [List.drop_of_length_le h] at t1; cases t1
    have hfi : (told l).1[i]? = some (frmOf (l.drop at_)) := by
      have := congrArg (fun x => x[0]?) t1
      simpa using this
    have fa6 := fa2.mono (h' := h6) (md' := .rw) (R' := fun _ => True) fun v x _ b r => ⟨b.kp K46, r⟩
    obtain ⟨u, e6, b6, _⟩ := o6.lda fa6 hfi
    have d3 : ¬ ((i : Int) ≥ ((told l).1.length : Nat)) := by omega
    simp -dsimp (disch := omega) only [↓pre, sp, sp2, wp_some, Int.cast_ofNat_Int, Nat.reduceAdd, Nat.reduceMul, Nat.reduceSub, Nat.reduceLeDiff, Nat.reduceEqDiff, Nat.reducePow, Int.reduceToNat, Int.reducePow, Int.reduceAdd, Int.reduceSub, Int.reduceMul, Int.reduceLT, Int.reduceLE, Int.reduceEq, Int.reduceNeg, (Ow.rd o6).len, d3, decide_false, (Ow.rd o6).at, e6, row_rw g6, splice_def]
    refine Wp.bind (frame_spec H.p _ K6.w' b6 (s4.kp K6)) fun v7 h7 ⟨k7, e7⟩ => ?_
    have g7 := k7.gt g6
    obtain ⟨u', e6', b6', _⟩ := (o6.kp k7).lda (fa6.mono (h' := h7) (md' := .rw) (R' := fun _ => True) fun v x _ b r => ⟨b.kp k7, r⟩) hfi
    subst e7
    have hd : decide ((frmOf (l.drop at_)).1 = (openM (l.drop at_)).1 ∧ (frmOf (l.drop at_)).2.1 = (openM (l.drop at_)).2.1 ∧ (frmOf (l.drop at_)).2.2 = (openM (l.drop at_)).2.2.1) = true := decide_eq_true ⟨rfl, rfl, rfl⟩
    have ea : IntKind.wrap .i64 ((at_ : Int) + ((openM (l.drop at_)).2.2.2.1 : Nat)) = ((at_ + (openM (l.drop at_)).2.2.2.1 : Nat) : Int) := by
      rw [List.length_drop] at hM
      rw [wr_i64 (by omega) (by omega)]; omega
    have ei : IntKind.wrap .i64 ((i : Int) + 1) = ((i + 1 : Nat) : Int) := by rw [wr_i64 (by omega) (by omega)]; omega
    rw [List.length_drop] at hM
    simp -dsimp (disch := omega) only [↓pre, sp, sp2, wp_some, Int.cast_ofNat_Int, Nat.reduceAdd, Nat.reduceMul, Nat.reduceSub, Nat.reduceLeDiff, Nat.reduceEqDiff, Nat.reducePow, Int.reduceToNat, Int.reducePow, Int.reduceAdd, Int.reduceSub, Int.reduceMul, Int.reduceLT, Int.reduceLE, Int.reduceEq, Int.reduceNeg, hd, row_rw g7]
    have ea' : ((at_ : Int) + ((openM (l.drop at_)).2.2.2.1 : Nat)) = ((at_ + (openM (l.drop at_)).2.2.2.1 : Nat) : Int) := by omega
    have ei' : ((i : Int) + 1) = ((i + 1 : Nat) : Int) := by omega
    (try simp -dsimp (disch := omega) only [↓pre, sp, sp2, wp_some, Int.cast_ofNat_Int, Nat.reduceAdd, Nat.reduceMul, Nat.reduceSub, Nat.reduceLeDiff, Nat.reduceEqDiff, Nat.reducePow, Int.reduceToNat, Int.reducePow, Int.reduceAdd, Int.reduceSub, Int.reduceMul, Int.reduceLT, Int.reduceLE, Int.reduceEq, Int.reduceNeg, ea', ei'])
    refine hj (m - (openM (l.drop at_)).2.2.2.1) _ _ (by omega) ⟨at_ + (openM (l.drop at_)).2.2.2.1, i + 1, rfl, by omega, k2.trans (K46.trans k7), by omega, ?_, ?_⟩
    · rw [← List.drop_drop, t1, List.drop_succ_cons, List.drop_zero, List.drop_drop]
    · rw [t2, List.drop_drop]

/-- Texts that are read alone. -/
def BsL (h : AH) (vs : List AVal) (ls : List (List UInt8)) : Prop := vs.length = ls.length ∧ ∀ (i : Nat) l, ls[i]? = some l → ∃ v, vs[i]? = some v ∧ Bs h v l .ro ∧ l.length ≤ 2 ^ 48
theorem BsL.ke {S : Nat → Prop} {h' : AH} {vs : List AVal} {ls : List (List UInt8)} (b : BsL h vs ls) (k : Ke S h h') : BsL h' vs ls :=
  ⟨b.1, fun i l hl => by obtain ⟨v, e, s, m⟩ := b.2 i l hl; exact ⟨v, e, s.ro k, m⟩⟩

theorem streamBounds (H : Ov6 ov) (n : Nat) (w : Wf h) {vs : List AVal} {ls : List (List UInt8)} (s : Sz h a 1 vs.length vs .ro) (bl : BsL h vs ls) :
    Wp (kc ov (n + 4) N_runglaw6_StreamBounds [a] h) fun r h' => r = .bool true := by
  have hvl := bl.1
  rw [C_runglaw6_StreamBounds H.p]; unfold F_runglaw6_StreamBounds
  simp -dsimp (disch := omega) only [↓pre, sp, sp2, wp_some, Int.cast_ofNat_Int, Nat.reduceAdd, Nat.reduceMul, Nat.reduceSub, Nat.reduceLeDiff, Nat.reduceEqDiff, Nat.reducePow, Int.reduceToNat, Int.reducePow, Int.reduceAdd, Int.reduceSub, Int.reduceMul, Int.reduceLT, Int.reduceLE, Int.reduceEq, Int.reduceNeg, known_spec H, s.len]
  refine wp_ite (fun c => ?_) (fun c => ?_)
  · simp -dsimp (disch := omega) only [↓pre, sp, sp2, wp_some, Int.cast_ofNat_Int, Nat.reduceAdd, Nat.reduceMul, Nat.reduceSub, Nat.reduceLeDiff, Nat.reduceEqDiff, Nat.reducePow, Int.reduceToNat, Int.reducePow, Int.reduceAdd, Int.reduceSub, Int.reduceMul, Int.reduceLT, Int.reduceLE, Int.reduceEq, Int.reduceNeg]
  refine Wp.bind (new_stream_spec H.p (n + 2) w) fun v1 h1 ⟨k1, p, e1, hp, s1⟩ => ?_
  subst e1
  simp -dsimp (disch := omega) only [↓pre, sp, sp2, wp_some, Int.cast_ofNat_Int, Nat.reduceAdd, Nat.reduceMul, Nat.reduceSub, Nat.reduceLeDiff, Nat.reduceEqDiff, Nat.reducePow, Int.reduceToNat, Int.reducePow, Int.reduceAdd, Int.reduceSub, Int.reduceMul, Int.reduceLT, Int.reduceLE, Int.reduceEq, Int.reduceNeg]
  refine wp_loop (fun m x h2 => ∃ (i : Nat) (hv : AVal) (l : List UInt8) (bad cnt : Nat), x = [hv, .int .i64 bad, .int .i64 i] ∧ i + m = vs.length ∧ Kp h h2 ∧ Ob h2 hv l ∧ Str h2 p l bad cnt ∧ cnt ≤ i ∧ l.length ≤ 260 ∧ (∀ k, isBk hv k → h.n ≤ k ∧ k ≠ p ∧ NotHeld h2 p k)) vs.length (by omega)
    ⟨0, .slice none 0 0, [], 0, 0, rfl, by omega, k1, Ow.nil _ _ _ (by omega), s1, by omega, by simp, fun k hk => hk.elim⟩ ?_
  rintro m _ h2 j ⟨i, hv, l, bad, cnt, rfl, him, k2, o2, st2, hcnt, hll, nh2⟩ hj
  have s2 := s.ro k2
  unfold L_runglaw6_StreamBounds_0
  simp -dsimp (disch := omega) only [↓pre, sp, sp2, wp_some, Int.cast_ofNat_Int, Nat.reduceAdd, Nat.reduceMul, Nat.reduceSub, Nat.reduceLeDiff, Nat.reduceEqDiff, Nat.reducePow, Int.reduceToNat, Int.reducePow, Int.reduceAdd, Int.reduceSub, Int.reduceMul, Int.reduceLT, Int.reduceLE, Int.reduceEq, Int.reduceNeg, s2.len]
  refine wp_ite (fun c1 => ?_) (fun c1 => ?_)
  rotate_left
  · simp -dsimp (disch := omega) only [↓pre, sp, sp2, wp_some, Int.cast_ofNat_Int, Nat.reduceAdd, Nat.reduceMul, Nat.reduceSub, Nat.reduceLeDiff, Nat.reduceEqDiff, Nat.reducePow, Int.reduceToNat, Int.reducePow, Int.reduceAdd, Int.reduceSub, Int.reduceMul, Int.reduceLT, Int.reduceLE, Int.reduceEq, Int.reduceNeg]
  obtain ⟨x, hx⟩ : ∃ x, ls[i]? = some x := ⟨_, List.getElem?_eq_getElem (by omega)⟩
  obtain ⟨u, hu, su0, hxl⟩ := bl.2 i x hx
  have su := su0.ro k2
  have hld : rLoad (ea a i) h2 = some u := by rw [s2.ld (by omega), hu]
  simp -dsimp (disch := omega) only [↓pre, sp, sp2, wp_some, Int.cast_ofNat_Int, Nat.reduceAdd, Nat.reduceMul, Nat.reduceSub, Nat.reduceLeDiff, Nat.reduceEqDiff, Nat.reducePow, Int.reduceToNat, Int.reducePow, Int.reduceAdd, Int.reduceSub, Int.reduceMul, Int.reduceLT, Int.reduceLE, Int.reduceEq, Int.reduceNeg, s2.at, hld, su.len]
  refine wp_ite (fun c2 => ?_) (fun c2 => ?_)
  · simp -dsimp (disch := omega) only [↓pre, sp, sp2, wp_some, Int.cast_ofNat_Int, Nat.reduceAdd, Nat.reduceMul, Nat.reduceSub, Nat.reduceLeDiff, Nat.reduceEqDiff, Nat.reducePow, Int.reduceToNat, Int.reducePow, Int.reduceAdd, Int.reduceSub, Int.reduceMul, Int.reduceLT, Int.reduceLE, Int.reduceEq, Int.reduceNeg]
  have htl : takes l x bad ≤ x.length ∧ l.length + takes l x bad ≤ 260 := by unfold takes; split <;> omega
  (try simp -dsimp (disch := omega) only [↓pre, sp, sp2, wp_some, Int.cast_ofNat_Int, Nat.reduceAdd, Nat.reduceMul, Nat.reduceSub, Nat.reduceLeDiff, Nat.reduceEqDiff, Nat.reducePow, Int.reduceToNat, Int.reducePow, Int.reduceAdd, Int.reduceSub, Int.reduceMul, Int.reduceLT, Int.reduceLE, Int.reduceEq, Int.reduceNeg])
  refine wp_kJ (fun y h3 => h2 = h3 ∧ y = [.int .i64 (takes l x bad : Nat)]) (fun j2 hj2 => ?_) ?_
  · refine wp_kIf (fun c3 => ?_) (fun c3 => ?_)
    · have c3 := of_decide_eq_true c3
      have e3 : min (x.length : Int) (260 - l.length) = (takes l x bad : Nat) := by unfold takes; rw [if_pos (by omega)]; omega
      simp -dsimp (disch := omega) only [↓pre, sp, sp2, wp_some, Int.cast_ofNat_Int, Nat.reduceAdd, Nat.reduceMul, Nat.reduceSub, Nat.reduceLeDiff, Nat.reduceEqDiff, Nat.reducePow, Int.reduceToNat, Int.reducePow, Int.reduceAdd, Int.reduceSub, Int.reduceMul, Int.reduceLT, Int.reduceLE, Int.reduceEq, Int.reduceNeg, s2.at, hld, su.len, o2.rd.len, e3]
      exact hj2 _ _ ⟨rfl, rfl⟩
    · have c3 := of_decide_eq_false c3
      have e3 : (0 : Int) = (takes l x bad : Nat) := by unfold takes; rw [if_neg (by omega)]; rfl
      rw [e3]
      exact hj2 _ _ ⟨rfl, rfl⟩
  rintro _ _ ⟨rfl, rfl⟩
  simp -dsimp (disch := omega) only [↓pre, sp, sp2, wp_some, Int.cast_ofNat_Int, Nat.reduceAdd, Nat.reduceMul, Nat.reduceSub, Nat.reduceLeDiff, Nat.reduceEqDiff, Nat.reducePow, Int.reduceToNat, Int.reducePow, Int.reduceAdd, Int.reduceSub, Int.reduceMul, Int.reduceLT, Int.reduceLE, Int.reduceEq, Int.reduceNeg, s2.at, hld]
  refine Wp.bind (feed_spec H.p n k2.w' st2 su (by omega) hll) fun v4 h4 ⟨e4, st4, k4, _, nh4⟩ => ?_
  subst e4
  have hpn := st2.lt k2.w'
  have K4 : Kp h h4 := Ke.new_p k2 k4 fun i hi => by omega
  have s4 := s.ro K4
  have hld4 : rLoad (ea a i) h4 = some u := by rw [s4.ld (by omega), hu]
  have su4 := su0.ro K4
  obtain ⟨v5, e5, s5, _⟩ := su4.cutR (q := .i64) (b := (takes l x bad : Nat)) (by omega) (by omega)
  have s5' : Bs h4 v5 (x.take (takes l x bad)) .ro := s5.to (by rw [bytesOf_take]; simp) (by rw [List.length_take]; simp; omega)
  have o4 : Ob h4 hv l := o2.ke k4 fun k hk => (nh2 k hk).2.1
  have nh4' : ∀ k, isBk hv k → k ≠ p ∧ NotHeld h4 p k := fun k hk => ⟨(nh2 k hk).2.1, nh4 k (Ow.bk_lt k2.w' o2 hk) (nh2 k hk).2.2⟩
  simp -dsimp (disch := omega) only [↓pre, sp, sp2, wp_some, Int.cast_ofNat_Int, Nat.reduceAdd, Nat.reduceMul, Nat.reduceSub, Nat.reduceLeDiff, Nat.reduceEqDiff, Nat.reducePow, Int.reduceToNat, Int.reducePow, Int.reduceAdd, Int.reduceSub, Int.reduceMul, Int.reduceLT, Int.reduceLE, Int.reduceEq, Int.reduceNeg, s4.at, hld4, e5]
  refine wp_append K4.w' o4 s5' (isCell_bytes _) (by omega) (by rw [List.length_take]; omega) fun hv6 h6 o6 k6 f6 => ?_
  rw [← bytesOf_append] at o6
  have st6 : Str h6 p (l ++ x.take (takes l x bad)) bad cnt := st4.keN k6 nh4'
  have hp4 := st4.lt K4.w'
  have nh6 : ∀ k, isBk hv6 k → h.n ≤ k ∧ k ≠ p ∧ NotHeld h6 p k := by
    intro k hk
    rcases f6 k hk with f | f
    · exact ⟨(nh2 k f).1, (nh4' k f).1, st4.not_ke k6 (fun hh => (nh4' p hh).1 rfl) (nh4' k f).2⟩
    · exact ⟨by have := K4.n; omega, by omega, st4.not_ke k6 (fun hh => (nh4' p hh).1 rfl) (st4.new_not K4.w' f)⟩
  have K6 : Kp h h6 := Ke.new_p K4 k6 fun k hk => (nh2 k hk).1
  have hleft := left_spec H.p (n + 2) st6
  generalize hL : l ++ x.take (takes l x bad) = L at *
  have hLl : L.length = l.length + takes l x bad := by rw [← hL, List.length_append, List.length_take, Nat.min_eq_left htl.1]
  have o6' : Ob h6 hv6 L := o6.to rfl (by rw [hLl, List.length_take, Nat.min_eq_left htl.1])
  simp -dsimp (disch := omega) only [↓pre, sp, sp2, wp_some, Int.cast_ofNat_Int, Nat.reduceAdd, Nat.reduceMul, Nat.reduceSub, Nat.reduceLeDiff, Nat.reduceEqDiff, Nat.reducePow, Int.reduceToNat, Int.reducePow, Int.reduceAdd, Int.reduceSub, Int.reduceMul, Int.reduceLT, Int.reduceLE, Int.reduceEq, Int.reduceNeg, hleft, o6'.rd.len]
  refine Wp.bind (openMbap_specF H.p (n + 1) K6.w' o6'.rd (by omega)) fun v7 h7 ⟨k7, p7, e7, s7, f7⟩ => ?_
  subst e7
  simp -dsimp (disch := omega) only [↓pre, sp, sp2, wp_some, Int.cast_ofNat_Int, Nat.reduceAdd, Nat.reduceMul, Nat.reduceSub, Nat.reduceLeDiff, Nat.reduceEqDiff, Nat.reducePow, Int.reduceToNat, Int.reducePow, Int.reduceAdd, Int.reduceSub, Int.reduceMul, Int.reduceLT, Int.reduceLE, Int.reduceEq, Int.reduceNeg]
  refine wp_box k7.w' rfl rfl fun q h8 hq k8 n8 g8 => ?_
  refine wp_store k8.w' g8 rfl rfl (by decide) (by simp only [ic, s7.isCell]) fun h9 k9 n9 g9 => ?_
  have k79 : Kp h7 h9 := Ke.new_p k8 k9 fun i hi => by omega
  have k69 : Kp h6 h9 := k7.trans k79
  have st9 := st6.kp k69
  have hpq : p < q := by have := st6.lt K6.w'; have := k7.n; omega
  simp -dsimp (disch := omega) only [↓pre, sp, sp2, wp_some, Int.cast_ofNat_Int, Nat.reduceAdd, Nat.reduceMul, Nat.reduceSub, Nat.reduceLeDiff, Nat.reduceEqDiff, Nat.reducePow, Int.reduceToNat, Int.reducePow, Int.reduceAdd, Int.reduceSub, Int.reduceMul, Int.reduceLT, Int.reduceLE, Int.reduceEq, Int.reduceNeg]
  refine Wp.bind (next_spec H.p H.a (n) k69.w' st9 (by omega) (by omega)) fun va ha qa => ?_
  obtain ⟨ka, na, pa, c', ea, sa, fa, hc', sta⟩ := qa.one
  subst ea
  simp -dsimp (disch := omega) only [↓pre, sp, sp2, wp_some, Int.cast_ofNat_Int, Nat.reduceAdd, Nat.reduceMul, Nat.reduceSub, Nat.reduceLeDiff, Nat.reduceEqDiff, Nat.reducePow, Int.reduceToNat, Int.reducePow, Int.reduceAdd, Int.reduceSub, Int.reduceMul, Int.reduceLT, Int.reduceLE, Int.reduceEq, Int.reduceNeg]
  refine wp_box ka.w' rfl rfl fun q2 hb hq2 kb nb gb_ => ?_
  refine wp_store kb.w' gb_ rfl rfl (by decide) (by simp only [ic, sa.isCell]) fun hc kc_ nc gc => ?_
  have kac : Kp ha hc := Ke.new_p kb kc_ fun i hi => by omega
  have k9c : Ke (· = p) h9 hc := ka.trans kac.ke
  have g9c := k9c.gt g9 (by omega)
  have s7c : Bs hc p7 (openM L).2.2.1 .rw := (s7.kp k79).keF k9c fun i hi hh => by have := f7 i hi; have := st6.lt K6.w'; omega
  have sac := sa.kp kac
  have hqlt : q < h9.n := k69.w'.lt _ _ g9
  have hM := openM_n L
  simp -dsimp (disch := omega) only [↓pre, sp, sp2, wp_some, Int.cast_ofNat_Int, Nat.reduceAdd, Nat.reduceMul, Nat.reduceSub, Nat.reduceLeDiff, Nat.reduceEqDiff, Nat.reducePow, Int.reduceToNat, Int.reducePow, Int.reduceAdd, Int.reduceSub, Int.reduceMul, Int.reduceLT, Int.reduceLE, Int.reduceEq, Int.reduceNeg]
  refine wp_kJ (fun y hd => ∃ pd, y = [.int .i64 (nextM L bad).2.2.2.1, .int .i64 (nextM L bad).2.2.2.2] ∧ Ke (· = q) hc hd ∧ hd.row q = some [.int .u16 (nextM L bad).1, .int .u8 (nextM L bad).2.1, pd] ∧ Bs hd pd (nextM L bad).2.2.1 .rw) (fun j2 hj2 => ?_) ?_
  · refine wp_kIf (fun c3 => ?_) (fun c3 => ?_)
    · have c3 := of_decide_eq_true c3
      have en : nextM L bad = (0, 0, [], 0, bad) := by unfold nextM; rw [if_neg (by omega)]
      simp -dsimp (disch := omega) only [↓pre, sp, sp2, wp_some, Int.cast_ofNat_Int, Nat.reduceAdd, Nat.reduceMul, Nat.reduceSub, Nat.reduceLeDiff, Nat.reduceEqDiff, Nat.reducePow, Int.reduceToNat, Int.reducePow, Int.reduceAdd, Int.reduceSub, Int.reduceMul, Int.reduceLT, Int.reduceLE, Int.reduceEq, Int.reduceNeg]
      refine wp_store kac.w' g9c rfl rfl (by simp [splice]) rfl fun hd kd_ nd gd_ => ?_
      (try simp -dsimp (disch := omega) only [↓pre, sp, sp2, wp_some, Int.cast_ofNat_Int, Nat.reduceAdd, Nat.reduceMul, Nat.reduceSub, Nat.reduceLeDiff, Nat.reduceEqDiff, Nat.reducePow, Int.reduceToNat, Int.reducePow, Int.reduceAdd, Int.reduceSub, Int.reduceMul, Int.reduceLT, Int.reduceLE, Int.reduceEq, Int.reduceNeg])
      refine hj2 _ _ ⟨.slice none 0 0, by rw [en]; rfl, kd_, by rw [en, row_rw gd_]; rfl, by rw [en]; exact Sz.nil _ _ (by omega) _⟩
    · have c3 := of_decide_eq_false c3
      have en : nextM L bad = openM L := by unfold nextM; rw [if_pos (by omega)]
      (try simp -dsimp (disch := omega) only [↓pre, sp, sp2, wp_some, Int.cast_ofNat_Int, Nat.reduceAdd, Nat.reduceMul, Nat.reduceSub, Nat.reduceLeDiff, Nat.reduceEqDiff, Nat.reducePow, Int.reduceToNat, Int.reducePow, Int.reduceAdd, Int.reduceSub, Int.reduceMul, Int.reduceLT, Int.reduceLE, Int.reduceEq, Int.reduceNeg])
      refine hj2 _ _ ⟨p7, by rw [en], Ke.refl kac.w', by rw [en, row_rw g9c]; rfl, by rw [en]; exact s7c⟩
  rintro _ hd ⟨pd, rfl, kd_, rd, sd⟩
  have hqc : q2 ≠ q := by have := ka.n; omega
  have gcd := kd_.gt gc hqc
  have sad : Bs hd pa (nextM L bad).2.2.1 .rw := sac.keF kd_ fun i hi hh => by have := fa i hi; omega
  simp -dsimp (disch := omega) only [↓pre, sp, sp2, wp_some, Int.cast_ofNat_Int, Nat.reduceAdd, Nat.reduceMul, Nat.reduceSub, Nat.reduceLeDiff, Nat.reduceEqDiff, Nat.reducePow, Int.reduceToNat, Int.reducePow, Int.reduceAdd, Int.reduceSub, Int.reduceMul, Int.reduceLT, Int.reduceLE, Int.reduceEq, Int.reduceNeg]
  have hNM : (nextM L bad).2.2.2.1 ≤ L.length := by unfold nextM; split <;> first | omega | exact Nat.zero_le _
  refine wp_kTh (fun v he => v = .bool false ∧ Kp hd he) (fun j2 hj2 => ?_) ?_
  · by_cases c4 : 0 < (nextM L bad).2.2.2.1
    · have c4' : (((nextM L bad).2.2.2.1 : Nat) : Int) > 0 := by omega
      simp -dsimp (disch := omega) only [↓pre, sp, sp2, wp_some, Int.cast_ofNat_Int, Nat.reduceAdd, Nat.reduceMul, Nat.reduceSub, Nat.reduceLeDiff, Nat.reduceEqDiff, Nat.reducePow, Int.reduceToNat, Int.reducePow, Int.reduceAdd, Int.reduceSub, Int.reduceMul, Int.reduceLT, Int.reduceLE, Int.reduceEq, Int.reduceNeg, c4, c4', decide_true, beq_self_eq_true, Bool.not_true, rd, row_rw gcd, splice_def]
      refine Wp.bind (frame_spec H.p (n + 1) kd_.w' sd sad) fun vf hf ⟨kf, ef⟩ => ?_
      subst ef
      simp -dsimp (disch := omega) only [↓pre, sp, sp2, wp_some, Int.cast_ofNat_Int, Nat.reduceAdd, Nat.reduceMul, Nat.reduceSub, Nat.reduceLeDiff, Nat.reduceEqDiff, Nat.reducePow, Int.reduceToNat, Int.reducePow, Int.reduceAdd, Int.reduceSub, Int.reduceMul, Int.reduceLT, Int.reduceLE, Int.reduceEq, Int.reduceNeg, and_self, decide_true]
      exact hj2 _ _ ⟨rfl, kf⟩
    · have c4' : ¬ (((nextM L bad).2.2.2.1 : Nat) : Int) > 0 := by omega
      simp -dsimp (disch := omega) only [↓pre, sp, sp2, wp_some, Int.cast_ofNat_Int, Nat.reduceAdd, Nat.reduceMul, Nat.reduceSub, Nat.reduceLeDiff, Nat.reduceEqDiff, Nat.reducePow, Int.reduceToNat, Int.reducePow, Int.reduceAdd, Int.reduceSub, Int.reduceMul, Int.reduceLT, Int.reduceLE, Int.reduceEq, Int.reduceNeg, c4, c4', decide_false, beq_self_eq_true, Bool.not_true, rd, row_rw gcd, splice_def]
      refine Wp.bind (frame_spec H.p (n + 1) kd_.w' sd sad) fun vf hf ⟨kf, ef⟩ => ?_
      subst ef
      simp -dsimp (disch := omega) only [↓pre, sp, sp2, wp_some, Int.cast_ofNat_Int, Nat.reduceAdd, Nat.reduceMul, Nat.reduceSub, Nat.reduceLeDiff, Nat.reduceEqDiff, Nat.reducePow, Int.reduceToNat, Int.reducePow, Int.reduceAdd, Int.reduceSub, Int.reduceMul, Int.reduceLT, Int.reduceLE, Int.reduceEq, Int.reduceNeg, and_self, decide_true]
      exact hj2 _ _ ⟨rfl, kf⟩
  rintro _ he ⟨rfl, ke_⟩
  have K6d : Ke (fun i => i = p ∨ i = q) h6 hd := ((Kp.ke k69).trans (k9c.mono fun i hi => .inl hi)).trans (kd_.mono fun i hi => .inr hi)
  have oe : Ob he hv6 L := (o6'.ke K6d fun i hi hh => by
    rcases hh with hh | hh
    · exact (nh6 i hi).2.1 hh
    · have := Ow.bk_lt K6.w' o6' hi; have := k7.n; omega).kp ke_
  obtain ⟨v8, e8, o8, f8⟩ := oe.cutL (p := .i64) (a := (((nextM L bad).2.2.2.1 : Nat) : Int)) (by omega) (by omega)
  have ei : ((i : Int) + 1) = ((i + 1 : Nat) : Int) := by omega
  simp -dsimp (disch := omega) only [↓pre, sp, sp2, wp_some, Int.cast_ofNat_Int, Nat.reduceAdd, Nat.reduceMul, Nat.reduceSub, Nat.reduceLeDiff, Nat.reduceEqDiff, Nat.reducePow, Int.reduceToNat, Int.reducePow, Int.reduceAdd, Int.reduceSub, Int.reduceMul, Int.reduceLT, Int.reduceLE, Int.reduceEq, Int.reduceNeg, e8, ei]
  have hpp : p ≠ q := by omega
  have stc := sta.kp kac
  have std : Str hd p (L.drop (nextM L bad).2.2.2.1) (nextM L bad).2.2.2.2 c' := stc.keN kd_ fun i hi => by
    subst hi
    refine ⟨by omega, ?_⟩
    obtain ⟨v, g, o, f⟩ := stc
    exact NotHeld.of (row_rw g) (o.ne_elem (e2 := T_api_Frame) (by decide) g9c)
  have nhe : ∀ k, isBk v8 k → NotHeld he p k := fun k hk => by
    have hk6 := f8 k hk
    have h1 := Ow.bk_lt K6.w' o6' hk6
    have n9 := st6.not_ke k69 (fun f => f) (nh6 k hk6).2.2
    have na' := na k (by have := k69.n; omega) n9
    exact std.not_ke ke_ (fun f => f) (stc.not_ke kd_ hpp (sta.not_ke kac (fun f => f) na'))
  refine hj (m - 1) _ _ (by omega) ⟨i + 1, v8, L.drop (nextM L bad).2.2.2.1, (nextM L bad).2.2.2.2, c', rfl, by omega, ?_, o8.to (by rw [bytesOf_drop]; simp) (by rw [List.length_drop]; simp), std.kp ke_, by omega, by rw [List.length_drop]; omega, fun k hk => ⟨(nh6 k (f8 k hk)).1, (nh6 k (f8 k hk)).2.1, nhe k hk⟩⟩
  exact (Ke.new_p K6 K6d fun i hi => by
    rcases hi with hi | hi
    · omega
    · have := k7.n; have := K6.n; omega).trans ke_

theorem flatF_len : ∀ fs : List Frm, (∀ f ∈ fs, okF f) → ((fs.map frB).flatten).length ≤ 260 * fs.length
  | [], _ => by simp
  | f :: fs, h => by
      have ⟨_, _, h3⟩ := h f (by simp)
      have := flatF_len fs fun g hg => h g (by simp [hg])
      simp only [List.map_cons, List.flatten_cons, List.length_append, List.length_cons] at this ⊢
      have : (frB f).length = f.2.2.length + 7 := by simp [frB, headOf]
      omega
theorem Sz.lda {cs : List AVal} {fs : List Frm} {R : AVal → Prop} (o : Sz h v 3 fs.length cs md) (fa : FrA h md' R cs fs) {i : Nat} {f : Frm} (hf : fs[i]? = some f) :
    ∃ u, rLoadA 3 (ea v (i * 3)) h = some (.agg [.int .u16 f.1, .int .u8 f.2.1, u]) ∧ Bs h u f.2.2 md' ∧ R u := by
  obtain ⟨u, e1, b, r⟩ := fa.2 i f hf
  have hi := Ow.lda.lt_of_at'' hf
  refine ⟨u, ?_, b, r⟩
  rw [o.ldA (by rw [fa.1]; omega) (by omega), e1]

theorem streamWrites (H : Ov6 ov) (n : Nat) (w : Wf h) {cs : List AVal} {fs : List Frm} {cuts : List UInt8} (s : Sz h a 3 fs.length cs .ro) (fa : FrA h .ro (fun _ => True) cs fs) (hok : ∀ f ∈ fs, f.1 < 65536 ∧ f.2.1 < 256) (sc : Bs h b cuts .ro) :
    Wp (kc ov (n + 5) N_runglaw6_StreamWrites [a, b] h) fun r h' => r = .bool true := by
  rw [C_runglaw6_StreamWrites H.p]; unfold F_runglaw6_StreamWrites
  simp -dsimp (disch := omega) only [↓pre, sp, sp2, wp_some, Int.cast_ofNat_Int, Nat.reduceAdd, Nat.reduceMul, Nat.reduceSub, Nat.reduceLeDiff, Nat.reduceEqDiff, Nat.reducePow, Int.reduceToNat, Int.reducePow, Int.reduceAdd, Int.reduceSub, Int.reduceMul, Int.reduceLT, Int.reduceLE, Int.reduceEq, Int.reduceNeg, known_spec H, s.len]
  refine wp_kT (.bool (decide (fs.length > 30 ∨ cuts.length > 400))) (fun j hj => ?_) ?_
  · by_cases c : (fs.length : Int) > 30
    · simp -dsimp (disch := omega) only [↓pre, sp, sp2, wp_some, Int.cast_ofNat_Int, Nat.reduceAdd, Nat.reduceMul, Nat.reduceSub, Nat.reduceLeDiff, Nat.reduceEqDiff, Nat.reducePow, Int.reduceToNat, Int.reducePow, Int.reduceAdd, Int.reduceSub, Int.reduceMul, Int.reduceLT, Int.reduceLE, Int.reduceEq, Int.reduceNeg, c]; simpa [show fs.length > 30 by omega] using hj
    · simp -dsimp (disch := omega) only [↓pre, sp, sp2, wp_some, Int.cast_ofNat_Int, Nat.reduceAdd, Nat.reduceMul, Nat.reduceSub, Nat.reduceLeDiff, Nat.reduceEqDiff, Nat.reducePow, Int.reduceToNat, Int.reducePow, Int.reduceAdd, Int.reduceSub, Int.reduceMul, Int.reduceLT, Int.reduceLE, Int.reduceEq, Int.reduceNeg, c, sc.len]
      have e : ((cuts.length : Int) > 400) ↔ cuts.length > 400 := by omega
      simpa only [e, show ¬ fs.length > 30 by omega, false_or] using hj
  simp -dsimp (disch := omega) only [↓pre, sp, sp2, wp_some, Int.cast_ofNat_Int, Nat.reduceAdd, Nat.reduceMul, Nat.reduceSub, Nat.reduceLeDiff, Nat.reduceEqDiff, Nat.reducePow, Int.reduceToNat, Int.reducePow, Int.reduceAdd, Int.reduceSub, Int.reduceMul, Int.reduceLT, Int.reduceLE, Int.reduceEq, Int.reduceNeg]
  refine wp_ite (fun c => ?_) (fun c => ?_)
  · simp -dsimp (disch := omega) only [↓pre, sp, sp2, wp_some, Int.cast_ofNat_Int, Nat.reduceAdd, Nat.reduceMul, Nat.reduceSub, Nat.reduceLeDiff, Nat.reduceEqDiff, Nat.reducePow, Int.reduceToNat, Int.reducePow, Int.reduceAdd, Int.reduceSub, Int.reduceMul, Int.reduceLT, Int.reduceLE, Int.reduceEq, Int.reduceNeg]
  refine wp_loop (fun m x h2 => ∃ (i : Nat) (bv : AVal), x = [bv, .int .i64 i] ∧ i + m = fs.length ∧ Kp h h2 ∧ Ob h2 bv (((fs.take i).map frB).flatten) ∧ (∀ k, isBk bv k → h.n ≤ k) ∧ ∀ f ∈ fs.take i, okF f) fs.length (by omega)
    ⟨0, .slice none 0 0, rfl, by omega, Ke.refl w, Ow.nil _ _ _ (by omega), fun k hk => hk.elim, by simp⟩ ?_
  rintro m _ h2 j ⟨i, bv, rfl, him, k2, o2, f2, ok2⟩ hj
  have s2 := s.ro k2
  have fa2 := fa.mono (h' := h2) (md' := .ro) (R' := fun _ => True) fun v x _ b r => ⟨b.kp k2, r⟩
  unfold L_runglaw6_StreamWrites_1
  simp -dsimp (disch := omega) only [↓pre, sp, sp2, wp_some, Int.cast_ofNat_Int, Nat.reduceAdd, Nat.reduceMul, Nat.reduceSub, Nat.reduceLeDiff, Nat.reduceEqDiff, Nat.reducePow, Int.reduceToNat, Int.reducePow, Int.reduceAdd, Int.reduceSub, Int.reduceMul, Int.reduceLT, Int.reduceLE, Int.reduceEq, Int.reduceNeg, s2.len]
  refine wp_ite (fun c1 => ?_) (fun c1 => ?_)
  · have hfi : fs[i]? = some fs[i] := List.getElem?_eq_getElem (by omega)
    generalize fs[i] = f at hfi
    obtain ⟨u, e3, b3, _⟩ := s2.lda fa2 hfi
    have hfm := hok f (List.mem_of_getElem? hfi)
    simp -dsimp (disch := omega) only [↓pre, sp, sp2, wp_some, Int.cast_ofNat_Int, Nat.reduceAdd, Nat.reduceMul, Nat.reduceSub, Nat.reduceLeDiff, Nat.reduceEqDiff, Nat.reducePow, Int.reduceToNat, Int.reducePow, Int.reduceAdd, Int.reduceSub, Int.reduceMul, Int.reduceLT, Int.reduceLE, Int.reduceEq, Int.reduceNeg, s2.at, e3]
    refine Wp.bind (mbap_spec H.p _ k2.w' hfm.1 hfm.2 b3) fun v4 h4 ⟨k4, q4⟩ => ?_
    split at q4
    · subst q4
      simp -dsimp (disch := omega) only [↓pre, sp, sp2, wp_some, Int.cast_ofNat_Int, Nat.reduceAdd, Nat.reduceMul, Nat.reduceSub, Nat.reduceLeDiff, Nat.reduceEqDiff, Nat.reducePow, Int.reduceToNat, Int.reducePow, Int.reduceAdd, Int.reduceSub, Int.reduceMul, Int.reduceLT, Int.reduceLE, Int.reduceEq, Int.reduceNeg]
    · rename_i c4
      obtain ⟨v5, rfl, o5, f5⟩ := q4
      have hfl := flatF_len _ ok2
      have htl : (fs.take i).length = i := by rw [List.length_take]; omega
      have hbl : (frB f).length = f.2.2.length + 7 := by simp [frB, headOf]
      simp -dsimp (disch := omega) only [↓pre, sp, sp2, wp_some, Int.cast_ofNat_Int, Nat.reduceAdd, Nat.reduceMul, Nat.reduceSub, Nat.reduceLeDiff, Nat.reduceEqDiff, Nat.reducePow, Int.reduceToNat, Int.reducePow, Int.reduceAdd, Int.reduceSub, Int.reduceMul, Int.reduceLT, Int.reduceLE, Int.reduceEq, Int.reduceNeg]
      refine wp_append k4.w' (o2.kp k4) o5.rd (isCell_bytes _) (by omega) (by rw [htl] at hfl; unfold frB at hbl; omega) fun v6 h6 o6 k6 f6 => ?_
      rw [← bytesOf_append] at o6
      have ei : ((i : Int) + 1) = ((i + 1 : Nat) : Int) := by omega
      simp -dsimp (disch := omega) only [↓pre, sp, sp2, wp_some, Int.cast_ofNat_Int, Nat.reduceAdd, Nat.reduceMul, Nat.reduceSub, Nat.reduceLeDiff, Nat.reduceEqDiff, Nat.reducePow, Int.reduceToNat, Int.reducePow, Int.reduceAdd, Int.reduceSub, Int.reduceMul, Int.reduceLT, Int.reduceLE, Int.reduceEq, Int.reduceNeg, ei]
      have et : fs.take (i + 1) = fs.take i ++ [f] := by
        have hi : i < fs.length := by omega
        rw [List.getElem?_eq_getElem hi] at hfi
        cases hfi
        rw [List.take_succ_eq_append_getElem hi]
      refine hj (m - 1) _ _ (by omega) ⟨i + 1, v6, rfl, by omega, Ke.new_p (k2.trans k4) k6 f2, ?_, fun k hk => ?_, ?_⟩
      · rw [et]
        simp only [List.map_append, List.map_cons, List.map_nil, List.flatten_append, List.flatten_cons, List.flatten_nil, List.append_nil]
        exact o6.to rfl (by simp [frB])
      · rcases f6 k hk with f | f
        · exact f2 k f
        · have := (k2.trans k4).n; omega
      · rw [et]
        intro g hg
        rcases List.mem_append.1 hg with hg | hg
        · exact ok2 g hg
        · simp only [List.mem_singleton] at hg; subst hg; exact ⟨hfm.1, hfm.2, c4⟩
  · have eall : fs.take i = fs := List.take_of_length_le (by omega)
    rw [eall] at o2 ok2
    have hfl := flatF_len _ ok2
    have ht := told_frames fs ok2
    (try simp -dsimp (disch := omega) only [↓pre, sp, sp2, wp_some, Int.cast_ofNat_Int, Nat.reduceAdd, Nat.reduceMul, Nat.reduceSub, Nat.reduceLeDiff, Nat.reduceEqDiff, Nat.reducePow, Int.reduceToNat, Int.reducePow, Int.reduceAdd, Int.reduceSub, Int.reduceMul, Int.reduceLT, Int.reduceLE, Int.reduceEq, Int.reduceNeg])
    refine Wp.bind (frames_spec H n k2.w' o2.rd (sc.kp k2) (by omega) (by omega)) fun v3 h3 ⟨k3, out, cs3, e3, o3, fa3⟩ => ?_
    rw [ht] at e3 o3 fa3
    subst e3
    simp -dsimp (disch := omega) only [↓pre, sp, sp2, wp_some, Int.cast_ofNat_Int, Nat.reduceAdd, Nat.reduceMul, Nat.reduceSub, Nat.reduceLeDiff, Nat.reduceEqDiff, Nat.reducePow, Int.reduceToNat, Int.reducePow, Int.reduceAdd, Int.reduceSub, Int.reduceMul, Int.reduceLT, Int.reduceLE, Int.reduceEq, Int.reduceNeg]
    refine wp_kT (.bool false) (fun j hj => ?_) ?_
    · simp -dsimp (disch := omega) only [↓pre, sp, sp2, wp_some, Int.cast_ofNat_Int, Nat.reduceAdd, Nat.reduceMul, Nat.reduceSub, Nat.reduceLeDiff, Nat.reduceEqDiff, Nat.reducePow, Int.reduceToNat, Int.reducePow, Int.reduceAdd, Int.reduceSub, Int.reduceMul, Int.reduceLT, Int.reduceLE, Int.reduceEq, Int.reduceNeg, (Ow.rd o3).len, s.len]; exact hj
    simp -dsimp (disch := omega) only [↓pre, sp, sp2, wp_some, Int.cast_ofNat_Int, Nat.reduceAdd, Nat.reduceMul, Nat.reduceSub, Nat.reduceLeDiff, Nat.reduceEqDiff, Nat.reducePow, Int.reduceToNat, Int.reducePow, Int.reduceAdd, Int.reduceSub, Int.reduceMul, Int.reduceLT, Int.reduceLE, Int.reduceEq, Int.reduceNeg]
    have K3 := k2.trans k3
    refine wp_loop (fun m x h4 => ∃ (i : Nat), x = [.int .i64 i] ∧ i + m = fs.length ∧ Kp h3 h4) fs.length (by omega) ⟨0, rfl, by omega, Ke.refl k3.w'⟩ ?_
    rintro m4 _ h4 j4 ⟨i4, rfl, him4, k4⟩ hj4
    have K4 := K3.trans k4
    have s4 := s.ro K4
    have fa4 := fa.mono (h' := h4) (md' := .ro) (R' := fun _ => True) fun v x _ b r => ⟨b.kp K4, r⟩
    have o4 := o3.kp k4
    have fo4 := fa3.mono (h' := h4) (md' := .rw) (R' := fun _ => True) fun v x _ b r => ⟨b.kp k4, r⟩
    unfold L_runglaw6_StreamWrites_0
    simp -dsimp (disch := omega) only [↓pre, sp, sp2, wp_some, Int.cast_ofNat_Int, Nat.reduceAdd, Nat.reduceMul, Nat.reduceSub, Nat.reduceLeDiff, Nat.reduceEqDiff, Nat.reducePow, Int.reduceToNat, Int.reducePow, Int.reduceAdd, Int.reduceSub, Int.reduceMul, Int.reduceLT, Int.reduceLE, Int.reduceEq, Int.reduceNeg, s4.len]
    refine wp_ite (fun c4 => ?_) (fun c4 => ?_)
    · have hfi : fs[i4]? = some fs[i4] := List.getElem?_eq_getElem (by omega)
      generalize fs[i4] = f at hfi
      obtain ⟨u, e5, b5, _⟩ := s4.lda fa4 hfi
      obtain ⟨u2, e6, b6, _⟩ := o4.lda fo4 hfi
      simp -dsimp (disch := omega) only [↓pre, sp, sp2, wp_some, Int.cast_ofNat_Int, Nat.reduceAdd, Nat.reduceMul, Nat.reduceSub, Nat.reduceLeDiff, Nat.reduceEqDiff, Nat.reducePow, Int.reduceToNat, Int.reducePow, Int.reduceAdd, Int.reduceSub, Int.reduceMul, Int.reduceLT, Int.reduceLE, Int.reduceEq, Int.reduceNeg, s4.at, (Ow.rd o4).at, e5, e6]
      refine Wp.bind (frame_spec H.p _ k4.w' b6 b5) fun v7 h7 ⟨k7, e7⟩ => ?_
      subst e7
      have ei : ((i4 : Int) + 1) = ((i4 + 1 : Nat) : Int) := by omega
      simp -dsimp (disch := omega) only [↓pre, sp, sp2, wp_some, Int.cast_ofNat_Int, Nat.reduceAdd, Nat.reduceMul, Nat.reduceSub, Nat.reduceLeDiff, Nat.reduceEqDiff, Nat.reducePow, Int.reduceToNat, Int.reducePow, Int.reduceAdd, Int.reduceSub, Int.reduceMul, Int.reduceLT, Int.reduceLE, Int.reduceEq, Int.reduceNeg, and_self, decide_true, ei]
      exact hj4 (m4 - 1) _ _ (by omega) ⟨i4 + 1, rfl, by omega, k4.trans k7⟩
    · simp -dsimp (disch := omega) only [↓pre, sp, sp2, wp_some, Int.cast_ofNat_Int, Nat.reduceAdd, Nat.reduceMul, Nat.reduceSub, Nat.reduceLeDiff, Nat.reduceEqDiff, Nat.reducePow, Int.reduceToNat, Int.reducePow, Int.reduceAdd, Int.reduceSub, Int.reduceMul, Int.reduceLT, Int.reduceLE, Int.reduceEq, Int.reduceNeg]
end Go.Proofs.Ytfnmgclalcoplaa.AI
