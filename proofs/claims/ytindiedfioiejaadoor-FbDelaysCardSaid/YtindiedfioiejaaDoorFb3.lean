/- Chapter 17: what each timer does. -/
import Derived.Test.YtindiedfioiejaaDoorFb2
namespace Go.Proofs.YtindiedfioiejaaDoor.AI
open Go
set_option linter.unusedSimpArgs false
set_option linter.unusedVariables false
variable {ov : AOver} {h : AH}
theorem pt_put (s : Stt) (x : Int) : (s.put pET x).pt = s.pt := by simp (decide := true) [Stt.pt, Stt.put, upd]
theorem ton_spec (H : Plain ov) (n : Nat) (w : Wf h) {p m : Nat} {s : Stt} (t : Fs h p m s) :
    Wp (kc ov (n + 5) N__fb_ton_step [.agg [], .ptr (some (p, 0))] h) (StepQ h p m (tonM s)) := by
  rw [C__fb_ton_step H]; unfold F__fb_ton_step
  refine wp_box w rfl rfl fun q h1 hq k1 n1 g1 => ?_
  have t1 := t.kp k1
  (try simp -dsimp (disch := omega) only [↓pre, sp, sp2, wp_some, Int.cast_ofNat_Int, Nat.reduceAdd, Nat.reduceMul, Nat.reduceSub, Nat.reduceLeDiff, Nat.reduceEqDiff, Nat.reducePow, Int.reduceToNat, Int.reducePow, Int.reduceAdd, Int.reduceSub, Int.reduceMul, Int.reduceLT, Int.reduceLE, Int.reduceEq, Int.reduceNeg])
  refine Wp.bind (rises_spec H (n + 2) k1.w' t1 pIN 0 (by omega)) fun v h2 ⟨k2, e, t2⟩ => ?_
  subst e
  have k02 : Ke (pm p m) h h2 := k1.ke.trans k2
  have hT : tonM s = (let s2 := if s.rises pIN 0 then ((s.risen pIN 0).keep 1 s.now).keep 2 0 else s.risen pIN 0
    if s2.is pIN then
      if s2.k2 = 1 then (s2.put pET s2.pt).put pQ 1
      else let s3 := s2.put pET s2.elapsed
           let s4 := s3.set pQ (decide (s2.elapsed ≥ s2.pt))
           s4.keep 2 (s4.f pQ)
    else ((s2.put pET 0).put pQ 0).keep 2 0) := rfl
  rw [hT]
  have hnow : (s.risen pIN 0).now = s.now := rfl
  generalize s.risen pIN 0 = s1 at *
  refine wp_kJ (fun l h3 => l = [] ∧ Ke (pm p m) h h3 ∧ Fs h3 p m (if s.rises pIN 0 then (s1.keep 1 s.now).keep 2 0 else s1)) (fun j hj => ?_) ?_
  · cases hr : s.rises pIN 0
    · (try simp -dsimp (disch := omega) only [↓pre, sp, sp2, wp_some, Int.cast_ofNat_Int, Nat.reduceAdd, Nat.reduceMul, Nat.reduceSub, Nat.reduceLeDiff, Nat.reduceEqDiff, Nat.reducePow, Int.reduceToNat, Int.reducePow, Int.reduceAdd, Int.reduceSub, Int.reduceMul, Int.reduceLT, Int.reduceLE, Int.reduceEq, Int.reduceNeg])
      rw [hr] at hj
      exact hj _ _ ⟨rfl, k02, t2⟩
    · rw [hr] at hj
      (try simp -dsimp (disch := omega) only [↓pre, sp, sp2, wp_some, Int.cast_ofNat_Int, Nat.reduceAdd, Nat.reduceMul, Nat.reduceSub, Nat.reduceLeDiff, Nat.reduceEqDiff, Nat.reducePow, Int.reduceToNat, Int.reducePow, Int.reduceAdd, Int.reduceSub, Int.reduceMul, Int.reduceLT, Int.reduceLE, Int.reduceEq, Int.reduceNeg, t2.row, sp5])
      refine wp_keep k2.w' t2 1 (by omega) _ rfl fun h3 k3 n3 t3 => ?_
      (try simp -dsimp (disch := omega) only [↓pre, sp, sp2, wp_some, Int.cast_ofNat_Int, Nat.reduceAdd, Nat.reduceMul, Nat.reduceSub, Nat.reduceLeDiff, Nat.reduceEqDiff, Nat.reducePow, Int.reduceToNat, Int.reducePow, Int.reduceAdd, Int.reduceSub, Int.reduceMul, Int.reduceLT, Int.reduceLE, Int.reduceEq, Int.reduceNeg, t3.row, sp5])
      refine wp_keep k3.w' t3 2 (by omega) _ rfl fun h4 k4 n4 t4 => ?_
      (try simp -dsimp (disch := omega) only [↓pre, sp, sp2, wp_some, Int.cast_ofNat_Int, Nat.reduceAdd, Nat.reduceMul, Nat.reduceSub, Nat.reduceLeDiff, Nat.reduceEqDiff, Nat.reducePow, Int.reduceToNat, Int.reducePow, Int.reduceAdd, Int.reduceSub, Int.reduceMul, Int.reduceLT, Int.reduceLE, Int.reduceEq, Int.reduceNeg, t4.row])
      rw [hnow] at t4
      exact hj _ _ ⟨rfl, (k02.trans k3).trans k4, t4⟩
  · rintro _ h3 ⟨rfl, k3, t3⟩
    simp only
    generalize (if s.rises pIN 0 then (s1.keep 1 s.now).keep 2 0 else s1) = s2 at *
    have ei : kc ov (n + 4) N_fb_state_is [.ptr (some (p, 0)), .str [73, 78]] h3 = some (.bool (s2.is pIN), h3) := is_spec H (n + 3) t3 pIN
    (try simp -dsimp (disch := omega) only [↓pre, sp, sp2, wp_some, Int.cast_ofNat_Int, Nat.reduceAdd, Nat.reduceMul, Nat.reduceSub, Nat.reduceLeDiff, Nat.reduceEqDiff, Nat.reducePow, Int.reduceToNat, Int.reducePow, Int.reduceAdd, Int.reduceSub, Int.reduceMul, Int.reduceLT, Int.reduceLE, Int.reduceEq, Int.reduceNeg, ei, kj_eq])
    cases hi : s2.is pIN
    · (try simp -dsimp (disch := omega) only [↓pre, sp, sp2, wp_some, Int.cast_ofNat_Int, Nat.reduceAdd, Nat.reduceMul, Nat.reduceSub, Nat.reduceLeDiff, Nat.reduceEqDiff, Nat.reducePow, Int.reduceToNat, Int.reducePow, Int.reduceAdd, Int.reduceSub, Int.reduceMul, Int.reduceLT, Int.reduceLE, Int.reduceEq, Int.reduceNeg, t3.row, sp5])
      refine wp_ent k3.w' t3 pET fun h4 j k4 n4 t4 => ?_
      (try simp -dsimp (disch := omega) only [↓pre, sp, sp2, wp_some, Int.cast_ofNat_Int, Nat.reduceAdd, Nat.reduceMul, Nat.reduceSub, Nat.reduceLeDiff, Nat.reduceEqDiff, Nat.reducePow, Int.reduceToNat, Int.reducePow, Int.reduceAdd, Int.reduceSub, Int.reduceMul, Int.reduceLT, Int.reduceLE, Int.reduceEq, Int.reduceNeg, t4.st.row])
      refine wp_ents k4.w' t4 0 fun h5 k5 n5 t5 => ?_
      (try simp -dsimp (disch := omega) only [↓pre, sp, sp2, wp_some, Int.cast_ofNat_Int, Nat.reduceAdd, Nat.reduceMul, Nat.reduceSub, Nat.reduceLeDiff, Nat.reduceEqDiff, Nat.reducePow, Int.reduceToNat, Int.reducePow, Int.reduceAdd, Int.reduceSub, Int.reduceMul, Int.reduceLT, Int.reduceLE, Int.reduceEq, Int.reduceNeg, t5.row])
      refine wp_ent k5.w' t5 pQ fun h6 j k6 n6 t6 => ?_
      (try simp -dsimp (disch := omega) only [↓pre, sp, sp2, wp_some, Int.cast_ofNat_Int, Nat.reduceAdd, Nat.reduceMul, Nat.reduceSub, Nat.reduceLeDiff, Nat.reduceEqDiff, Nat.reducePow, Int.reduceToNat, Int.reducePow, Int.reduceAdd, Int.reduceSub, Int.reduceMul, Int.reduceLT, Int.reduceLE, Int.reduceEq, Int.reduceNeg, t6.st.row])
      refine wp_ents k6.w' t6 0 fun h7 k7 n7 t7 => ?_
      (try simp -dsimp (disch := omega) only [↓pre, sp, sp2, wp_some, Int.cast_ofNat_Int, Nat.reduceAdd, Nat.reduceMul, Nat.reduceSub, Nat.reduceLeDiff, Nat.reduceEqDiff, Nat.reducePow, Int.reduceToNat, Int.reducePow, Int.reduceAdd, Int.reduceSub, Int.reduceMul, Int.reduceLT, Int.reduceLE, Int.reduceEq, Int.reduceNeg, t7.row, sp5])
      refine wp_keep k7.w' t7 2 (by omega) _ rfl fun h8 k8 n8 t8 => ?_
      (try simp -dsimp (disch := omega) only [↓pre, sp, sp2, wp_some, Int.cast_ofNat_Int, Nat.reduceAdd, Nat.reduceMul, Nat.reduceSub, Nat.reduceLeDiff, Nat.reduceEqDiff, Nat.reducePow, Int.reduceToNat, Int.reducePow, Int.reduceAdd, Int.reduceSub, Int.reduceMul, Int.reduceLT, Int.reduceLE, Int.reduceEq, Int.reduceNeg, t8.row])
      exact ⟨((((k3.trans k4).trans k5).trans k6).trans k7).trans k8, rfl, t8⟩
    · (try simp -dsimp (disch := omega) only [↓pre, sp, sp2, wp_some, Int.cast_ofNat_Int, Nat.reduceAdd, Nat.reduceMul, Nat.reduceSub, Nat.reduceLeDiff, Nat.reduceEqDiff, Nat.reducePow, Int.reduceToNat, Int.reducePow, Int.reduceAdd, Int.reduceSub, Int.reduceMul, Int.reduceLT, Int.reduceLE, Int.reduceEq, Int.reduceNeg, t3.row, sp5, kj_eq])
      refine wp_ite (fun c => ?_) (fun c => ?_)
      · have ep : kc ov (n + 4) N_fb_state_pt [.ptr (some (p, 0))] h3 = some (.int .i64 s2.pt, h3) := pt_spec H (n + 3) t3
        (try simp -dsimp (disch := omega) only [↓pre, sp, sp2, wp_some, Int.cast_ofNat_Int, Nat.reduceAdd, Nat.reduceMul, Nat.reduceSub, Nat.reduceLeDiff, Nat.reduceEqDiff, Nat.reducePow, Int.reduceToNat, Int.reducePow, Int.reduceAdd, Int.reduceSub, Int.reduceMul, Int.reduceLT, Int.reduceLE, Int.reduceEq, Int.reduceNeg, t3.row, ep])
        refine wp_ent k3.w' t3 pET fun h4 j k4 n4 t4 => ?_
        (try simp -dsimp (disch := omega) only [↓pre, sp, sp2, wp_some, Int.cast_ofNat_Int, Nat.reduceAdd, Nat.reduceMul, Nat.reduceSub, Nat.reduceLeDiff, Nat.reduceEqDiff, Nat.reducePow, Int.reduceToNat, Int.reducePow, Int.reduceAdd, Int.reduceSub, Int.reduceMul, Int.reduceLT, Int.reduceLE, Int.reduceEq, Int.reduceNeg, t4.st.row])
        refine wp_ents k4.w' t4 _ fun h5 k5 n5 t5 => ?_
        (try simp -dsimp (disch := omega) only [↓pre, sp, sp2, wp_some, Int.cast_ofNat_Int, Nat.reduceAdd, Nat.reduceMul, Nat.reduceSub, Nat.reduceLeDiff, Nat.reduceEqDiff, Nat.reducePow, Int.reduceToNat, Int.reducePow, Int.reduceAdd, Int.reduceSub, Int.reduceMul, Int.reduceLT, Int.reduceLE, Int.reduceEq, Int.reduceNeg, t5.row])
        refine wp_ent k5.w' t5 pQ fun h6 j k6 n6 t6 => ?_
        (try simp -dsimp (disch := omega) only [↓pre, sp, sp2, wp_some, Int.cast_ofNat_Int, Nat.reduceAdd, Nat.reduceMul, Nat.reduceSub, Nat.reduceLeDiff, Nat.reduceEqDiff, Nat.reducePow, Int.reduceToNat, Int.reducePow, Int.reduceAdd, Int.reduceSub, Int.reduceMul, Int.reduceLT, Int.reduceLE, Int.reduceEq, Int.reduceNeg, t6.st.row])
        refine wp_ents k6.w' t6 1 fun h7 k7 n7 t7 => ?_
        (try simp -dsimp (disch := omega) only [↓pre, sp, sp2, wp_some, Int.cast_ofNat_Int, Nat.reduceAdd, Nat.reduceMul, Nat.reduceSub, Nat.reduceLeDiff, Nat.reduceEqDiff, Nat.reducePow, Int.reduceToNat, Int.reducePow, Int.reduceAdd, Int.reduceSub, Int.reduceMul, Int.reduceLT, Int.reduceLE, Int.reduceEq, Int.reduceNeg, t7.row])
        refine ⟨(((k3.trans k4).trans k5).trans k6).trans k7, rfl, ?_⟩
        rw [if_pos c]; exact t7
      · (try simp -dsimp (disch := omega) only [↓pre, sp, sp2, wp_some, Int.cast_ofNat_Int, Nat.reduceAdd, Nat.reduceMul, Nat.reduceSub, Nat.reduceLeDiff, Nat.reduceEqDiff, Nat.reducePow, Int.reduceToNat, Int.reducePow, Int.reduceAdd, Int.reduceSub, Int.reduceMul, Int.reduceLT, Int.reduceLE, Int.reduceEq, Int.reduceNeg, t3.row])
        refine Wp.bind (elapsed_spec H n k3.w' t3) fun v h4 ⟨k4, e⟩ => ?_
        subst e
        have t4 := t3.kp k4
        (try simp -dsimp (disch := omega) only [↓pre, sp, sp2, wp_some, Int.cast_ofNat_Int, Nat.reduceAdd, Nat.reduceMul, Nat.reduceSub, Nat.reduceLeDiff, Nat.reduceEqDiff, Nat.reducePow, Int.reduceToNat, Int.reducePow, Int.reduceAdd, Int.reduceSub, Int.reduceMul, Int.reduceLT, Int.reduceLE, Int.reduceEq, Int.reduceNeg, t4.row])
        refine wp_put k4.w' t4 pET _ fun h5 k5 n5 t5 => ?_
        have e5 : rLook .string (.int .i64 0) false (.map (some m)) (.str [69, 84]) h5 = some (.int .i64 s2.elapsed) := by rw [show s2.elapsed = (s2.put pET s2.elapsed).f pET by simp [Stt.put, upd]]; exact t5.look pET
        have ep : kc ov (n + 4) N_fb_state_pt [.ptr (some (p, 0))] h5 = some (.int .i64 s2.pt, h5) := by rw [← pt_put s2 s2.elapsed]; exact pt_spec H (n + 3) t5
        (try simp -dsimp (disch := omega) only [↓pre, sp, sp2, wp_some, Int.cast_ofNat_Int, Nat.reduceAdd, Nat.reduceMul, Nat.reduceSub, Nat.reduceLeDiff, Nat.reduceEqDiff, Nat.reducePow, Int.reduceToNat, Int.reducePow, Int.reduceAdd, Int.reduceSub, Int.reduceMul, Int.reduceLT, Int.reduceLE, Int.reduceEq, Int.reduceNeg, t5.row, e5, ep])
        refine Wp.bind (set_spec H (n + 2) k5.w' t5 pQ _) fun v h6 ⟨k6, e, t6⟩ => ?_
        have e6 := t6.look pQ
        unfold pQ at e6
        (try simp -dsimp (disch := omega) only [↓pre, sp, sp2, wp_some, Int.cast_ofNat_Int, Nat.reduceAdd, Nat.reduceMul, Nat.reduceSub, Nat.reduceLeDiff, Nat.reduceEqDiff, Nat.reducePow, Int.reduceToNat, Int.reducePow, Int.reduceAdd, Int.reduceSub, Int.reduceMul, Int.reduceLT, Int.reduceLE, Int.reduceEq, Int.reduceNeg, t6.row, sp5, e6])
        refine wp_keep k6.w' t6 2 (by omega) _ rfl fun h7 k7 n7 t7 => ?_
        (try simp -dsimp (disch := omega) only [↓pre, sp, sp2, wp_some, Int.cast_ofNat_Int, Nat.reduceAdd, Nat.reduceMul, Nat.reduceSub, Nat.reduceLeDiff, Nat.reduceEqDiff, Nat.reducePow, Int.reduceToNat, Int.reducePow, Int.reduceAdd, Int.reduceSub, Int.reduceMul, Int.reduceLT, Int.reduceLE, Int.reduceEq, Int.reduceNeg, t7.row])
        refine ⟨(((k3.trans k4.ke).trans k5).trans k6).trans k7, rfl, ?_⟩
        rw [if_neg c]; exact t7
theorem is_keep (s : Stt) (i : Nat) (x : Int) (k : Nm) : (s.keep i x).is k = s.is k := by unfold Stt.is; congr 2; unfold Stt.keep; split; rfl; split <;> rfl
theorem is_set (s : Stt) (k : Nm) (b : Bool) : (s.set k b).is k = b := by cases b <;> simp [Stt.is, Stt.set, Stt.put, upd, tr]
theorem pt_set (s : Stt) (x : Int) : (s.put pET x).pt = s.pt := pt_put s x
theorem k0_put (s : Stt) (k : Nm) (x : Int) : (s.put k x).k2 = s.k2 := rfl
theorem tof_spec (H : Plain ov) (n : Nat) (w : Wf h) {p m : Nat} {s : Stt} (t : Fs h p m s) :
    Wp (kc ov (n + 5) N__fb_tof_step [.agg [], .ptr (some (p, 0))] h) (StepQ h p m (tofM s)) := by
  rw [C__fb_tof_step H]; unfold F__fb_tof_step
  refine wp_box w rfl rfl fun q h1 hq k1 n1 g1 => ?_
  have t1 := t.kp k1
  have ei : kc ov (n + 4) N_fb_state_is [.ptr (some (p, 0)), .str [73, 78]] h1 = some (.bool (s.is pIN), h1) := is_spec H (n + 3) t1 pIN
  have et : kc ov (n + 4) N_fb_truth [.bool (s.is pIN)] h1 = some (.int .i64 (tr (s.is pIN)), h1) := fbtruth_spec H (n + 3) _
  (try simp -dsimp (disch := omega) only [↓pre, sp, sp2, wp_some, Int.cast_ofNat_Int, Nat.reduceAdd, Nat.reduceMul, Nat.reduceSub, Nat.reduceLeDiff, Nat.reduceEqDiff, Nat.reducePow, Int.reduceToNat, Int.reducePow, Int.reduceAdd, Int.reduceSub, Int.reduceMul, Int.reduceLT, Int.reduceLE, Int.reduceEq, Int.reduceNeg, t1.row, sp5, ei, et])
  refine wp_keep k1.w' t1 0 (by omega) _ rfl fun h2 k2 n2 t2 => ?_
  have ei2 : kc ov (n + 4) N_fb_state_is [.ptr (some (p, 0)), .str [73, 78]] h2 = some (.bool (s.is pIN), h2) := by rw [← is_keep s 0 (tr (s.is pIN)) pIN]; exact is_spec H (n + 3) t2 pIN
  have k02 : Ke (pm p m) h h2 := k1.ke.trans k2
  (try simp -dsimp (disch := omega) only [↓pre, sp, sp2, wp_some, Int.cast_ofNat_Int, Nat.reduceAdd, Nat.reduceMul, Nat.reduceSub, Nat.reduceLeDiff, Nat.reduceEqDiff, Nat.reducePow, Int.reduceToNat, Int.reducePow, Int.reduceAdd, Int.reduceSub, Int.reduceMul, Int.reduceLT, Int.reduceLE, Int.reduceEq, Int.reduceNeg, ei2])
  unfold tofM
  simp only
  cases hi : s.is pIN
  · (try simp -dsimp (disch := omega) only [↓pre, sp, sp2, wp_some, Int.cast_ofNat_Int, Nat.reduceAdd, Nat.reduceMul, Nat.reduceSub, Nat.reduceLeDiff, Nat.reduceEqDiff, Nat.reducePow, Int.reduceToNat, Int.reducePow, Int.reduceAdd, Int.reduceSub, Int.reduceMul, Int.reduceLT, Int.reduceLE, Int.reduceEq, Int.reduceNeg])
    rw [hi] at t2
    have hnow : (s.keep 0 (tr false)).now = s.now := rfl
    generalize s.keep 0 (tr false) = s1 at *
    refine wp_kJ (fun l h3 => l = [] ∧ Ke (pm p m) h h3 ∧ Fs h3 p m (if s.k0 ≠ 0 then (s1.keep 1 s.now).keep 2 1 else s1)) (fun j hj => ?_) ?_
    · (try simp -dsimp (disch := omega) only [↓pre, sp, sp2, wp_some, Int.cast_ofNat_Int, Nat.reduceAdd, Nat.reduceMul, Nat.reduceSub, Nat.reduceLeDiff, Nat.reduceEqDiff, Nat.reducePow, Int.reduceToNat, Int.reducePow, Int.reduceAdd, Int.reduceSub, Int.reduceMul, Int.reduceLT, Int.reduceLE, Int.reduceEq, Int.reduceNeg])
      refine wp_ite (fun c => ?_) (fun c => ?_)
      · (try simp -dsimp (disch := omega) only [↓pre, sp, sp2, wp_some, Int.cast_ofNat_Int, Nat.reduceAdd, Nat.reduceMul, Nat.reduceSub, Nat.reduceLeDiff, Nat.reduceEqDiff, Nat.reducePow, Int.reduceToNat, Int.reducePow, Int.reduceAdd, Int.reduceSub, Int.reduceMul, Int.reduceLT, Int.reduceLE, Int.reduceEq, Int.reduceNeg, t2.row, sp5])
        refine wp_keep k2.w' t2 1 (by omega) _ rfl fun h3 k3 n3 t3 => ?_
        (try simp -dsimp (disch := omega) only [↓pre, sp, sp2, wp_some, Int.cast_ofNat_Int, Nat.reduceAdd, Nat.reduceMul, Nat.reduceSub, Nat.reduceLeDiff, Nat.reduceEqDiff, Nat.reducePow, Int.reduceToNat, Int.reducePow, Int.reduceAdd, Int.reduceSub, Int.reduceMul, Int.reduceLT, Int.reduceLE, Int.reduceEq, Int.reduceNeg, t3.row, sp5])
        refine wp_keep k3.w' t3 2 (by omega) _ rfl fun h4 k4 n4 t4 => ?_
        (try simp -dsimp (disch := omega) only [↓pre, sp, sp2, wp_some, Int.cast_ofNat_Int, Nat.reduceAdd, Nat.reduceMul, Nat.reduceSub, Nat.reduceLeDiff, Nat.reduceEqDiff, Nat.reducePow, Int.reduceToNat, Int.reducePow, Int.reduceAdd, Int.reduceSub, Int.reduceMul, Int.reduceLT, Int.reduceLE, Int.reduceEq, Int.reduceNeg, t4.row])
        rw [hnow] at t4
        exact hj _ _ ⟨rfl, (k02.trans k3).trans k4, by rw [if_pos c]; exact t4⟩
      · exact hj _ _ ⟨rfl, k02, by rw [if_neg c]; exact t2⟩
    · rintro _ h3 ⟨rfl, k3, t3⟩
      generalize (if s.k0 ≠ 0 then (s1.keep 1 s.now).keep 2 1 else s1) = s2 at *
      (try simp -dsimp (disch := omega) only [↓pre, sp, sp2, wp_some, Int.cast_ofNat_Int, Nat.reduceAdd, Nat.reduceMul, Nat.reduceSub, Nat.reduceLeDiff, Nat.reduceEqDiff, Nat.reducePow, Int.reduceToNat, Int.reducePow, Int.reduceAdd, Int.reduceSub, Int.reduceMul, Int.reduceLT, Int.reduceLE, Int.reduceEq, Int.reduceNeg, t3.row, sp5])
      refine wp_ite (fun c => ?_) (fun c => ?_)
      · (try simp -dsimp (disch := omega) only [↓pre, sp, sp2, wp_some, Int.cast_ofNat_Int, Nat.reduceAdd, Nat.reduceMul, Nat.reduceSub, Nat.reduceLeDiff, Nat.reduceEqDiff, Nat.reducePow, Int.reduceToNat, Int.reducePow, Int.reduceAdd, Int.reduceSub, Int.reduceMul, Int.reduceLT, Int.reduceLE, Int.reduceEq, Int.reduceNeg, t3.row])
        refine wp_put k3.w' t3 pQ 0 fun h4 k4 n4 t4 => ?_
        (try simp -dsimp (disch := omega) only [↓pre, sp, sp2, wp_some, Int.cast_ofNat_Int, Nat.reduceAdd, Nat.reduceMul, Nat.reduceSub, Nat.reduceLeDiff, Nat.reduceEqDiff, Nat.reducePow, Int.reduceToNat, Int.reducePow, Int.reduceAdd, Int.reduceSub, Int.reduceMul, Int.reduceLT, Int.reduceLE, Int.reduceEq, Int.reduceNeg])
        refine ⟨k3.trans k4, rfl, ?_⟩
        rw [if_pos c]; exact t4
      · (try simp -dsimp (disch := omega) only [↓pre, sp, sp2, wp_some, Int.cast_ofNat_Int, Nat.reduceAdd, Nat.reduceMul, Nat.reduceSub, Nat.reduceLeDiff, Nat.reduceEqDiff, Nat.reducePow, Int.reduceToNat, Int.reducePow, Int.reduceAdd, Int.reduceSub, Int.reduceMul, Int.reduceLT, Int.reduceLE, Int.reduceEq, Int.reduceNeg, t3.row])
        refine Wp.bind (elapsed_spec H n k3.w' t3) fun v h4 ⟨k4, e⟩ => ?_
        subst e
        have t4 := t3.kp k4
        (try simp -dsimp (disch := omega) only [↓pre, sp, sp2, wp_some, Int.cast_ofNat_Int, Nat.reduceAdd, Nat.reduceMul, Nat.reduceSub, Nat.reduceLeDiff, Nat.reduceEqDiff, Nat.reducePow, Int.reduceToNat, Int.reducePow, Int.reduceAdd, Int.reduceSub, Int.reduceMul, Int.reduceLT, Int.reduceLE, Int.reduceEq, Int.reduceNeg, t4.row])
        refine wp_put k4.w' t4 pET _ fun h5 k5 n5 t5 => ?_
        have e5 : rLook .string (.int .i64 0) false (.map (some m)) (.str [69, 84]) h5 = some (.int .i64 s2.elapsed) := by rw [show s2.elapsed = (s2.put pET s2.elapsed).f pET by simp [Stt.put, upd]]; exact t5.look pET
        have ep : kc ov (n + 4) N_fb_state_pt [.ptr (some (p, 0))] h5 = some (.int .i64 s2.pt, h5) := by rw [← pt_put s2 s2.elapsed]; exact pt_spec H (n + 3) t5
        (try simp -dsimp (disch := omega) only [↓pre, sp, sp2, wp_some, Int.cast_ofNat_Int, Nat.reduceAdd, Nat.reduceMul, Nat.reduceSub, Nat.reduceLeDiff, Nat.reduceEqDiff, Nat.reducePow, Int.reduceToNat, Int.reducePow, Int.reduceAdd, Int.reduceSub, Int.reduceMul, Int.reduceLT, Int.reduceLE, Int.reduceEq, Int.reduceNeg, t5.row, e5, ep])
        refine Wp.bind (set_spec H (n + 2) k5.w' t5 pQ _) fun v h6 ⟨k6, e, t6⟩ => ?_
        subst e
        have k36 : Ke (pm p m) h h6 := ((k3.trans k4.ke).trans k5).trans k6
        have ei4 : kc ov (n + 4) N_fb_state_is [.ptr (some (p, 0)), .str [81]] h6 = some (.bool (decide (s2.elapsed < s2.pt)), h6) := by
          rw [← is_set (s2.put pET s2.elapsed) pQ (decide (s2.elapsed < s2.pt))]; exact is_spec H (n + 3) t6 pQ
        (try simp -dsimp (disch := omega) only [↓pre, sp, sp2, wp_some, Int.cast_ofNat_Int, Nat.reduceAdd, Nat.reduceMul, Nat.reduceSub, Nat.reduceLeDiff, Nat.reduceEqDiff, Nat.reducePow, Int.reduceToNat, Int.reducePow, Int.reduceAdd, Int.reduceSub, Int.reduceMul, Int.reduceLT, Int.reduceLE, Int.reduceEq, Int.reduceNeg, ei4, kj_eq])
        by_cases c5 : s2.elapsed < s2.pt
        · (try simp -dsimp (disch := omega) only [↓pre, sp, sp2, wp_some, Int.cast_ofNat_Int, Nat.reduceAdd, Nat.reduceMul, Nat.reduceSub, Nat.reduceLeDiff, Nat.reduceEqDiff, Nat.reducePow, Int.reduceToNat, Int.reducePow, Int.reduceAdd, Int.reduceSub, Int.reduceMul, Int.reduceLT, Int.reduceLE, Int.reduceEq, Int.reduceNeg, c5])
          refine ⟨k36, rfl, ?_⟩
          simp only [Bool.false_eq_true, if_false, c, c5, if_true]
          simp only [c5] at t6
          exact t6
        · (try simp -dsimp (disch := omega) only [↓pre, sp, sp2, wp_some, Int.cast_ofNat_Int, Nat.reduceAdd, Nat.reduceMul, Nat.reduceSub, Nat.reduceLeDiff, Nat.reduceEqDiff, Nat.reducePow, Int.reduceToNat, Int.reducePow, Int.reduceAdd, Int.reduceSub, Int.reduceMul, Int.reduceLT, Int.reduceLE, Int.reduceEq, Int.reduceNeg, c5, sp5])
          refine wp_keep k6.w' t6 2 (by omega) _ rfl fun h7 k7 n7 t7 => ?_
          (try simp -dsimp (disch := omega) only [↓pre, sp, sp2, wp_some, Int.cast_ofNat_Int, Nat.reduceAdd, Nat.reduceMul, Nat.reduceSub, Nat.reduceLeDiff, Nat.reduceEqDiff, Nat.reducePow, Int.reduceToNat, Int.reducePow, Int.reduceAdd, Int.reduceSub, Int.reduceMul, Int.reduceLT, Int.reduceLE, Int.reduceEq, Int.reduceNeg])
          refine ⟨k36.trans k7, rfl, ?_⟩
          simp only [Bool.false_eq_true, if_false, c, c5]
          simp only [c5] at t7
          exact t7
  · (try simp -dsimp (disch := omega) only [↓pre, sp, sp2, wp_some, Int.cast_ofNat_Int, Nat.reduceAdd, Nat.reduceMul, Nat.reduceSub, Nat.reduceLeDiff, Nat.reduceEqDiff, Nat.reducePow, Int.reduceToNat, Int.reducePow, Int.reduceAdd, Int.reduceSub, Int.reduceMul, Int.reduceLT, Int.reduceLE, Int.reduceEq, Int.reduceNeg, t2.row])
    refine wp_ent k2.w' t2 pQ fun h4 j k4 n4 t4 => ?_
    (try simp -dsimp (disch := omega) only [↓pre, sp, sp2, wp_some, Int.cast_ofNat_Int, Nat.reduceAdd, Nat.reduceMul, Nat.reduceSub, Nat.reduceLeDiff, Nat.reduceEqDiff, Nat.reducePow, Int.reduceToNat, Int.reducePow, Int.reduceAdd, Int.reduceSub, Int.reduceMul, Int.reduceLT, Int.reduceLE, Int.reduceEq, Int.reduceNeg, t4.st.row])
    refine wp_ents k4.w' t4 _ fun h5 k5 n5 t5 => ?_
    (try simp -dsimp (disch := omega) only [↓pre, sp, sp2, wp_some, Int.cast_ofNat_Int, Nat.reduceAdd, Nat.reduceMul, Nat.reduceSub, Nat.reduceLeDiff, Nat.reduceEqDiff, Nat.reducePow, Int.reduceToNat, Int.reducePow, Int.reduceAdd, Int.reduceSub, Int.reduceMul, Int.reduceLT, Int.reduceLE, Int.reduceEq, Int.reduceNeg, t5.row])
    refine wp_ent k5.w' t5 pET fun h6 j k6 n6 t6 => ?_
    (try simp -dsimp (disch := omega) only [↓pre, sp, sp2, wp_some, Int.cast_ofNat_Int, Nat.reduceAdd, Nat.reduceMul, Nat.reduceSub, Nat.reduceLeDiff, Nat.reduceEqDiff, Nat.reducePow, Int.reduceToNat, Int.reducePow, Int.reduceAdd, Int.reduceSub, Int.reduceMul, Int.reduceLT, Int.reduceLE, Int.reduceEq, Int.reduceNeg, t6.st.row])
    refine wp_ents k6.w' t6 0 fun h7 k7 n7 t7 => ?_
    (try simp -dsimp (disch := omega) only [↓pre, sp, sp2, wp_some, Int.cast_ofNat_Int, Nat.reduceAdd, Nat.reduceMul, Nat.reduceSub, Nat.reduceLeDiff, Nat.reduceEqDiff, Nat.reducePow, Int.reduceToNat, Int.reducePow, Int.reduceAdd, Int.reduceSub, Int.reduceMul, Int.reduceLT, Int.reduceLE, Int.reduceEq, Int.reduceNeg, t7.row, sp5])
    refine wp_keep k7.w' t7 2 (by omega) _ rfl fun h8 k8 n8 t8 => ?_
    (try simp -dsimp (disch := omega) only [↓pre, sp, sp2, wp_some, Int.cast_ofNat_Int, Nat.reduceAdd, Nat.reduceMul, Nat.reduceSub, Nat.reduceLeDiff, Nat.reduceEqDiff, Nat.reducePow, Int.reduceToNat, Int.reducePow, Int.reduceAdd, Int.reduceSub, Int.reduceMul, Int.reduceLT, Int.reduceLE, Int.reduceEq, Int.reduceNeg, t8.row])
    rw [hi] at t8
    exact ⟨((((k02.trans k4).trans k5).trans k6).trans k7).trans k8, rfl, t8⟩
theorem tp_spec (H : Plain ov) (n : Nat) (w : Wf h) {p m : Nat} {s : Stt} (t : Fs h p m s) :
    Wp (kc ov (n + 5) N__fb_tp_step [.agg [], .ptr (some (p, 0))] h) (StepQ h p m (tpM s)) := by
  rw [C__fb_tp_step H]; unfold F__fb_tp_step
  refine wp_box w rfl rfl fun q h1 hq k1 n1 g1 => ?_
  have t1 := t.kp k1
  (try simp -dsimp (disch := omega) only [↓pre, sp, sp2, wp_some, Int.cast_ofNat_Int, Nat.reduceAdd, Nat.reduceMul, Nat.reduceSub, Nat.reduceLeDiff, Nat.reduceEqDiff, Nat.reducePow, Int.reduceToNat, Int.reducePow, Int.reduceAdd, Int.reduceSub, Int.reduceMul, Int.reduceLT, Int.reduceLE, Int.reduceEq, Int.reduceNeg])
  refine Wp.bind (rises_spec H (n + 2) k1.w' t1 pIN 0 (by omega)) fun v h2 ⟨k2, e, t2⟩ => ?_
  subst e
  have k02 : Ke (pm p m) h h2 := k1.ke.trans k2
  obtain ⟨s', hs'⟩ : ∃ s', s' = tpM s := ⟨_, rfl⟩
  rw [← hs']
  unfold tpM at hs'
  simp only at hs'
  have hnow : (s.risen pIN 0).now = s.now := rfl
  have hk2 : (s.risen pIN 0).k2 = s.k2 := rfl
  generalize s.risen pIN 0 = s1 at *
  (try simp -dsimp (disch := omega) only [↓pre, sp, sp2, wp_some, Int.cast_ofNat_Int, Nat.reduceAdd, Nat.reduceMul, Nat.reduceSub, Nat.reduceLeDiff, Nat.reduceEqDiff, Nat.reducePow, Int.reduceToNat, Int.reducePow, Int.reduceAdd, Int.reduceSub, Int.reduceMul, Int.reduceLT, Int.reduceLE, Int.reduceEq, Int.reduceNeg, t2.row, sp5])
  refine wp_kT (.bool (decide (s1.k2 ≠ 1) && s.rises pIN 0)) (fun j hj => ?_) ?_
  · by_cases c : s1.k2 = 1
    · have e : decide (s1.k2 ≠ 1) = false := by simp [c]
      rw [e] at hj
      (try simp -dsimp (disch := omega) only [↓pre, sp, sp2, wp_some, Int.cast_ofNat_Int, Nat.reduceAdd, Nat.reduceMul, Nat.reduceSub, Nat.reduceLeDiff, Nat.reduceEqDiff, Nat.reducePow, Int.reduceToNat, Int.reducePow, Int.reduceAdd, Int.reduceSub, Int.reduceMul, Int.reduceLT, Int.reduceLE, Int.reduceEq, Int.reduceNeg, c])
      exact hj
    · have e : decide (s1.k2 ≠ 1) = true := decide_eq_true c
      rw [e] at hj
      (try simp -dsimp (disch := omega) only [↓pre, sp, sp2, wp_some, Int.cast_ofNat_Int, Nat.reduceAdd, Nat.reduceMul, Nat.reduceSub, Nat.reduceLeDiff, Nat.reduceEqDiff, Nat.reducePow, Int.reduceToNat, Int.reducePow, Int.reduceAdd, Int.reduceSub, Int.reduceMul, Int.reduceLT, Int.reduceLE, Int.reduceEq, Int.reduceNeg, c])
      exact hj
  refine wp_kJ (fun l h3 => l = [] ∧ Ke (pm p m) h h3 ∧ Fs h3 p m (if s.k2 ≠ 1 ∧ s.rises pIN 0 = true then (s1.keep 1 s.now).keep 2 1 else s1)) (fun j hj => ?_) ?_
  · by_cases c : s.k2 ≠ 1 ∧ s.rises pIN 0 = true
    · have c1 : ¬ s.k2 = 1 := c.1
      (try simp -dsimp (disch := omega) only [↓pre, sp, sp2, wp_some, Int.cast_ofNat_Int, Nat.reduceAdd, Nat.reduceMul, Nat.reduceSub, Nat.reduceLeDiff, Nat.reduceEqDiff, Nat.reducePow, Int.reduceToNat, Int.reducePow, Int.reduceAdd, Int.reduceSub, Int.reduceMul, Int.reduceLT, Int.reduceLE, Int.reduceEq, Int.reduceNeg, hk2, c1, c.2, t2.row, sp5])
      refine wp_keep k2.w' t2 1 (by omega) _ rfl fun h3 k3 n3 t3 => ?_
      (try simp -dsimp (disch := omega) only [↓pre, sp, sp2, wp_some, Int.cast_ofNat_Int, Nat.reduceAdd, Nat.reduceMul, Nat.reduceSub, Nat.reduceLeDiff, Nat.reduceEqDiff, Nat.reducePow, Int.reduceToNat, Int.reducePow, Int.reduceAdd, Int.reduceSub, Int.reduceMul, Int.reduceLT, Int.reduceLE, Int.reduceEq, Int.reduceNeg, t3.row, sp5])
      refine wp_keep k3.w' t3 2 (by omega) _ rfl fun h4 k4 n4 t4 => ?_
      (try simp -dsimp (disch := omega) only [↓pre, sp, sp2, wp_some, Int.cast_ofNat_Int, Nat.reduceAdd, Nat.reduceMul, Nat.reduceSub, Nat.reduceLeDiff, Nat.reduceEqDiff, Nat.reducePow, Int.reduceToNat, Int.reducePow, Int.reduceAdd, Int.reduceSub, Int.reduceMul, Int.reduceLT, Int.reduceLE, Int.reduceEq, Int.reduceNeg, t4.row])
      rw [hnow] at t4
      exact hj _ _ ⟨rfl, (k02.trans k3).trans k4, by rw [if_pos c]; exact t4⟩
    · have hb : (decide (s1.k2 ≠ 1) && s.rises pIN 0) = false := by
        rw [hk2]
        cases hr : s.rises pIN 0
        · simp
        · have : s.k2 = 1 := by
            by_cases c1 : s.k2 = 1
            · exact c1
            · exact absurd ⟨c1, hr⟩ c
          simp [this]
      rw [hb]
      (try simp -dsimp (disch := omega) only [↓pre, sp, sp2, wp_some, Int.cast_ofNat_Int, Nat.reduceAdd, Nat.reduceMul, Nat.reduceSub, Nat.reduceLeDiff, Nat.reduceEqDiff, Nat.reducePow, Int.reduceToNat, Int.reducePow, Int.reduceAdd, Int.reduceSub, Int.reduceMul, Int.reduceLT, Int.reduceLE, Int.reduceEq, Int.reduceNeg])
      exact hj _ _ ⟨rfl, k02, by rw [if_neg c]; exact t2⟩
  rintro _ h3 ⟨rfl, k3, t3⟩
  generalize (if s.k2 ≠ 1 ∧ s.rises pIN 0 = true then (s1.keep 1 s.now).keep 2 1 else s1) = s2 at *
  (try simp -dsimp (disch := omega) only [↓pre, sp, sp2, wp_some, Int.cast_ofNat_Int, Nat.reduceAdd, Nat.reduceMul, Nat.reduceSub, Nat.reduceLeDiff, Nat.reduceEqDiff, Nat.reducePow, Int.reduceToNat, Int.reducePow, Int.reduceAdd, Int.reduceSub, Int.reduceMul, Int.reduceLT, Int.reduceLE, Int.reduceEq, Int.reduceNeg, t3.row, sp5])
  refine wp_kJ (fun l h4 => l = [] ∧ Ke (pm p m) h h4 ∧ Fs h4 p m (if s2.k2 = 1 then (if s2.elapsed < s2.pt then (s2.put pET s2.elapsed).set pQ (decide (s2.elapsed < s2.pt)) else ((s2.put pET s2.elapsed).set pQ (decide (s2.elapsed < s2.pt))).keep 2 2) else s2.put pQ 0)) (fun j hj => ?_) ?_
  · (try simp -dsimp (disch := omega) only [↓pre, sp, sp2, wp_some, Int.cast_ofNat_Int, Nat.reduceAdd, Nat.reduceMul, Nat.reduceSub, Nat.reduceLeDiff, Nat.reduceEqDiff, Nat.reducePow, Int.reduceToNat, Int.reducePow, Int.reduceAdd, Int.reduceSub, Int.reduceMul, Int.reduceLT, Int.reduceLE, Int.reduceEq, Int.reduceNeg])
    refine wp_ite (fun c => ?_) (fun c => ?_)
    · (try simp -dsimp (disch := omega) only [↓pre, sp, sp2, wp_some, Int.cast_ofNat_Int, Nat.reduceAdd, Nat.reduceMul, Nat.reduceSub, Nat.reduceLeDiff, Nat.reduceEqDiff, Nat.reducePow, Int.reduceToNat, Int.reducePow, Int.reduceAdd, Int.reduceSub, Int.reduceMul, Int.reduceLT, Int.reduceLE, Int.reduceEq, Int.reduceNeg, t3.row])
      · refine Wp.bind (elapsed_spec H n k3.w' t3) fun v h4 ⟨k4, e⟩ => ?_
        subst e
        have t4 := t3.kp k4
        (try simp -dsimp (disch := omega) only [↓pre, sp, sp2, wp_some, Int.cast_ofNat_Int, Nat.reduceAdd, Nat.reduceMul, Nat.reduceSub, Nat.reduceLeDiff, Nat.reduceEqDiff, Nat.reducePow, Int.reduceToNat, Int.reducePow, Int.reduceAdd, Int.reduceSub, Int.reduceMul, Int.reduceLT, Int.reduceLE, Int.reduceEq, Int.reduceNeg, t4.row])
        refine wp_put k4.w' t4 pET _ fun h5 k5 n5 t5 => ?_
        have e5 : rLook .string (.int .i64 0) false (.map (some m)) (.str [69, 84]) h5 = some (.int .i64 s2.elapsed) := by rw [show s2.elapsed = (s2.put pET s2.elapsed).f pET by simp [Stt.put, upd]]; exact t5.look pET
        have ep : kc ov (n + 4) N_fb_state_pt [.ptr (some (p, 0))] h5 = some (.int .i64 s2.pt, h5) := by rw [← pt_put s2 s2.elapsed]; exact pt_spec H (n + 3) t5
        (try simp -dsimp (disch := omega) only [↓pre, sp, sp2, wp_some, Int.cast_ofNat_Int, Nat.reduceAdd, Nat.reduceMul, Nat.reduceSub, Nat.reduceLeDiff, Nat.reduceEqDiff, Nat.reducePow, Int.reduceToNat, Int.reducePow, Int.reduceAdd, Int.reduceSub, Int.reduceMul, Int.reduceLT, Int.reduceLE, Int.reduceEq, Int.reduceNeg, t5.row, e5, ep])
        refine Wp.bind (set_spec H (n + 2) k5.w' t5 pQ _) fun v h6 ⟨k6, e, t6⟩ => ?_
        subst e
        have k36 : Ke (pm p m) h h6 := ((k3.trans k4.ke).trans k5).trans k6
        have ei4 : kc ov (n + 4) N_fb_state_is [.ptr (some (p, 0)), .str [81]] h6 = some (.bool (decide (s2.elapsed < s2.pt)), h6) := by
          rw [← is_set (s2.put pET s2.elapsed) pQ (decide (s2.elapsed < s2.pt))]; exact is_spec H (n + 3) t6 pQ
        (try simp -dsimp (disch := omega) only [↓pre, sp, sp2, wp_some, Int.cast_ofNat_Int, Nat.reduceAdd, Nat.reduceMul, Nat.reduceSub, Nat.reduceLeDiff, Nat.reduceEqDiff, Nat.reducePow, Int.reduceToNat, Int.reducePow, Int.reduceAdd, Int.reduceSub, Int.reduceMul, Int.reduceLT, Int.reduceLE, Int.reduceEq, Int.reduceNeg, ei4, kj_eq, t6.row])
        by_cases c5 : s2.elapsed < s2.pt
        · (try simp -dsimp (disch := omega) only [↓pre, sp, sp2, wp_some, Int.cast_ofNat_Int, Nat.reduceAdd, Nat.reduceMul, Nat.reduceSub, Nat.reduceLeDiff, Nat.reduceEqDiff, Nat.reducePow, Int.reduceToNat, Int.reducePow, Int.reduceAdd, Int.reduceSub, Int.reduceMul, Int.reduceLT, Int.reduceLE, Int.reduceEq, Int.reduceNeg, c5])
          exact hj _ _ ⟨rfl, k36, by rw [if_pos c, if_pos c5]; exact t6⟩
        · (try simp -dsimp (disch := omega) only [↓pre, sp, sp2, wp_some, Int.cast_ofNat_Int, Nat.reduceAdd, Nat.reduceMul, Nat.reduceSub, Nat.reduceLeDiff, Nat.reduceEqDiff, Nat.reducePow, Int.reduceToNat, Int.reducePow, Int.reduceAdd, Int.reduceSub, Int.reduceMul, Int.reduceLT, Int.reduceLE, Int.reduceEq, Int.reduceNeg, c5, sp5])
          refine wp_keep k6.w' t6 2 (by omega) _ rfl fun h7 k7 n7 t7 => ?_
          (try simp -dsimp (disch := omega) only [↓pre, sp, sp2, wp_some, Int.cast_ofNat_Int, Nat.reduceAdd, Nat.reduceMul, Nat.reduceSub, Nat.reduceLeDiff, Nat.reduceEqDiff, Nat.reducePow, Int.reduceToNat, Int.reducePow, Int.reduceAdd, Int.reduceSub, Int.reduceMul, Int.reduceLT, Int.reduceLE, Int.reduceEq, Int.reduceNeg])
          exact hj _ _ ⟨rfl, k36.trans k7, by rw [if_pos c, if_neg c5]; exact t7⟩
    · (try simp -dsimp (disch := omega) only [↓pre, sp, sp2, wp_some, Int.cast_ofNat_Int, Nat.reduceAdd, Nat.reduceMul, Nat.reduceSub, Nat.reduceLeDiff, Nat.reduceEqDiff, Nat.reducePow, Int.reduceToNat, Int.reducePow, Int.reduceAdd, Int.reduceSub, Int.reduceMul, Int.reduceLT, Int.reduceLE, Int.reduceEq, Int.reduceNeg, t3.row])
      refine wp_put k3.w' t3 pQ 0 fun h4 k4 n4 t4 => ?_
      (try simp -dsimp (disch := omega) only [↓pre, sp, sp2, wp_some, Int.cast_ofNat_Int, Nat.reduceAdd, Nat.reduceMul, Nat.reduceSub, Nat.reduceLeDiff, Nat.reduceEqDiff, Nat.reducePow, Int.reduceToNat, Int.reducePow, Int.reduceAdd, Int.reduceSub, Int.reduceMul, Int.reduceLT, Int.reduceLE, Int.reduceEq, Int.reduceNeg])
      exact hj _ _ ⟨rfl, k3.trans k4, by rw [if_neg c]; exact t4⟩
  rintro _ h4 ⟨rfl, k4, t4⟩
  generalize (if s2.k2 = 1 then (if s2.elapsed < s2.pt then (s2.put pET s2.elapsed).set pQ (decide (s2.elapsed < s2.pt)) else ((s2.put pET s2.elapsed).set pQ (decide (s2.elapsed < s2.pt))).keep 2 2) else s2.put pQ 0) = s3 at *
  have ei : kc ov (n + 4) N_fb_state_is [.ptr (some (p, 0)), .str [73, 78]] h4 = some (.bool (s3.is pIN), h4) := is_spec H (n + 3) t4 pIN
  (try simp -dsimp (disch := omega) only [↓pre, sp, sp2, wp_some, Int.cast_ofNat_Int, Nat.reduceAdd, Nat.reduceMul, Nat.reduceSub, Nat.reduceLeDiff, Nat.reduceEqDiff, Nat.reducePow, Int.reduceToNat, Int.reducePow, Int.reduceAdd, Int.reduceSub, Int.reduceMul, Int.reduceLT, Int.reduceLE, Int.reduceEq, Int.reduceNeg, t4.row, sp5, kth_eq, kj_eq])
  by_cases c : s3.k2 = 1
  · (try simp -dsimp (disch := omega) only [↓pre, sp, sp2, wp_some, Int.cast_ofNat_Int, Nat.reduceAdd, Nat.reduceMul, Nat.reduceSub, Nat.reduceLeDiff, Nat.reduceEqDiff, Nat.reducePow, Int.reduceToNat, Int.reducePow, Int.reduceAdd, Int.reduceSub, Int.reduceMul, Int.reduceLT, Int.reduceLE, Int.reduceEq, Int.reduceNeg, c, kj_eq])
    refine ⟨k4, rfl, ?_⟩
    rw [hs', if_neg (by simp [c])]; exact t4
  cases ci : s3.is pIN
  · (try simp -dsimp (disch := omega) only [↓pre, sp, sp2, wp_some, Int.cast_ofNat_Int, Nat.reduceAdd, Nat.reduceMul, Nat.reduceSub, Nat.reduceLeDiff, Nat.reduceEqDiff, Nat.reducePow, Int.reduceToNat, Int.reducePow, Int.reduceAdd, Int.reduceSub, Int.reduceMul, Int.reduceLT, Int.reduceLE, Int.reduceEq, Int.reduceNeg, c, ei, ci, t4.row, sp5, kj_eq])
    refine wp_ent k4.w' t4 pET fun h5 j k5 n5 t5 => ?_
    (try simp -dsimp (disch := omega) only [↓pre, sp, sp2, wp_some, Int.cast_ofNat_Int, Nat.reduceAdd, Nat.reduceMul, Nat.reduceSub, Nat.reduceLeDiff, Nat.reduceEqDiff, Nat.reducePow, Int.reduceToNat, Int.reducePow, Int.reduceAdd, Int.reduceSub, Int.reduceMul, Int.reduceLT, Int.reduceLE, Int.reduceEq, Int.reduceNeg, t5.st.row])
    refine wp_ents k5.w' t5 0 fun h6 k6 n6 t6 => ?_
    (try simp -dsimp (disch := omega) only [↓pre, sp, sp2, wp_some, Int.cast_ofNat_Int, Nat.reduceAdd, Nat.reduceMul, Nat.reduceSub, Nat.reduceLeDiff, Nat.reduceEqDiff, Nat.reducePow, Int.reduceToNat, Int.reducePow, Int.reduceAdd, Int.reduceSub, Int.reduceMul, Int.reduceLT, Int.reduceLE, Int.reduceEq, Int.reduceNeg, t6.row, sp5])
    refine wp_keep k6.w' t6 2 (by omega) _ rfl fun h8 k8 n8 t8 => ?_
    (try simp -dsimp (disch := omega) only [↓pre, sp, sp2, wp_some, Int.cast_ofNat_Int, Nat.reduceAdd, Nat.reduceMul, Nat.reduceSub, Nat.reduceLeDiff, Nat.reduceEqDiff, Nat.reducePow, Int.reduceToNat, Int.reducePow, Int.reduceAdd, Int.reduceSub, Int.reduceMul, Int.reduceLT, Int.reduceLE, Int.reduceEq, Int.reduceNeg, t8.row])
    refine ⟨((k4.trans k5).trans k6).trans k8, rfl, ?_⟩
    rw [hs', if_pos ⟨c, ci⟩]; exact t8
  · (try simp -dsimp (disch := omega) only [↓pre, sp, sp2, wp_some, Int.cast_ofNat_Int, Nat.reduceAdd, Nat.reduceMul, Nat.reduceSub, Nat.reduceLeDiff, Nat.reduceEqDiff, Nat.reducePow, Int.reduceToNat, Int.reducePow, Int.reduceAdd, Int.reduceSub, Int.reduceMul, Int.reduceLT, Int.reduceLE, Int.reduceEq, Int.reduceNeg, c, ei, ci, kj_eq])
    refine ⟨k4, rfl, ?_⟩
    rw [hs', if_neg (by simp [ci])]; exact t4
end Go.Proofs.YtindiedfioiejaaDoor.AI
