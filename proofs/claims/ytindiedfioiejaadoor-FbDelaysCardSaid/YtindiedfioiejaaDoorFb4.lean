/- Chapter 17: what each counter does. -/
import Derived.Test.YtindiedfioiejaaDoorFb3
namespace Go.Proofs.YtindiedfioiejaaDoor.AI
open Go
set_option linter.unusedSimpArgs false
set_option linter.unusedVariables false
variable {ov : AOver} {h : AH}
theorem Fs.new {p m : Nat} {s : Stt} (t : Fs h p m s) (w : Wf h) : ¬ pm p m h.n := by
  have hn := w.no
  rintro (e | e)
  · rw [e, t.g] at hn; cases hn
  · obtain ⟨L, a, b⟩ := t.mp
    rw [e, a] at hn; cases hn
theorem count_spec (H : Plain ov) (n : Nat) (w : Wf h) {p m : Nat} {s : Stt} (t : Fs h p m s) (up down reset load : Nm) :
    Wp (kc ov (n + 4) N__fb_count_step [.agg [.str up, .str down, .str reset, .str load], .ptr (some (p, 0))] h) (StepQ h p m (countM up down reset load s)) := by
  rw [C__fb_count_step H]; unfold F__fb_count_step
  obtain ⟨s', hs'⟩ : ∃ s', s' = countM up down reset load s := ⟨_, rfl⟩
  rw [← hs']
  unfold countM at hs'
  simp only at hs'
  have hnew := t.new w
  refine wp_box w rfl rfl fun q h1 hq k1 n1 g1 => ?_
  rw [← hq] at hnew
  have t1 := t.kp k1
  (try simp -dsimp (disch := omega) only [↓pre, sp, sp2, wp_some, Int.cast_ofNat_Int, Nat.reduceAdd, Nat.reduceMul, Nat.reduceSub, Nat.reduceLeDiff, Nat.reduceEqDiff, Nat.reducePow, Int.reduceToNat, Int.reducePow, Int.reduceAdd, Int.reduceSub, Int.reduceMul, Int.reduceLT, Int.reduceLE, Int.reduceEq, Int.reduceNeg, t1.row, t1.look, row_rw g1, sp5])
  refine wp_kTh (fun v h2 => v = .bool (decide (¬ up = []) && s.rises up 0) ∧ Ke (pm p m) h1 h2 ∧ Fs h2 p m (if up = [] then s else s.risen up 0)) (fun j hj => ?_) ?_
  · by_cases c : up = []
    · (try simp -dsimp (disch := omega) only [↓pre, sp, sp2, wp_some, Int.cast_ofNat_Int, Nat.reduceAdd, Nat.reduceMul, Nat.reduceSub, Nat.reduceLeDiff, Nat.reduceEqDiff, Nat.reducePow, Int.reduceToNat, Int.reducePow, Int.reduceAdd, Int.reduceSub, Int.reduceMul, Int.reduceLT, Int.reduceLE, Int.reduceEq, Int.reduceNeg, c])
      exact hj _ _ ⟨by simp [c], Ke.refl k1.w', by rw [if_pos c]; exact t1⟩
    · (try simp -dsimp (disch := omega) only [↓pre, sp, sp2, wp_some, Int.cast_ofNat_Int, Nat.reduceAdd, Nat.reduceMul, Nat.reduceSub, Nat.reduceLeDiff, Nat.reduceEqDiff, Nat.reducePow, Int.reduceToNat, Int.reducePow, Int.reduceAdd, Int.reduceSub, Int.reduceMul, Int.reduceLT, Int.reduceLE, Int.reduceEq, Int.reduceNeg, c, row_rw g1])
      refine Wp.bind (rises_spec H (n + 1) k1.w' t1 up 0 (by omega)) fun v h2 ⟨k2, e, t2⟩ => ?_
      subst e
      (try simp -dsimp (disch := omega) only [↓pre, sp, sp2, wp_some, Int.cast_ofNat_Int, Nat.reduceAdd, Nat.reduceMul, Nat.reduceSub, Nat.reduceLeDiff, Nat.reduceEqDiff, Nat.reducePow, Int.reduceToNat, Int.reducePow, Int.reduceAdd, Int.reduceSub, Int.reduceMul, Int.reduceLT, Int.reduceLE, Int.reduceEq, Int.reduceNeg])
      exact hj _ _ ⟨by simp [c], k2, by rw [if_neg c]; exact t2⟩
  rintro _ h2 ⟨rfl, k2, t2⟩
  generalize (if up = [] then s else s.risen up 0) = s1 at *
  generalize (decide (¬ up = []) && s.rises up 0) = u at *
  have g2 := k2.gt g1 hnew
  (try simp -dsimp (disch := omega) only [↓pre, sp, sp2, wp_some, Int.cast_ofNat_Int, Nat.reduceAdd, Nat.reduceMul, Nat.reduceSub, Nat.reduceLeDiff, Nat.reduceEqDiff, Nat.reducePow, Int.reduceToNat, Int.reducePow, Int.reduceAdd, Int.reduceSub, Int.reduceMul, Int.reduceLT, Int.reduceLE, Int.reduceEq, Int.reduceNeg, row_rw g2, sp5])
  refine wp_kJ (fun l h3 => l = [.int .i64 ((if up = [] then 0 else 1 : Nat) : Int)] ∧ h3 = h2) (fun j hj => ?_) ?_
  · by_cases c : up = []
    · (try simp -dsimp (disch := omega) only [↓pre, sp, sp2, wp_some, Int.cast_ofNat_Int, Nat.reduceAdd, Nat.reduceMul, Nat.reduceSub, Nat.reduceLeDiff, Nat.reduceEqDiff, Nat.reducePow, Int.reduceToNat, Int.reducePow, Int.reduceAdd, Int.reduceSub, Int.reduceMul, Int.reduceLT, Int.reduceLE, Int.reduceEq, Int.reduceNeg, c])
      exact hj _ _ ⟨by simp [c], rfl⟩
    · (try simp -dsimp (disch := omega) only [↓pre, sp, sp2, wp_some, Int.cast_ofNat_Int, Nat.reduceAdd, Nat.reduceMul, Nat.reduceSub, Nat.reduceLeDiff, Nat.reduceEqDiff, Nat.reducePow, Int.reduceToNat, Int.reducePow, Int.reduceAdd, Int.reduceSub, Int.reduceMul, Int.reduceLT, Int.reduceLE, Int.reduceEq, Int.reduceNeg, c])
      exact hj _ _ ⟨by simp [c], rfl⟩
  rintro _ _ ⟨rfl, rfl⟩
  have hk : (if up = [] then 0 else 1 : Nat) < 3 := by split <;> omega
  generalize (if up = [] then 0 else 1 : Nat) = kk at *
  (try simp -dsimp (disch := omega) only [↓pre, sp, sp2, wp_some, Int.cast_ofNat_Int, Nat.reduceAdd, Nat.reduceMul, Nat.reduceSub, Nat.reduceLeDiff, Nat.reduceEqDiff, Nat.reducePow, Int.reduceToNat, Int.reducePow, Int.reduceAdd, Int.reduceSub, Int.reduceMul, Int.reduceLT, Int.reduceLE, Int.reduceEq, Int.reduceNeg, row_rw g2, sp5])
  refine wp_kTh (fun v h3 => v = .bool (decide (¬ down = []) && s1.rises down kk) ∧ Ke (pm p m) h1 h3 ∧ Fs h3 p m (if down = [] then s1 else s1.risen down kk)) (fun j hj => ?_) ?_
  · by_cases c : down = []
    · (try simp -dsimp (disch := omega) only [↓pre, sp, sp2, wp_some, Int.cast_ofNat_Int, Nat.reduceAdd, Nat.reduceMul, Nat.reduceSub, Nat.reduceLeDiff, Nat.reduceEqDiff, Nat.reducePow, Int.reduceToNat, Int.reducePow, Int.reduceAdd, Int.reduceSub, Int.reduceMul, Int.reduceLT, Int.reduceLE, Int.reduceEq, Int.reduceNeg, c])
      exact hj _ _ ⟨by simp [c], k2, by rw [if_pos c]; exact t2⟩
    · (try simp -dsimp (disch := omega) only [↓pre, sp, sp2, wp_some, Int.cast_ofNat_Int, Nat.reduceAdd, Nat.reduceMul, Nat.reduceSub, Nat.reduceLeDiff, Nat.reduceEqDiff, Nat.reducePow, Int.reduceToNat, Int.reducePow, Int.reduceAdd, Int.reduceSub, Int.reduceMul, Int.reduceLT, Int.reduceLE, Int.reduceEq, Int.reduceNeg, c, row_rw g2])
      refine Wp.bind (rises_spec H (n + 1) k2.w' t2 down kk hk) fun v h3 ⟨k3, e, t3⟩ => ?_
      subst e
      (try simp -dsimp (disch := omega) only [↓pre, sp, sp2, wp_some, Int.cast_ofNat_Int, Nat.reduceAdd, Nat.reduceMul, Nat.reduceSub, Nat.reduceLeDiff, Nat.reduceEqDiff, Nat.reducePow, Int.reduceToNat, Int.reducePow, Int.reduceAdd, Int.reduceSub, Int.reduceMul, Int.reduceLT, Int.reduceLE, Int.reduceEq, Int.reduceNeg])
      exact hj _ _ ⟨by simp [c], k2.trans k3, by rw [if_neg c]; exact t3⟩
  rintro _ h3 ⟨rfl, k3, t3⟩
  generalize (if down = [] then s1 else s1.risen down kk) = s2 at *
  generalize (decide (¬ down = []) && s1.rises down kk) = d at *
  have g3 := k3.gt g1 hnew
  (try simp -dsimp (disch := omega) only [↓pre, sp, sp2, wp_some, Int.cast_ofNat_Int, Nat.reduceAdd, Nat.reduceMul, Nat.reduceSub, Nat.reduceLeDiff, Nat.reduceEqDiff, Nat.reducePow, Int.reduceToNat, Int.reducePow, Int.reduceAdd, Int.reduceSub, Int.reduceMul, Int.reduceLT, Int.reduceLE, Int.reduceEq, Int.reduceNeg])
  refine Wp.bind (range_spec H (n + 1) k3.w' 3) fun v h4 ⟨k4, e⟩ => ?_
  subst e
  have k04 : Ke (pm p m) h h4 := k1.ke.trans (k3.trans k4.ke)
  have t4 := t3.kp k4
  have g4 := k4.gt g3
  have ei : ∀ k, kc ov (n + 3) N_fb_state_is [.ptr (some (p, 0)), .str k] h4 = some (.bool (s2.is k), h4) := is_spec H (n + 2) t4
  (try simp -dsimp (disch := omega) only [↓pre, sp, sp2, wp_some, Int.cast_ofNat_Int, Nat.reduceAdd, Nat.reduceMul, Nat.reduceSub, Nat.reduceLeDiff, Nat.reduceEqDiff, Nat.reducePow, Int.reduceToNat, Int.reducePow, Int.reduceAdd, Int.reduceSub, Int.reduceMul, Int.reduceLT, Int.reduceLE, Int.reduceEq, Int.reduceNeg, row_rw g4, ei])
  refine wp_kJ (fun l h5 => l = [.int .i64 (if s2.is reset then 0 else if s2.is load then s2.f pPV else if u && !d then min (IntKind.wrap .i64 (s.f pCV + 1)) 32767 else if d && !u then max (IntKind.wrap .i64 (s.f pCV - 1)) (-32768) else s.f pCV)] ∧ h5 = h4) (fun j hj => ?_) ?_
  · cases c1 : s2.is reset
    · (try simp -dsimp (disch := omega) only [↓pre, sp, sp2, wp_some, Int.cast_ofNat_Int, Nat.reduceAdd, Nat.reduceMul, Nat.reduceSub, Nat.reduceLeDiff, Nat.reduceEqDiff, Nat.reducePow, Int.reduceToNat, Int.reducePow, Int.reduceAdd, Int.reduceSub, Int.reduceMul, Int.reduceLT, Int.reduceLE, Int.reduceEq, Int.reduceNeg, row_rw g4, ei])
      cases c2 : s2.is load
      · rw [c1, c2] at hj
        have hj' := hj _ _ ⟨rfl, rfl⟩
        clear hj hs'
        simp only [Bool.false_eq_true, if_false] at hj'
        (try simp -dsimp (disch := omega) only [↓pre, sp, sp2, wp_some, Int.cast_ofNat_Int, Nat.reduceAdd, Nat.reduceMul, Nat.reduceSub, Nat.reduceLeDiff, Nat.reduceEqDiff, Nat.reducePow, Int.reduceToNat, Int.reducePow, Int.reduceAdd, Int.reduceSub, Int.reduceMul, Int.reduceLT, Int.reduceLE, Int.reduceEq, Int.reduceNeg])
        refine wp_kJ (fun l h5 => l = [.int .i64 (if u && !d then min (IntKind.wrap .i64 (s.f pCV + 1)) 32767 else if d && !u then max (IntKind.wrap .i64 (s.f pCV - 1)) (-32768) else s.f pCV)] ∧ h5 = h4) (fun j2 hj2 => ?_) (by rintro _ _ ⟨rfl, rfl⟩; exact hj')
        (try simp -dsimp (disch := omega) only [↓pre, sp, sp2, wp_some, Int.cast_ofNat_Int, Nat.reduceAdd, Nat.reduceMul, Nat.reduceSub, Nat.reduceLeDiff, Nat.reduceEqDiff, Nat.reducePow, Int.reduceToNat, Int.reducePow, Int.reduceAdd, Int.reduceSub, Int.reduceMul, Int.reduceLT, Int.reduceLE, Int.reduceEq, Int.reduceNeg])
        refine wp_kT (.bool (u && !d)) (fun j3 hj3 => by cases u <;> cases d <;> (try simp -dsimp (disch := omega) only [↓pre, sp, sp2, wp_some, Int.cast_ofNat_Int, Nat.reduceAdd, Nat.reduceMul, Nat.reduceSub, Nat.reduceLeDiff, Nat.reduceEqDiff, Nat.reducePow, Int.reduceToNat, Int.reducePow, Int.reduceAdd, Int.reduceSub, Int.reduceMul, Int.reduceLT, Int.reduceLE, Int.reduceEq, Int.reduceNeg]) <;> exact hj3) ?_
        (try simp -dsimp (disch := omega) only [↓pre, sp, sp2, wp_some, Int.cast_ofNat_Int, Nat.reduceAdd, Nat.reduceMul, Nat.reduceSub, Nat.reduceLeDiff, Nat.reduceEqDiff, Nat.reducePow, Int.reduceToNat, Int.reducePow, Int.reduceAdd, Int.reduceSub, Int.reduceMul, Int.reduceLT, Int.reduceLE, Int.reduceEq, Int.reduceNeg])
        refine wp_kJ (fun l h5 => l = [.int .i64 (if u && !d then min (IntKind.wrap .i64 (s.f pCV + 1)) 32767 else if d && !u then max (IntKind.wrap .i64 (s.f pCV - 1)) (-32768) else s.f pCV)] ∧ h5 = h4) (fun j4 hj4 => ?_) (by rintro _ _ ⟨rfl, rfl⟩; exact hj2 _ _ ⟨rfl, rfl⟩)
        have hj5 := hj4 _ _ ⟨rfl, rfl⟩
        cases c3 : (u && !d)
        · (try simp -dsimp (disch := omega) only [↓pre, sp, sp2, wp_some, Int.cast_ofNat_Int, Nat.reduceAdd, Nat.reduceMul, Nat.reduceSub, Nat.reduceLeDiff, Nat.reduceEqDiff, Nat.reducePow, Int.reduceToNat, Int.reducePow, Int.reduceAdd, Int.reduceSub, Int.reduceMul, Int.reduceLT, Int.reduceLE, Int.reduceEq, Int.reduceNeg])
          rw [c3] at hj5
          simp only [Bool.false_eq_true, if_false] at hj5
          refine wp_kT (.bool (d && !u)) (fun j6 hj6 => by cases u <;> cases d <;> (try simp -dsimp (disch := omega) only [↓pre, sp, sp2, wp_some, Int.cast_ofNat_Int, Nat.reduceAdd, Nat.reduceMul, Nat.reduceSub, Nat.reduceLeDiff, Nat.reduceEqDiff, Nat.reducePow, Int.reduceToNat, Int.reducePow, Int.reduceAdd, Int.reduceSub, Int.reduceMul, Int.reduceLT, Int.reduceLE, Int.reduceEq, Int.reduceNeg]) <;> exact hj6) ?_
          (try simp -dsimp (disch := omega) only [↓pre, sp, sp2, wp_some, Int.cast_ofNat_Int, Nat.reduceAdd, Nat.reduceMul, Nat.reduceSub, Nat.reduceLeDiff, Nat.reduceEqDiff, Nat.reducePow, Int.reduceToNat, Int.reducePow, Int.reduceAdd, Int.reduceSub, Int.reduceMul, Int.reduceLT, Int.reduceLE, Int.reduceEq, Int.reduceNeg])
          refine wp_kJ (fun l h5 => l = [.int .i64 (if d && !u then max (IntKind.wrap .i64 (s.f pCV - 1)) (-32768) else s.f pCV)] ∧ h5 = h4) (fun j7 hj7 => ?_) (by rintro _ _ ⟨rfl, rfl⟩; exact hj5)
          have hj8 := hj7 _ _ ⟨rfl, rfl⟩
          cases c4 : (d && !u)
          · (try simp -dsimp (disch := omega) only [↓pre, sp, sp2, wp_some, Int.cast_ofNat_Int, Nat.reduceAdd, Nat.reduceMul, Nat.reduceSub, Nat.reduceLeDiff, Nat.reduceEqDiff, Nat.reducePow, Int.reduceToNat, Int.reducePow, Int.reduceAdd, Int.reduceSub, Int.reduceMul, Int.reduceLT, Int.reduceLE, Int.reduceEq, Int.reduceNeg])
            rw [c4] at hj8
            exact hj8
          · (try simp -dsimp (disch := omega) only [↓pre, sp, sp2, wp_some, Int.cast_ofNat_Int, Nat.reduceAdd, Nat.reduceMul, Nat.reduceSub, Nat.reduceLeDiff, Nat.reduceEqDiff, Nat.reducePow, Int.reduceToNat, Int.reducePow, Int.reduceAdd, Int.reduceSub, Int.reduceMul, Int.reduceLT, Int.reduceLE, Int.reduceEq, Int.reduceNeg])
            rw [c4] at hj8
            exact hj8
        · (try simp -dsimp (disch := omega) only [↓pre, sp, sp2, wp_some, Int.cast_ofNat_Int, Nat.reduceAdd, Nat.reduceMul, Nat.reduceSub, Nat.reduceLeDiff, Nat.reduceEqDiff, Nat.reducePow, Int.reduceToNat, Int.reducePow, Int.reduceAdd, Int.reduceSub, Int.reduceMul, Int.reduceLT, Int.reduceLE, Int.reduceEq, Int.reduceNeg])
          rw [c3] at hj5
          exact hj5
      · (try simp -dsimp (disch := omega) only [↓pre, sp, sp2, wp_some, Int.cast_ofNat_Int, Nat.reduceAdd, Nat.reduceMul, Nat.reduceSub, Nat.reduceLeDiff, Nat.reduceEqDiff, Nat.reducePow, Int.reduceToNat, Int.reducePow, Int.reduceAdd, Int.reduceSub, Int.reduceMul, Int.reduceLT, Int.reduceLE, Int.reduceEq, Int.reduceNeg])
        rw [c1, c2] at hj
        refine wp_kJ (fun l h5 => l = [.int .i64 (s2.f pPV)] ∧ h5 = h4) (fun j2 hj2 => ?_) (by rintro _ _ ⟨rfl, rfl⟩; exact hj _ _ ⟨rfl, rfl⟩)
        (try simp -dsimp (disch := omega) only [↓pre, sp, sp2, wp_some, Int.cast_ofNat_Int, Nat.reduceAdd, Nat.reduceMul, Nat.reduceSub, Nat.reduceLeDiff, Nat.reduceEqDiff, Nat.reducePow, Int.reduceToNat, Int.reducePow, Int.reduceAdd, Int.reduceSub, Int.reduceMul, Int.reduceLT, Int.reduceLE, Int.reduceEq, Int.reduceNeg, t4.row, t4.look])
        exact hj2 _ _ ⟨rfl, rfl⟩
    · (try simp -dsimp (disch := omega) only [↓pre, sp, sp2, wp_some, Int.cast_ofNat_Int, Nat.reduceAdd, Nat.reduceMul, Nat.reduceSub, Nat.reduceLeDiff, Nat.reduceEqDiff, Nat.reducePow, Int.reduceToNat, Int.reducePow, Int.reduceAdd, Int.reduceSub, Int.reduceMul, Int.reduceLT, Int.reduceLE, Int.reduceEq, Int.reduceNeg])
      refine hj _ _ ⟨?_, rfl⟩
      rw [c1]; rfl
  rintro _ _ ⟨rfl, rfl⟩
  generalize (if s2.is reset then 0 else if s2.is load then s2.f pPV else if u && !d then min (IntKind.wrap .i64 (s.f pCV + 1)) 32767 else if d && !u then max (IntKind.wrap .i64 (s.f pCV - 1)) (-32768) else s.f pCV) = y at *
  (try simp -dsimp (disch := omega) only [↓pre, sp, sp2, wp_some, Int.cast_ofNat_Int, Nat.reduceAdd, Nat.reduceMul, Nat.reduceSub, Nat.reduceLeDiff, Nat.reduceEqDiff, Nat.reducePow, Int.reduceToNat, Int.reducePow, Int.reduceAdd, Int.reduceSub, Int.reduceMul, Int.reduceLT, Int.reduceLE, Int.reduceEq, Int.reduceNeg, t4.row])
  refine wp_put k4.w' t4 pCV y fun h5 k5 n5 t5 => ?_
  have g5 := k5.gt g4 hnew
  have k05 := k04.trans k5
  clear ei
  generalize s2.put pCV y = s3 at *
  (try simp -dsimp (disch := omega) only [↓pre, sp, sp2, wp_some, Int.cast_ofNat_Int, Nat.reduceAdd, Nat.reduceMul, Nat.reduceSub, Nat.reduceLeDiff, Nat.reduceEqDiff, Nat.reducePow, Int.reduceToNat, Int.reducePow, Int.reduceAdd, Int.reduceSub, Int.reduceMul, Int.reduceLT, Int.reduceLE, Int.reduceEq, Int.reduceNeg, row_rw g5, sp5])
  refine wp_kJ (fun l h6 => l = [.str (if down = [] then pQ else pQU)] ∧ h5 = h6) (fun j hj => ?_) ?_
  · (try simp -dsimp (disch := omega) only [↓pre, sp, sp2, wp_some, Int.cast_ofNat_Int, Nat.reduceAdd, Nat.reduceMul, Nat.reduceSub, Nat.reduceLeDiff, Nat.reduceEqDiff, Nat.reducePow, Int.reduceToNat, Int.reducePow, Int.reduceAdd, Int.reduceSub, Int.reduceMul, Int.reduceLT, Int.reduceLE, Int.reduceEq, Int.reduceNeg])
    refine wp_ite (fun c => ?_) (fun c => ?_)
    · (try simp -dsimp (disch := omega) only [↓pre, sp, sp2, wp_some, Int.cast_ofNat_Int, Nat.reduceAdd, Nat.reduceMul, Nat.reduceSub, Nat.reduceLeDiff, Nat.reduceEqDiff, Nat.reducePow, Int.reduceToNat, Int.reducePow, Int.reduceAdd, Int.reduceSub, Int.reduceMul, Int.reduceLT, Int.reduceLE, Int.reduceEq, Int.reduceNeg])
      exact hj _ _ ⟨by rw [if_pos c]; rfl, rfl⟩
    · exact hj _ _ ⟨by rw [if_neg c]; rfl, rfl⟩
  rintro _ _ ⟨rfl, rfl⟩
  (try simp -dsimp (disch := omega) only [↓pre, sp, sp2, wp_some, Int.cast_ofNat_Int, Nat.reduceAdd, Nat.reduceMul, Nat.reduceSub, Nat.reduceLeDiff, Nat.reduceEqDiff, Nat.reducePow, Int.reduceToNat, Int.reducePow, Int.reduceAdd, Int.reduceSub, Int.reduceMul, Int.reduceLT, Int.reduceLE, Int.reduceEq, Int.reduceNeg, row_rw g5, sp5])
  refine wp_kJ (fun l h6 => l = [.str (if up = [] then pQ else pQD)] ∧ h5 = h6) (fun j hj => ?_) ?_
  · (try simp -dsimp (disch := omega) only [↓pre, sp, sp2, wp_some, Int.cast_ofNat_Int, Nat.reduceAdd, Nat.reduceMul, Nat.reduceSub, Nat.reduceLeDiff, Nat.reduceEqDiff, Nat.reducePow, Int.reduceToNat, Int.reducePow, Int.reduceAdd, Int.reduceSub, Int.reduceMul, Int.reduceLT, Int.reduceLE, Int.reduceEq, Int.reduceNeg])
    refine wp_ite (fun c => ?_) (fun c => ?_)
    · (try simp -dsimp (disch := omega) only [↓pre, sp, sp2, wp_some, Int.cast_ofNat_Int, Nat.reduceAdd, Nat.reduceMul, Nat.reduceSub, Nat.reduceLeDiff, Nat.reduceEqDiff, Nat.reducePow, Int.reduceToNat, Int.reducePow, Int.reduceAdd, Int.reduceSub, Int.reduceMul, Int.reduceLT, Int.reduceLE, Int.reduceEq, Int.reduceNeg])
      exact hj _ _ ⟨by rw [if_pos c]; rfl, rfl⟩
    · exact hj _ _ ⟨by rw [if_neg c]; rfl, rfl⟩
  rintro _ _ ⟨rfl, rfl⟩
  generalize (if up = [] then pQ else pQD) = low at *
  generalize (if down = [] then pQ else pQU) = top at *
  (try simp -dsimp (disch := omega) only [↓pre, sp, sp2, wp_some, Int.cast_ofNat_Int, Nat.reduceAdd, Nat.reduceMul, Nat.reduceSub, Nat.reduceLeDiff, Nat.reduceEqDiff, Nat.reducePow, Int.reduceToNat, Int.reducePow, Int.reduceAdd, Int.reduceSub, Int.reduceMul, Int.reduceLT, Int.reduceLE, Int.reduceEq, Int.reduceNeg, row_rw g5, sp5])
  refine wp_kJ (fun l h6 => l = [] ∧ Ke (pm p m) h h6 ∧ Ke (pm p m) h5 h6 ∧ Fs h6 p m (if up = [] then s3 else s3.set top (decide (y ≥ s3.f pPV)))) (fun j hj => ?_) ?_
  · (try simp -dsimp (disch := omega) only [↓pre, sp, sp2, wp_some, Int.cast_ofNat_Int, Nat.reduceAdd, Nat.reduceMul, Nat.reduceSub, Nat.reduceLeDiff, Nat.reduceEqDiff, Nat.reducePow, Int.reduceToNat, Int.reducePow, Int.reduceAdd, Int.reduceSub, Int.reduceMul, Int.reduceLT, Int.reduceLE, Int.reduceEq, Int.reduceNeg])
    refine wp_ite (fun c => ?_) (fun c => ?_)
    · (try simp -dsimp (disch := omega) only [↓pre, sp, sp2, wp_some, Int.cast_ofNat_Int, Nat.reduceAdd, Nat.reduceMul, Nat.reduceSub, Nat.reduceLeDiff, Nat.reduceEqDiff, Nat.reducePow, Int.reduceToNat, Int.reducePow, Int.reduceAdd, Int.reduceSub, Int.reduceMul, Int.reduceLT, Int.reduceLE, Int.reduceEq, Int.reduceNeg, t5.row, t5.look])
      refine Wp.bind (set_spec H (n + 1) k5.w' t5 top _) fun v h6 ⟨k6, e, t6⟩ => ?_
      (try simp -dsimp (disch := omega) only [↓pre, sp, sp2, wp_some, Int.cast_ofNat_Int, Nat.reduceAdd, Nat.reduceMul, Nat.reduceSub, Nat.reduceLeDiff, Nat.reduceEqDiff, Nat.reducePow, Int.reduceToNat, Int.reducePow, Int.reduceAdd, Int.reduceSub, Int.reduceMul, Int.reduceLT, Int.reduceLE, Int.reduceEq, Int.reduceNeg])
      exact hj _ _ ⟨rfl, k05.trans k6, k6, by rw [if_neg c]; exact t6⟩
    · exact hj _ _ ⟨rfl, k05, Ke.refl k5.w', by rw [if_pos (by simpa using c)]; exact t5⟩
  rintro _ h6 ⟨rfl, k06, k6, t6⟩
  generalize (if up = [] then s3 else s3.set top (decide (y ≥ s3.f pPV))) = s4 at *
  have g6 := k6.gt g5 hnew
  (try simp -dsimp (disch := omega) only [↓pre, sp, sp2, wp_some, Int.cast_ofNat_Int, Nat.reduceAdd, Nat.reduceMul, Nat.reduceSub, Nat.reduceLeDiff, Nat.reduceEqDiff, Nat.reducePow, Int.reduceToNat, Int.reducePow, Int.reduceAdd, Int.reduceSub, Int.reduceMul, Int.reduceLT, Int.reduceLE, Int.reduceEq, Int.reduceNeg, row_rw g6, sp5])
  refine wp_kJ (fun l h7 => Ke (pm p m) h h7 ∧ Fs h7 p m s') (fun j hj => ?_) ?_
  · (try simp -dsimp (disch := omega) only [↓pre, sp, sp2, wp_some, Int.cast_ofNat_Int, Nat.reduceAdd, Nat.reduceMul, Nat.reduceSub, Nat.reduceLeDiff, Nat.reduceEqDiff, Nat.reducePow, Int.reduceToNat, Int.reducePow, Int.reduceAdd, Int.reduceSub, Int.reduceMul, Int.reduceLT, Int.reduceLE, Int.reduceEq, Int.reduceNeg])
    refine wp_ite (fun c => ?_) (fun c => ?_)
    · (try simp -dsimp (disch := omega) only [↓pre, sp, sp2, wp_some, Int.cast_ofNat_Int, Nat.reduceAdd, Nat.reduceMul, Nat.reduceSub, Nat.reduceLeDiff, Nat.reduceEqDiff, Nat.reducePow, Int.reduceToNat, Int.reducePow, Int.reduceAdd, Int.reduceSub, Int.reduceMul, Int.reduceLT, Int.reduceLE, Int.reduceEq, Int.reduceNeg])
      refine Wp.bind (set_spec H (n + 1) k6.w' t6 low _) fun v h7 ⟨k7, e, t7⟩ => ?_
      (try simp -dsimp (disch := omega) only [↓pre, sp, sp2, wp_some, Int.cast_ofNat_Int, Nat.reduceAdd, Nat.reduceMul, Nat.reduceSub, Nat.reduceLeDiff, Nat.reduceEqDiff, Nat.reducePow, Int.reduceToNat, Int.reducePow, Int.reduceAdd, Int.reduceSub, Int.reduceMul, Int.reduceLT, Int.reduceLE, Int.reduceEq, Int.reduceNeg])
      exact hj _ _ ⟨k06.trans k7, by rw [hs', if_neg c]; exact t7⟩
    · exact hj _ _ ⟨k06, by rw [hs', if_pos (by simpa using c)]; exact t6⟩
  rintro _ h7 ⟨k7, t7⟩
  (try simp -dsimp (disch := omega) only [↓pre, sp, sp2, wp_some, Int.cast_ofNat_Int, Nat.reduceAdd, Nat.reduceMul, Nat.reduceSub, Nat.reduceLeDiff, Nat.reduceEqDiff, Nat.reducePow, Int.reduceToNat, Int.reducePow, Int.reduceAdd, Int.reduceSub, Int.reduceMul, Int.reduceLT, Int.reduceLE, Int.reduceEq, Int.reduceNeg])
  exact ⟨k7, rfl, t7⟩
end Go.Proofs.YtindiedfioiejaaDoor.AI
