/- Chapter 17: what each block does. -/
import Derived.Test.YtindiedfioiejaaDoorFb1
namespace Go.Proofs.YtindiedfioiejaaDoor.AI
open Go
set_option linter.unusedSimpArgs false
set_option linter.unusedVariables false
variable {ov : AOver} {h : AH}
/-- What a step comes to. -/
def StepQ (h : AH) (p m : Nat) (s' : Stt) (r : AVal) (h' : AH) : Prop := Ke (pm p m) h h' ∧ r = .tuple [] ∧ Fs h' p m s'
theorem Ke.pk {a b c : AH} {p m : Nat} (x : Kp a b) (y : Ke (pm p m) b c) : Ke (pm p m) a c := x.ke.trans y
theorem edge_spec (H : Plain ov) (n : Nat) (w : Wf h) {p m : Nat} {s : Stt} (t : Fs h p m s) (fl : Bool) :
    Wp (kc ov (n + 3) N__fb_edge_step [.agg [.bool fl], .ptr (some (p, 0))] h) (StepQ h p m (edgeM fl s)) := by
  rw [C__fb_edge_step H]; unfold F__fb_edge_step
  refine wp_box w rfl rfl fun q h1 hq k1 n1 g1 => ?_
  have t1 := t.kp k1
  have ei : kc ov (n + 2) N_fb_state_is [.ptr (some (p, 0)), .str [67, 76, 75]] h1 = some (.bool (s.is pCLK), h1) := is_spec H (n + 1) t1 pCLK
  (try simp -dsimp (disch := omega) only [↓pre, sp, sp2, wp_some, Int.cast_ofNat_Int, Nat.reduceAdd, Nat.reduceMul, Nat.reduceSub, Nat.reduceLeDiff, Nat.reduceEqDiff, Nat.reducePow, Int.reduceToNat, Int.reducePow, Int.reduceAdd, Int.reduceSub, Int.reduceMul, Int.reduceLT, Int.reduceLE, Int.reduceEq, Int.reduceNeg, t1.row, sp5, ei])
  refine wp_kT (.bool (!(s.is pCLK == decide (s.k0 ≠ 0)) && !(s.is pCLK == fl))) (fun j hj => ?_) ?_
  · generalize s.is pCLK = c at hj ⊢
    generalize decide (s.k0 ≠ 0) = d at hj ⊢
    cases c <;> cases d <;> (try simp -dsimp (disch := omega) only [↓pre, sp, sp2, wp_some, Int.cast_ofNat_Int, Nat.reduceAdd, Nat.reduceMul, Nat.reduceSub, Nat.reduceLeDiff, Nat.reduceEqDiff, Nat.reducePow, Int.reduceToNat, Int.reducePow, Int.reduceAdd, Int.reduceSub, Int.reduceMul, Int.reduceLT, Int.reduceLE, Int.reduceEq, Int.reduceNeg, row_rw g1, show (false == false) = true from rfl, show (true == true) = true from rfl, show (false == true) = false from rfl, show (true == false) = false from rfl]) <;> exact hj
  · (try simp -dsimp (disch := omega) only [↓pre, sp, sp2, wp_some, Int.cast_ofNat_Int, Nat.reduceAdd, Nat.reduceMul, Nat.reduceSub, Nat.reduceLeDiff, Nat.reduceEqDiff, Nat.reducePow, Int.reduceToNat, Int.reducePow, Int.reduceAdd, Int.reduceSub, Int.reduceMul, Int.reduceLT, Int.reduceLE, Int.reduceEq, Int.reduceNeg])
    refine Wp.bind (set_spec H n k1.w' t1 pQ _) fun v h2 ⟨k2, e, t2⟩ => ?_
    have et : kc ov (n + 2) N_fb_truth [.bool (s.is pCLK)] h2 = some (.int .i64 (tr (s.is pCLK)), h2) := fbtruth_spec H (n + 1) _
    (try simp -dsimp (disch := omega) only [↓pre, sp, sp2, wp_some, Int.cast_ofNat_Int, Nat.reduceAdd, Nat.reduceMul, Nat.reduceSub, Nat.reduceLeDiff, Nat.reduceEqDiff, Nat.reducePow, Int.reduceToNat, Int.reducePow, Int.reduceAdd, Int.reduceSub, Int.reduceMul, Int.reduceLT, Int.reduceLE, Int.reduceEq, Int.reduceNeg, et, sp5])
    refine wp_keep k2.w' t2 0 (by omega) _ rfl fun h3 k3 n3 t3 => ?_
    (try simp -dsimp (disch := omega) only [↓pre, sp, sp2, wp_some, Int.cast_ofNat_Int, Nat.reduceAdd, Nat.reduceMul, Nat.reduceSub, Nat.reduceLeDiff, Nat.reduceEqDiff, Nat.reducePow, Int.reduceToNat, Int.reducePow, Int.reduceAdd, Int.reduceSub, Int.reduceMul, Int.reduceLT, Int.reduceLE, Int.reduceEq, Int.reduceNeg])
    exact ⟨(k1.ke.trans k2).trans k3, rfl, t3⟩
theorem latch_spec (H : Plain ov) (n : Nat) (w : Wf h) {p m : Nat} {s : Stt} (t : Fs h p m s) (a : Bool) :
    Wp (kc ov (n + 3) N__fb_latch_step [.agg [.str (if a then pS1 else pS), .str (if a then pR else pR1)], .ptr (some (p, 0))] h) (StepQ h p m (latchM a s)) := by
  rw [C__fb_latch_step H]; unfold F__fb_latch_step
  refine wp_box w rfl rfl fun q h1 hq k1 n1 g1 => ?_
  have t1 := t.kp k1
  have ei : ∀ k, kc ov (n + 2) N_fb_state_is [.ptr (some (p, 0)), .str k] h1 = some (.bool (s.is k), h1) := is_spec H (n + 1) t1
  have eq : ∀ x y : List UInt8, rBin .eql .no true (.str x) (.str y) = some (.bool (decide (x = y))) := rBin_seql _ _
  cases a
  · have hd : (decide (pS = [83, 49])) = false := by decide
    (try simp -dsimp (disch := omega) only [↓pre, sp, sp2, wp_some, Int.cast_ofNat_Int, Nat.reduceAdd, Nat.reduceMul, Nat.reduceSub, Nat.reduceLeDiff, Nat.reduceEqDiff, Nat.reducePow, Int.reduceToNat, Int.reducePow, Int.reduceAdd, Int.reduceSub, Int.reduceMul, Int.reduceLT, Int.reduceLE, Int.reduceEq, Int.reduceNeg, row_rw g1, ei, ↓hd, if_false, Bool.false_eq_true])
    cases h2 : s.is [82, 49] <;> cases h3 : s.is [83] <;> cases h4 : s.is [81, 49] <;> (try simp -dsimp (disch := omega) only [↓pre, sp, sp2, wp_some, Int.cast_ofNat_Int, Nat.reduceAdd, Nat.reduceMul, Nat.reduceSub, Nat.reduceLeDiff, Nat.reduceEqDiff, Nat.reducePow, Int.reduceToNat, Int.reducePow, Int.reduceAdd, Int.reduceSub, Int.reduceMul, Int.reduceLT, Int.reduceLE, Int.reduceEq, Int.reduceNeg, kth_eq, ei, h2, h3, h4]) <;>
      refine Wp.bind (set_spec H n k1.w' t1 pQ1 _) fun v h2 ⟨k2, e, t2⟩ => ?_ <;> (try simp -dsimp (disch := omega) only [↓pre, sp, sp2, wp_some, Int.cast_ofNat_Int, Nat.reduceAdd, Nat.reduceMul, Nat.reduceSub, Nat.reduceLeDiff, Nat.reduceEqDiff, Nat.reducePow, Int.reduceToNat, Int.reducePow, Int.reduceAdd, Int.reduceSub, Int.reduceMul, Int.reduceLT, Int.reduceLE, Int.reduceEq, Int.reduceNeg]) <;> refine ⟨k1.ke.trans k2, rfl, ?_⟩ <;>
      simp only [latchM, pS, pQ1, pR1, *] <;> exact t2
  · have hd : (decide (pS1 = [83, 49])) = true := by decide
    (try simp -dsimp (disch := omega) only [↓pre, sp, sp2, wp_some, Int.cast_ofNat_Int, Nat.reduceAdd, Nat.reduceMul, Nat.reduceSub, Nat.reduceLeDiff, Nat.reduceEqDiff, Nat.reducePow, Int.reduceToNat, Int.reducePow, Int.reduceAdd, Int.reduceSub, Int.reduceMul, Int.reduceLT, Int.reduceLE, Int.reduceEq, Int.reduceNeg, row_rw g1, ei, ↓hd, if_true])
    cases h2 : s.is [83, 49] <;> cases h3 : s.is [82] <;> cases h4 : s.is [81, 49] <;> (try simp -dsimp (disch := omega) only [↓pre, sp, sp2, wp_some, Int.cast_ofNat_Int, Nat.reduceAdd, Nat.reduceMul, Nat.reduceSub, Nat.reduceLeDiff, Nat.reduceEqDiff, Nat.reducePow, Int.reduceToNat, Int.reducePow, Int.reduceAdd, Int.reduceSub, Int.reduceMul, Int.reduceLT, Int.reduceLE, Int.reduceEq, Int.reduceNeg, kth_eq, ei, h2, h3, h4]) <;>
      refine Wp.bind (set_spec H n k1.w' t1 pQ1 _) fun v h2 ⟨k2, e, t2⟩ => ?_ <;> (try simp -dsimp (disch := omega) only [↓pre, sp, sp2, wp_some, Int.cast_ofNat_Int, Nat.reduceAdd, Nat.reduceMul, Nat.reduceSub, Nat.reduceLeDiff, Nat.reduceEqDiff, Nat.reducePow, Int.reduceToNat, Int.reducePow, Int.reduceAdd, Int.reduceSub, Int.reduceMul, Int.reduceLT, Int.reduceLE, Int.reduceEq, Int.reduceNeg]) <;> refine ⟨k1.ke.trans k2, rfl, ?_⟩ <;>
      simp only [latchM, pS1, pQ1, pR, *] <;> exact t2
end Go.Proofs.YtindiedfioiejaaDoor.AI
