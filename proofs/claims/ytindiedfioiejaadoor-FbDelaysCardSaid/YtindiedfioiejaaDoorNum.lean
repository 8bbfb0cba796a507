/-AUTOIF-/
/- num: what its functions come to. -/
import Derived.Test.YtindiedfioiejaaDoorF
import Derived.Test.YtindiedfioiejaaDoorAiNumP
namespace Go.Proofs.YtindiedfioiejaaDoor.AI
open Go
set_option linter.unusedSimpArgs false
set_option linter.unusedVariables false
variable {ov : AOver} {h : AH}

/-- A kind's cells. -/
def kdV (d : Kd) : AVal := .agg [.str d.nm, .int .i64 d.w, .bool d.sg, .bool d.bits]
theorem of_spec (H : Plain ov) (n : Nat) (w : Wf h) (k : Int) : Wp (kc ov (n + 1) N_num_of [.int .i64 k] h) fun r h' => Kp h h' ∧ r = .tuple [kdV (kdM k), .bool (kdM k).ok] := by
  rw [C_num_of H]; unfold F_num_of
  refine wp_box w rfl rfl fun p h1 hp k1 n1 g1 => ?_
  refine wp_kIf (b := decide (k = 1)) (fun c => ?_) (fun c1 => ?_)
  · have c := of_decide_eq_true c
    subst c
    have hb : rBuild [(.str []), (.int .i64 0), (.bool false), (.bool false)] [(0, 1), (1, 1), (2, 1), (3, 1)] [(0, (.str [66, 79, 79, 76])), (1, (.int .i64 1)), (2, (.bool false)), (3, (.bool true))] = some (kdV (kdM 1)) := rfl
    (try simp -dsimp (disch := omega) only [↓pre, sp, sp2, wp_some, Int.cast_ofNat_Int, Nat.reduceAdd, Nat.reduceMul, Nat.reduceSub, Nat.reduceLeDiff, Nat.reduceEqDiff, Nat.reducePow, Int.reduceToNat, Int.reducePow, Int.reduceAdd, Int.reduceSub, Int.reduceMul, Int.reduceLT, Int.reduceLE, Int.reduceEq, Int.reduceNeg, ↓hb])
    refine wp_store k1.w' g1 rfl rfl (by decide) rfl fun h2 k2 n2 g2 => ?_
    (try simp -dsimp (disch := omega) only [↓pre, sp, sp2, wp_some, Int.cast_ofNat_Int, Nat.reduceAdd, Nat.reduceMul, Nat.reduceSub, Nat.reduceLeDiff, Nat.reduceEqDiff, Nat.reducePow, Int.reduceToNat, Int.reducePow, Int.reduceAdd, Int.reduceSub, Int.reduceMul, Int.reduceLT, Int.reduceLE, Int.reduceEq, Int.reduceNeg, row_rw g2, splice_def])
    exact ⟨Ke.new_p k1 k2 fun i hi => by omega, rfl⟩
  refine wp_kIf (b := decide (k = 2)) (fun c => ?_) (fun c2 => ?_)
  · have c := of_decide_eq_true c
    subst c
    have hb : rBuild [(.str []), (.int .i64 0), (.bool false), (.bool false)] [(0, 1), (1, 1), (2, 1), (3, 1)] [(0, (.str [83, 73, 78, 84])), (1, (.int .i64 8)), (2, (.bool true)), (3, (.bool false))] = some (kdV (kdM 2)) := rfl
    (try simp -dsimp (disch := omega) only [↓pre, sp, sp2, wp_some, Int.cast_ofNat_Int, Nat.reduceAdd, Nat.reduceMul, Nat.reduceSub, Nat.reduceLeDiff, Nat.reduceEqDiff, Nat.reducePow, Int.reduceToNat, Int.reducePow, Int.reduceAdd, Int.reduceSub, Int.reduceMul, Int.reduceLT, Int.reduceLE, Int.reduceEq, Int.reduceNeg, ↓hb])
    refine wp_store k1.w' g1 rfl rfl (by decide) rfl fun h2 k2 n2 g2 => ?_
    (try simp -dsimp (disch := omega) only [↓pre, sp, sp2, wp_some, Int.cast_ofNat_Int, Nat.reduceAdd, Nat.reduceMul, Nat.reduceSub, Nat.reduceLeDiff, Nat.reduceEqDiff, Nat.reducePow, Int.reduceToNat, Int.reducePow, Int.reduceAdd, Int.reduceSub, Int.reduceMul, Int.reduceLT, Int.reduceLE, Int.reduceEq, Int.reduceNeg, row_rw g2, splice_def])
    exact ⟨Ke.new_p k1 k2 fun i hi => by omega, rfl⟩
  refine wp_kIf (b := decide (k = 3)) (fun c => ?_) (fun c3 => ?_)
  · have c := of_decide_eq_true c
    subst c
    have hb : rBuild [(.str []), (.int .i64 0), (.bool false), (.bool false)] [(0, 1), (1, 1), (2, 1), (3, 1)] [(0, (.str [73, 78, 84])), (1, (.int .i64 16)), (2, (.bool true)), (3, (.bool false))] = some (kdV (kdM 3)) := rfl
    (try simp -dsimp (disch := omega) only [↓pre, sp, sp2, wp_some, Int.cast_ofNat_Int, Nat.reduceAdd, Nat.reduceMul, Nat.reduceSub, Nat.reduceLeDiff, Nat.reduceEqDiff, Nat.reducePow, Int.reduceToNat, Int.reducePow, Int.reduceAdd, Int.reduceSub, Int.reduceMul, Int.reduceLT, Int.reduceLE, Int.reduceEq, Int.reduceNeg, ↓hb])
    refine wp_store k1.w' g1 rfl rfl (by decide) rfl fun h2 k2 n2 g2 => ?_
    (try simp -dsimp (disch := omega) only [↓pre, sp, sp2, wp_some, Int.cast_ofNat_Int, Nat.reduceAdd, Nat.reduceMul, Nat.reduceSub, Nat.reduceLeDiff, Nat.reduceEqDiff, Nat.reducePow, Int.reduceToNat, Int.reducePow, Int.reduceAdd, Int.reduceSub, Int.reduceMul, Int.reduceLT, Int.reduceLE, Int.reduceEq, Int.reduceNeg, row_rw g2, splice_def])
    exact ⟨Ke.new_p k1 k2 fun i hi => by omega, rfl⟩
  refine wp_kIf (b := decide (k = 4)) (fun c => ?_) (fun c4 => ?_)
  · have c := of_decide_eq_true c
    subst c
    have hb : rBuild [(.str []), (.int .i64 0), (.bool false), (.bool false)] [(0, 1), (1, 1), (2, 1), (3, 1)] [(0, (.str [68, 73, 78, 84])), (1, (.int .i64 32)), (2, (.bool true)), (3, (.bool false))] = some (kdV (kdM 4)) := rfl
    (try simp -dsimp (disch := omega) only [↓pre, sp, sp2, wp_some, Int.cast_ofNat_Int, Nat.reduceAdd, Nat.reduceMul, Nat.reduceSub, Nat.reduceLeDiff, Nat.reduceEqDiff, Nat.reducePow, Int.reduceToNat, Int.reducePow, Int.reduceAdd, Int.reduceSub, Int.reduceMul, Int.reduceLT, Int.reduceLE, Int.reduceEq, Int.reduceNeg, ↓hb])
    refine wp_store k1.w' g1 rfl rfl (by decide) rfl fun h2 k2 n2 g2 => ?_
    (try simp -dsimp (disch := omega) only [↓pre, sp, sp2, wp_some, Int.cast_ofNat_Int, Nat.reduceAdd, Nat.reduceMul, Nat.reduceSub, Nat.reduceLeDiff, Nat.reduceEqDiff, Nat.reducePow, Int.reduceToNat, Int.reducePow, Int.reduceAdd, Int.reduceSub, Int.reduceMul, Int.reduceLT, Int.reduceLE, Int.reduceEq, Int.reduceNeg, row_rw g2, splice_def])
    exact ⟨Ke.new_p k1 k2 fun i hi => by omega, rfl⟩
  refine wp_kIf (b := decide (k = 5)) (fun c => ?_) (fun c5 => ?_)
  · have c := of_decide_eq_true c
    subst c
    have hb : rBuild [(.str []), (.int .i64 0), (.bool false), (.bool false)] [(0, 1), (1, 1), (2, 1), (3, 1)] [(0, (.str [85, 83, 73, 78, 84])), (1, (.int .i64 8)), (2, (.bool false)), (3, (.bool false))] = some (kdV (kdM 5)) := rfl
    (try simp -dsimp (disch := omega) only [↓pre, sp, sp2, wp_some, Int.cast_ofNat_Int, Nat.reduceAdd, Nat.reduceMul, Nat.reduceSub, Nat.reduceLeDiff, Nat.reduceEqDiff, Nat.reducePow, Int.reduceToNat, Int.reducePow, Int.reduceAdd, Int.reduceSub, Int.reduceMul, Int.reduceLT, Int.reduceLE, Int.reduceEq, Int.reduceNeg, ↓hb])
    refine wp_store k1.w' g1 rfl rfl (by decide) rfl fun h2 k2 n2 g2 => ?_
    (try simp -dsimp (disch := omega) only [↓pre, sp, sp2, wp_some, Int.cast_ofNat_Int, Nat.reduceAdd, Nat.reduceMul, Nat.reduceSub, Nat.reduceLeDiff, Nat.reduceEqDiff, Nat.reducePow, Int.reduceToNat, Int.reducePow, Int.reduceAdd, Int.reduceSub, Int.reduceMul, Int.reduceLT, Int.reduceLE, Int.reduceEq, Int.reduceNeg, row_rw g2, splice_def])
    exact ⟨Ke.new_p k1 k2 fun i hi => by omega, rfl⟩
  refine wp_kIf (b := decide (k = 6)) (fun c => ?_) (fun c6 => ?_)
  · have c := of_decide_eq_true c
    subst c
    have hb : rBuild [(.str []), (.int .i64 0), (.bool false), (.bool false)] [(0, 1), (1, 1), (2, 1), (3, 1)] [(0, (.str [85, 73, 78, 84])), (1, (.int .i64 16)), (2, (.bool false)), (3, (.bool false))] = some (kdV (kdM 6)) := rfl
    (try simp -dsimp (disch := omega) only [↓pre, sp, sp2, wp_some, Int.cast_ofNat_Int, Nat.reduceAdd, Nat.reduceMul, Nat.reduceSub, Nat.reduceLeDiff, Nat.reduceEqDiff, Nat.reducePow, Int.reduceToNat, Int.reducePow, Int.reduceAdd, Int.reduceSub, Int.reduceMul, Int.reduceLT, Int.reduceLE, Int.reduceEq, Int.reduceNeg, ↓hb])
    refine wp_store k1.w' g1 rfl rfl (by decide) rfl fun h2 k2 n2 g2 => ?_
    (try simp -dsimp (disch := omega) only [↓pre, sp, sp2, wp_some, Int.cast_ofNat_Int, Nat.reduceAdd, Nat.reduceMul, Nat.reduceSub, Nat.reduceLeDiff, Nat.reduceEqDiff, Nat.reducePow, Int.reduceToNat, Int.reducePow, Int.reduceAdd, Int.reduceSub, Int.reduceMul, Int.reduceLT, Int.reduceLE, Int.reduceEq, Int.reduceNeg, row_rw g2, splice_def])
    exact ⟨Ke.new_p k1 k2 fun i hi => by omega, rfl⟩
  refine wp_kIf (b := decide (k = 7)) (fun c => ?_) (fun c7 => ?_)
  · have c := of_decide_eq_true c
    subst c
    have hb : rBuild [(.str []), (.int .i64 0), (.bool false), (.bool false)] [(0, 1), (1, 1), (2, 1), (3, 1)] [(0, (.str [85, 68, 73, 78, 84])), (1, (.int .i64 32)), (2, (.bool false)), (3, (.bool false))] = some (kdV (kdM 7)) := rfl
    (try simp -dsimp (disch := omega) only [↓pre, sp, sp2, wp_some, Int.cast_ofNat_Int, Nat.reduceAdd, Nat.reduceMul, Nat.reduceSub, Nat.reduceLeDiff, Nat.reduceEqDiff, Nat.reducePow, Int.reduceToNat, Int.reducePow, Int.reduceAdd, Int.reduceSub, Int.reduceMul, Int.reduceLT, Int.reduceLE, Int.reduceEq, Int.reduceNeg, ↓hb])
    refine wp_store k1.w' g1 rfl rfl (by decide) rfl fun h2 k2 n2 g2 => ?_
    (try simp -dsimp (disch := omega) only [↓pre, sp, sp2, wp_some, Int.cast_ofNat_Int, Nat.reduceAdd, Nat.reduceMul, Nat.reduceSub, Nat.reduceLeDiff, Nat.reduceEqDiff, Nat.reducePow, Int.reduceToNat, Int.reducePow, Int.reduceAdd, Int.reduceSub, Int.reduceMul, Int.reduceLT, Int.reduceLE, Int.reduceEq, Int.reduceNeg, row_rw g2, splice_def])
    exact ⟨Ke.new_p k1 k2 fun i hi => by omega, rfl⟩
  refine wp_kIf (b := decide (k = 8)) (fun c => ?_) (fun c8 => ?_)
  · have c := of_decide_eq_true c
    subst c
    have hb : rBuild [(.str []), (.int .i64 0), (.bool false), (.bool false)] [(0, 1), (1, 1), (2, 1), (3, 1)] [(0, (.str [66, 89, 84, 69])), (1, (.int .i64 8)), (2, (.bool false)), (3, (.bool true))] = some (kdV (kdM 8)) := rfl
    (try simp -dsimp (disch := omega) only [↓pre, sp, sp2, wp_some, Int.cast_ofNat_Int, Nat.reduceAdd, Nat.reduceMul, Nat.reduceSub, Nat.reduceLeDiff, Nat.reduceEqDiff, Nat.reducePow, Int.reduceToNat, Int.reducePow, Int.reduceAdd, Int.reduceSub, Int.reduceMul, Int.reduceLT, Int.reduceLE, Int.reduceEq, Int.reduceNeg, ↓hb])
    refine wp_store k1.w' g1 rfl rfl (by decide) rfl fun h2 k2 n2 g2 => ?_
    (try simp -dsimp (disch := omega) only [↓pre, sp, sp2, wp_some, Int.cast_ofNat_Int, Nat.reduceAdd, Nat.reduceMul, Nat.reduceSub, Nat.reduceLeDiff, Nat.reduceEqDiff, Nat.reducePow, Int.reduceToNat, Int.reducePow, Int.reduceAdd, Int.reduceSub, Int.reduceMul, Int.reduceLT, Int.reduceLE, Int.reduceEq, Int.reduceNeg, row_rw g2, splice_def])
    exact ⟨Ke.new_p k1 k2 fun i hi => by omega, rfl⟩
  refine wp_kIf (b := decide (k = 9)) (fun c => ?_) (fun c9 => ?_)
  · have c := of_decide_eq_true c
    subst c
    have hb : rBuild [(.str []), (.int .i64 0), (.bool false), (.bool false)] [(0, 1), (1, 1), (2, 1), (3, 1)] [(0, (.str [87, 79, 82, 68])), (1, (.int .i64 16)), (2, (.bool false)), (3, (.bool true))] = some (kdV (kdM 9)) := rfl
    (try simp -dsimp (disch := omega) only [↓pre, sp, sp2, wp_some, Int.cast_ofNat_Int, Nat.reduceAdd, Nat.reduceMul, Nat.reduceSub, Nat.reduceLeDiff, Nat.reduceEqDiff, Nat.reducePow, Int.reduceToNat, Int.reducePow, Int.reduceAdd, Int.reduceSub, Int.reduceMul, Int.reduceLT, Int.reduceLE, Int.reduceEq, Int.reduceNeg, ↓hb])
    refine wp_store k1.w' g1 rfl rfl (by decide) rfl fun h2 k2 n2 g2 => ?_
    (try simp -dsimp (disch := omega) only [↓pre, sp, sp2, wp_some, Int.cast_ofNat_Int, Nat.reduceAdd, Nat.reduceMul, Nat.reduceSub, Nat.reduceLeDiff, Nat.reduceEqDiff, Nat.reducePow, Int.reduceToNat, Int.reducePow, Int.reduceAdd, Int.reduceSub, Int.reduceMul, Int.reduceLT, Int.reduceLE, Int.reduceEq, Int.reduceNeg, row_rw g2, splice_def])
    exact ⟨Ke.new_p k1 k2 fun i hi => by omega, rfl⟩
  refine wp_kIf (b := decide (k = 10)) (fun c => ?_) (fun c10 => ?_)
  · have c := of_decide_eq_true c
    subst c
    have hb : rBuild [(.str []), (.int .i64 0), (.bool false), (.bool false)] [(0, 1), (1, 1), (2, 1), (3, 1)] [(0, (.str [68, 87, 79, 82, 68])), (1, (.int .i64 32)), (2, (.bool false)), (3, (.bool true))] = some (kdV (kdM 10)) := rfl
    (try simp -dsimp (disch := omega) only [↓pre, sp, sp2, wp_some, Int.cast_ofNat_Int, Nat.reduceAdd, Nat.reduceMul, Nat.reduceSub, Nat.reduceLeDiff, Nat.reduceEqDiff, Nat.reducePow, Int.reduceToNat, Int.reducePow, Int.reduceAdd, Int.reduceSub, Int.reduceMul, Int.reduceLT, Int.reduceLE, Int.reduceEq, Int.reduceNeg, ↓hb])
    refine wp_store k1.w' g1 rfl rfl (by decide) rfl fun h2 k2 n2 g2 => ?_
    (try simp -dsimp (disch := omega) only [↓pre, sp, sp2, wp_some, Int.cast_ofNat_Int, Nat.reduceAdd, Nat.reduceMul, Nat.reduceSub, Nat.reduceLeDiff, Nat.reduceEqDiff, Nat.reducePow, Int.reduceToNat, Int.reducePow, Int.reduceAdd, Int.reduceSub, Int.reduceMul, Int.reduceLT, Int.reduceLE, Int.reduceEq, Int.reduceNeg, row_rw g2, splice_def])
    exact ⟨Ke.new_p k1 k2 fun i hi => by omega, rfl⟩
  refine wp_kIf (b := decide (k = 11)) (fun c => ?_) (fun c11 => ?_)
  · have c := of_decide_eq_true c
    subst c
    have hb : rBuild [(.str []), (.int .i64 0), (.bool false), (.bool false)] [(0, 1), (1, 1), (2, 1), (3, 1)] [(0, (.str [84, 73, 77, 69])), (1, (.int .i64 32)), (2, (.bool true)), (3, (.bool false))] = some (kdV (kdM 11)) := rfl
    (try simp -dsimp (disch := omega) only [↓pre, sp, sp2, wp_some, Int.cast_ofNat_Int, Nat.reduceAdd, Nat.reduceMul, Nat.reduceSub, Nat.reduceLeDiff, Nat.reduceEqDiff, Nat.reducePow, Int.reduceToNat, Int.reducePow, Int.reduceAdd, Int.reduceSub, Int.reduceMul, Int.reduceLT, Int.reduceLE, Int.reduceEq, Int.reduceNeg, ↓hb])
    refine wp_store k1.w' g1 rfl rfl (by decide) rfl fun h2 k2 n2 g2 => ?_
    (try simp -dsimp (disch := omega) only [↓pre, sp, sp2, wp_some, Int.cast_ofNat_Int, Nat.reduceAdd, Nat.reduceMul, Nat.reduceSub, Nat.reduceLeDiff, Nat.reduceEqDiff, Nat.reducePow, Int.reduceToNat, Int.reducePow, Int.reduceAdd, Int.reduceSub, Int.reduceMul, Int.reduceLT, Int.reduceLE, Int.reduceEq, Int.reduceNeg, row_rw g2, splice_def])
    exact ⟨Ke.new_p k1 k2 fun i hi => by omega, rfl⟩
  (try simp -dsimp (disch := omega) only [↓pre, sp, sp2, wp_some, Int.cast_ofNat_Int, Nat.reduceAdd, Nat.reduceMul, Nat.reduceSub, Nat.reduceLeDiff, Nat.reduceEqDiff, Nat.reducePow, Int.reduceToNat, Int.reducePow, Int.reduceAdd, Int.reduceSub, Int.reduceMul, Int.reduceLT, Int.reduceLE, Int.reduceEq, Int.reduceNeg])
  refine wp_store k1.w' g1 rfl rfl (by decide) rfl fun h2 k2 n2 g2 => ?_
  have e : kdM k = ⟨[], 0, false, false, false⟩ := by
    unfold kdM
    rw [if_neg (of_decide_eq_false c1), if_neg (of_decide_eq_false c2), if_neg (of_decide_eq_false c3), if_neg (of_decide_eq_false c4), if_neg (of_decide_eq_false c5), if_neg (of_decide_eq_false c6), if_neg (of_decide_eq_false c7), if_neg (of_decide_eq_false c8), if_neg (of_decide_eq_false c9), if_neg (of_decide_eq_false c10), if_neg (of_decide_eq_false c11)]
  (try simp -dsimp (disch := omega) only [↓pre, sp, sp2, wp_some, Int.cast_ofNat_Int, Nat.reduceAdd, Nat.reduceMul, Nat.reduceSub, Nat.reduceLeDiff, Nat.reduceEqDiff, Nat.reducePow, Int.reduceToNat, Int.reducePow, Int.reduceAdd, Int.reduceSub, Int.reduceMul, Int.reduceLT, Int.reduceLE, Int.reduceEq, Int.reduceNeg, row_rw g2, splice_def])
  rw [e]
  exact ⟨Ke.new_p k1 k2 fun i hi => by omega, rfl⟩
/-- A kind, in a box. -/
theorem of_box (H : Plain ov) (n : Nat) (w : Wf h) (k : Int) {Q : AVal → AH → Prop} {K : AVal → AH → Ans} (hK : ∀ p h2, Kp h h2 → h2.row p = some [.str (kdM k).nm, .int .i64 (kdM k).w, .bool (kdM k).sg, .bool (kdM k).bits] → Wp (K (.ptr (some (p, 0))) h2) Q) :
    Wp (ke (kc ov (n + 1) N_num_of [.int .i64 k] h) fun v2 h0 => kq (some v2) fun v3 => kq (aExtract v3 0) fun v4 => kq (aExtract v3 1) fun v5 => km (pBox T_num_kind (.agg [(.str []), (.int .i64 0), (.bool false), (.bool false)])) h0 fun v6 h1 => ke ((rStore 4 v6 v4 h1).map fun h' => (.tuple [], h')) fun v7 h2 => K v6 h2) Q := by
  refine Wp.bind (of_spec H n w k) fun v h1 ⟨k1, e⟩ => ?_
  subst e
  (try simp -dsimp (disch := omega) only [↓pre, sp, sp2, wp_some, Int.cast_ofNat_Int, Nat.reduceAdd, Nat.reduceMul, Nat.reduceSub, Nat.reduceLeDiff, Nat.reduceEqDiff, Nat.reducePow, Int.reduceToNat, Int.reducePow, Int.reduceAdd, Int.reduceSub, Int.reduceMul, Int.reduceLT, Int.reduceLE, Int.reduceEq, Int.reduceNeg])
  refine wp_box k1.w' rfl rfl fun p h2 hp k2 n2 g2 => ?_
  refine wp_store k2.w' g2 rfl rfl (by decide) rfl fun h3 k3 n3 g3 => ?_
  exact hK p h3 (k1.trans (Ke.new_p k2 k3 fun i hi => by omega)) (by rw [row_rw g3]; rfl)
theorem truth_spec (H : Plain ov) (n : Nat) (b : Bool) : kc ov (n + 1) N_num_truth [.bool b] h = some (.int .i64 (if b then 1 else 0), h) := by
  rw [C_num_truth H]; unfold F_num_truth
  cases b <;> (try simp -dsimp (disch := omega) only [↓pre, sp, sp2, wp_some, Int.cast_ofNat_Int, Nat.reduceAdd, Nat.reduceMul, Nat.reduceSub, Nat.reduceLeDiff, Nat.reduceEqDiff, Nat.reducePow, Int.reduceToNat, Int.reducePow, Int.reduceAdd, Int.reduceSub, Int.reduceMul, Int.reduceLT, Int.reduceLE, Int.reduceEq, Int.reduceNeg]) <;> rfl
theorem name_spec (H : Plain ov) (n : Nat) (w : Wf h) (k : Int) : Wp (kc ov (n + 2) N_num_Name [.int .i64 k] h) fun r h' => Kp h h' ∧ r = .str (kdM k).nm := by
  rw [C_num_Name H]; unfold F_num_Name
  (try simp -dsimp (disch := omega) only [↓pre, sp, sp2, wp_some, Int.cast_ofNat_Int, Nat.reduceAdd, Nat.reduceMul, Nat.reduceSub, Nat.reduceLeDiff, Nat.reduceEqDiff, Nat.reducePow, Int.reduceToNat, Int.reducePow, Int.reduceAdd, Int.reduceSub, Int.reduceMul, Int.reduceLT, Int.reduceLE, Int.reduceEq, Int.reduceNeg])
  refine Wp.bind (of_spec H n w k) fun v h1 ⟨k1, e⟩ => ?_
  subst e
  (try simp -dsimp (disch := omega) only [↓pre, sp, sp2, wp_some, Int.cast_ofNat_Int, Nat.reduceAdd, Nat.reduceMul, Nat.reduceSub, Nat.reduceLeDiff, Nat.reduceEqDiff, Nat.reducePow, Int.reduceToNat, Int.reducePow, Int.reduceAdd, Int.reduceSub, Int.reduceMul, Int.reduceLT, Int.reduceLE, Int.reduceEq, Int.reduceNeg])
  refine wp_box k1.w' rfl rfl fun p h2 hp k2 n2 g2 => ?_
  refine wp_store k2.w' g2 rfl rfl (by decide) rfl fun h3 k3 n3 g3 => ?_
  have r3 : h3.row p = some [.str (kdM k).nm, .int .i64 (kdM k).w, .bool (kdM k).sg, .bool (kdM k).bits] := by rw [row_rw g3]; rfl
  (try simp -dsimp (disch := omega) only [↓pre, sp, sp2, wp_some, Int.cast_ofNat_Int, Nat.reduceAdd, Nat.reduceMul, Nat.reduceSub, Nat.reduceLeDiff, Nat.reduceEqDiff, Nat.reducePow, Int.reduceToNat, Int.reducePow, Int.reduceAdd, Int.reduceSub, Int.reduceMul, Int.reduceLT, Int.reduceLE, Int.reduceEq, Int.reduceNeg, r3])
  exact k1.trans (Ke.new_p k2 k3 fun i hi => by omega)
/-FI-/
theorem wrap_spec (H : Plain ov) (n : Nat) (w : Wf h) (k x : Int) (hx : -9223372036854775808 ≤ x ∧ x < 9223372036854775808) : Wp (kc ov (n + 2) N_num_Wrap [.int .i64 k, .int .i64 x] h) fun r h' => Kp h h' ∧ r = .int .i64 (wrapM k x) := by
  rw [C_num_Wrap H]; unfold F_num_Wrap
  (try simp -dsimp (disch := omega) only [↓pre, sp, sp2, wp_some, Int.cast_ofNat_Int, Nat.reduceAdd, Nat.reduceMul, Nat.reduceSub, Nat.reduceLeDiff, Nat.reduceEqDiff, Nat.reducePow, Int.reduceToNat, Int.reducePow, Int.reduceAdd, Int.reduceSub, Int.reduceMul, Int.reduceLT, Int.reduceLE, Int.reduceEq, Int.reduceNeg])
  refine Wp.bind (of_spec H n w k) fun v h1 ⟨k1, e⟩ => ?_
  subst e
  (try simp -dsimp (disch := omega) only [↓pre, sp, sp2, wp_some, Int.cast_ofNat_Int, Nat.reduceAdd, Nat.reduceMul, Nat.reduceSub, Nat.reduceLeDiff, Nat.reduceEqDiff, Nat.reducePow, Int.reduceToNat, Int.reducePow, Int.reduceAdd, Int.reduceSub, Int.reduceMul, Int.reduceLT, Int.reduceLE, Int.reduceEq, Int.reduceNeg])
  refine wp_box k1.w' rfl rfl fun p h2 hp k2 n2 g2 => ?_
  refine wp_store k2.w' g2 rfl rfl (by decide) rfl fun h3 k3 n3 g3 => ?_
  have r3 : h3.row p = some [.str (kdM k).nm, .int .i64 (kdM k).w, .bool (kdM k).sg, .bool (kdM k).bits] := by rw [row_rw g3]; rfl
  have K3 : Kp h h3 := k1.trans (Ke.new_p k2 k3 fun i hi => by omega)
  have s8 := shl_n64 (e := .no) (c := false) x 56 (by omega)
  have s16 := shl_n64 (e := .no) (c := false) x 48 (by omega)
  have s32 := shl_n64 (e := .no) (c := false) x 32 (by omega)
  have t8 := fun y => shr_n64 (e := .no) (c := false) y 56 (by omega)
  have t16 := fun y => shr_n64 (e := .no) (c := false) y 48 (by omega)
  have t32 := fun y => shr_n64 (e := .no) (c := false) y 32 (by omega)
  simp only [Int.cast_ofNat_Int, Int.reducePow] at s8 s16 s32 t8 t16 t32
  have a8 := ww8 x
  have a16 := ww16 x
  have a32 := ww32 x
  have hu : ∀ y : Int, 0 ≤ IntKind.wrap .u64 y := fun y => by rw [IntKind.wrap_u64]; omega
  have b8 := wu8 x
  have b16 := wu16 x
  have b32 := wu32 x
  have ht := fun b => truth_spec (h := h3) H n b
  rcases kcases k with rfl | rfl | rfl | rfl | rfl | rfl | rfl | rfl | rfl | rfl | rfl | ⟨e0, ew, hk⟩
  · have ed : kdM 1 = ⟨[66, 79, 79, 76], 1, false, true, true⟩ := rfl
    rw [ed] at r3 ⊢
    (try simp -dsimp (disch := omega) only [↓pre, sp, sp2, wp_some, Int.cast_ofNat_Int, Nat.reduceAdd, Nat.reduceMul, Nat.reduceSub, Nat.reduceLeDiff, Nat.reduceEqDiff, Nat.reducePow, Int.reduceToNat, Int.reducePow, Int.reduceAdd, Int.reduceSub, Int.reduceMul, Int.reduceLT, Int.reduceLE, Int.reduceEq, Int.reduceNeg, r3, ht])
    refine ⟨K3, ?_⟩
    by_cases c : x = 0 <;> simp [wrapM, c]
  · have ed : kdM 2 = ⟨[83, 73, 78, 84], 8, true, false, true⟩ := rfl
    rw [ed] at r3 ⊢
    (try simp -dsimp (disch := omega) only [↓pre, sp, sp2, wp_some, Int.cast_ofNat_Int, Nat.reduceAdd, Nat.reduceMul, Nat.reduceSub, Nat.reduceLeDiff, Nat.reduceEqDiff, Nat.reducePow, Int.reduceToNat, Int.reducePow, Int.reduceAdd, Int.reduceSub, Int.reduceMul, Int.reduceLT, Int.reduceLE, Int.reduceEq, Int.reduceNeg, r3, s8, t8, a8])
    exact ⟨K3, rfl⟩
  · have ed : kdM 3 = ⟨[73, 78, 84], 16, true, false, true⟩ := rfl
    rw [ed] at r3 ⊢
    (try simp -dsimp (disch := omega) only [↓pre, sp, sp2, wp_some, Int.cast_ofNat_Int, Nat.reduceAdd, Nat.reduceMul, Nat.reduceSub, Nat.reduceLeDiff, Nat.reduceEqDiff, Nat.reducePow, Int.reduceToNat, Int.reducePow, Int.reduceAdd, Int.reduceSub, Int.reduceMul, Int.reduceLT, Int.reduceLE, Int.reduceEq, Int.reduceNeg, r3, s16, t16, a16])
    exact ⟨K3, rfl⟩
  · have ed : kdM 4 = ⟨[68, 73, 78, 84], 32, true, false, true⟩ := rfl
    rw [ed] at r3 ⊢
    (try simp -dsimp (disch := omega) only [↓pre, sp, sp2, wp_some, Int.cast_ofNat_Int, Nat.reduceAdd, Nat.reduceMul, Nat.reduceSub, Nat.reduceLeDiff, Nat.reduceEqDiff, Nat.reducePow, Int.reduceToNat, Int.reducePow, Int.reduceAdd, Int.reduceSub, Int.reduceMul, Int.reduceLT, Int.reduceLE, Int.reduceEq, Int.reduceNeg, r3, s32, t32, a32])
    exact ⟨K3, rfl⟩
  · have ed : kdM 5 = ⟨[85, 83, 73, 78, 84], 8, false, false, true⟩ := rfl
    rw [ed] at r3 ⊢
    have hn := hu x
    have hm := hu (IntKind.wrap .u64 x * 2 ^ (64 - 8))
    simp only [Nat.reduceSub, Int.reducePow] at hm
    have hw : IntKind.wrap .i64 (x % 2 ^ 8) = x % 2 ^ 8 := by simp only [Int.reducePow]; rw [wr_i64 (by omega) (by omega)]
    simp only [Int.reducePow] at hw
    (try simp -dsimp (disch := omega) only [↓pre, sp, sp2, wp_some, Int.cast_ofNat_Int, Nat.reduceAdd, Nat.reduceMul, Nat.reduceSub, Nat.reduceLeDiff, Nat.reduceEqDiff, Nat.reducePow, Int.reduceToNat, Int.reducePow, Int.reduceAdd, Int.reduceSub, Int.reduceMul, Int.reduceLT, Int.reduceLE, Int.reduceEq, Int.reduceNeg, r3, b8, hw])
    exact ⟨K3, rfl⟩
  · have ed : kdM 6 = ⟨[85, 73, 78, 84], 16, false, false, true⟩ := rfl
    rw [ed] at r3 ⊢
    have hn := hu x
    have hm := hu (IntKind.wrap .u64 x * 2 ^ (64 - 16))
    simp only [Nat.reduceSub, Int.reducePow] at hm
    have hw : IntKind.wrap .i64 (x % 2 ^ 16) = x % 2 ^ 16 := by simp only [Int.reducePow]; rw [wr_i64 (by omega) (by omega)]
    simp only [Int.reducePow] at hw
    (try simp -dsimp (disch := omega) only [↓pre, sp, sp2, wp_some, Int.cast_ofNat_Int, Nat.reduceAdd, Nat.reduceMul, Nat.reduceSub, Nat.reduceLeDiff, Nat.reduceEqDiff, Nat.reducePow, Int.reduceToNat, Int.reducePow, Int.reduceAdd, Int.reduceSub, Int.reduceMul, Int.reduceLT, Int.reduceLE, Int.reduceEq, Int.reduceNeg, r3, b16, hw])
    exact ⟨K3, rfl⟩
  · have ed : kdM 7 = ⟨[85, 68, 73, 78, 84], 32, false, false, true⟩ := rfl
    rw [ed] at r3 ⊢
    have hn := hu x
    have hm := hu (IntKind.wrap .u64 x * 2 ^ (64 - 32))
    simp only [Nat.reduceSub, Int.reducePow] at hm
    have hw : IntKind.wrap .i64 (x % 2 ^ 32) = x % 2 ^ 32 := by simp only [Int.reducePow]; rw [wr_i64 (by omega) (by omega)]
    simp only [Int.reducePow] at hw
    (try simp -dsimp (disch := omega) only [↓pre, sp, sp2, wp_some, Int.cast_ofNat_Int, Nat.reduceAdd, Nat.reduceMul, Nat.reduceSub, Nat.reduceLeDiff, Nat.reduceEqDiff, Nat.reducePow, Int.reduceToNat, Int.reducePow, Int.reduceAdd, Int.reduceSub, Int.reduceMul, Int.reduceLT, Int.reduceLE, Int.reduceEq, Int.reduceNeg, r3, b32, hw])
    exact ⟨K3, rfl⟩
  · have ed : kdM 8 = ⟨[66, 89, 84, 69], 8, false, true, true⟩ := rfl
    rw [ed] at r3 ⊢
    have hn := hu x
    have hm := hu (IntKind.wrap .u64 x * 2 ^ (64 - 8))
    simp only [Nat.reduceSub, Int.reducePow] at hm
    have hw : IntKind.wrap .i64 (x % 2 ^ 8) = x % 2 ^ 8 := by simp only [Int.reducePow]; rw [wr_i64 (by omega) (by omega)]
    simp only [Int.reducePow] at hw
    (try simp -dsimp (disch := omega) only [↓pre, sp, sp2, wp_some, Int.cast_ofNat_Int, Nat.reduceAdd, Nat.reduceMul, Nat.reduceSub, Nat.reduceLeDiff, Nat.reduceEqDiff, Nat.reducePow, Int.reduceToNat, Int.reducePow, Int.reduceAdd, Int.reduceSub, Int.reduceMul, Int.reduceLT, Int.reduceLE, Int.reduceEq, Int.reduceNeg, r3, b8, hw])
    exact ⟨K3, rfl⟩
  · have ed : kdM 9 = ⟨[87, 79, 82, 68], 16, false, true, true⟩ := rfl
    rw [ed] at r3 ⊢
    have hn := hu x
    have hm := hu (IntKind.wrap .u64 x * 2 ^ (64 - 16))
    simp only [Nat.reduceSub, Int.reducePow] at hm
    have hw : IntKind.wrap .i64 (x % 2 ^ 16) = x % 2 ^ 16 := by simp only [Int.reducePow]; rw [wr_i64 (by omega) (by omega)]
    simp only [Int.reducePow] at hw
    (try simp -dsimp (disch := omega) only [↓pre, sp, sp2, wp_some, Int.cast_ofNat_Int, Nat.reduceAdd, Nat.reduceMul, Nat.reduceSub, Nat.reduceLeDiff, Nat.reduceEqDiff, Nat.reducePow, Int.reduceToNat, Int.reducePow, Int.reduceAdd, Int.reduceSub, Int.reduceMul, Int.reduceLT, Int.reduceLE, Int.reduceEq, Int.reduceNeg, r3, b16, hw])
    exact ⟨K3, rfl⟩
  · have ed : kdM 10 = ⟨[68, 87, 79, 82, 68], 32, false, true, true⟩ := rfl
    rw [ed] at r3 ⊢
    have hn := hu x
    have hm := hu (IntKind.wrap .u64 x * 2 ^ (64 - 32))
    simp only [Nat.reduceSub, Int.reducePow] at hm
    have hw : IntKind.wrap .i64 (x % 2 ^ 32) = x % 2 ^ 32 := by simp only [Int.reducePow]; rw [wr_i64 (by omega) (by omega)]
    simp only [Int.reducePow] at hw
    (try simp -dsimp (disch := omega) only [↓pre, sp, sp2, wp_some, Int.cast_ofNat_Int, Nat.reduceAdd, Nat.reduceMul, Nat.reduceSub, Nat.reduceLeDiff, Nat.reduceEqDiff, Nat.reducePow, Int.reduceToNat, Int.reducePow, Int.reduceAdd, Int.reduceSub, Int.reduceMul, Int.reduceLT, Int.reduceLE, Int.reduceEq, Int.reduceNeg, r3, b32, hw])
    exact ⟨K3, rfl⟩
  · have ed : kdM 11 = ⟨[84, 73, 77, 69], 32, true, false, true⟩ := rfl
    rw [ed] at r3 ⊢
    (try simp -dsimp (disch := omega) only [↓pre, sp, sp2, wp_some, Int.cast_ofNat_Int, Nat.reduceAdd, Nat.reduceMul, Nat.reduceSub, Nat.reduceLeDiff, Nat.reduceEqDiff, Nat.reducePow, Int.reduceToNat, Int.reducePow, Int.reduceAdd, Int.reduceSub, Int.reduceMul, Int.reduceLT, Int.reduceLE, Int.reduceEq, Int.reduceNeg, r3, s32, t32, a32])
    exact ⟨K3, rfl⟩
  · rw [e0] at r3 ⊢
    (try simp -dsimp (disch := omega) only [↓pre, sp, sp2, wp_some, Int.cast_ofNat_Int, Nat.reduceAdd, Nat.reduceMul, Nat.reduceSub, Nat.reduceLeDiff, Nat.reduceEqDiff, Nat.reducePow, Int.reduceToNat, Int.reducePow, Int.reduceAdd, Int.reduceSub, Int.reduceMul, Int.reduceLT, Int.reduceLE, Int.reduceEq, Int.reduceNeg])
    exact ⟨K3, by rw [ew]⟩
end Go.Proofs.YtindiedfioiejaaDoor.AI
