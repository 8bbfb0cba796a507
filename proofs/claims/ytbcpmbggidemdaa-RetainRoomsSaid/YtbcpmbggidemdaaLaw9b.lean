/- Chapter 9: RetainRooms. -/
import Derived.Test.YtbcpmbggidemdaaLaw9
namespace Go.Proofs.Ytbcpmbggidemdaa.AI
open Go
set_option linter.unusedSimpArgs false
set_option linter.unusedVariables false
variable {ov : AOver} {h : AH} {v a b : AVal} {md md' : AMode} {p q : Nat} {s : BSt} {lv : AVal} {vs : List AVal}

theorem new_zero (blocks size : Int) (i : Nat) : numOf ((newM blocks size).bl.getD i []) = 0 := by
  show numOf ((List.replicate (min (max blocks 1) 64).toNat (List.replicate (min (max size 16) 4096).toNat 0)).getD i []) = 0
  rw [List.getD_eq_getElem?_getD, List.getElem?_replicate]
  split
  · have h1 := numOf_or (List.replicate (min (max size 16) 4096).toNat 0)
    have h2 : unbe ((List.replicate (min (max size 16) 4096).toNat (0 : UInt8)).take 8) = 0 := by
      rw [List.take_replicate, show min 8 (min (max size 16) 4096).toNat = 8 by omega]; decide
    show numOf (List.replicate (min (max size 16) 4096).toNat 0) = 0
    omega
  · have h1 := numOf_or []
    have h2 : unbe (([] : List UInt8).take 8) = 0 := by decide
    show numOf [] = 0
    omega
theorem retainRooms (X : Xs ov) (K : ov N_runglaw9_known = some knownYes) (n : Nat) (w : Wf h) {blocks size n0 : Int} (hb : IsI blocks) (hs : IsI size) (hn : IsI n0) :
    Wp (kc ov (n + 6) N_runglaw9_RetainRooms [.int .i64 blocks, .int .i64 size, .int .i64 n0] h) fun r h' => r = .bool true := by
  have H := X.p
  rw [C_runglaw9_RetainRooms H]; unfold F_runglaw9_RetainRooms
  (try simp -dsimp (disch := omega) only [↓pre, sp, sp2, wp_some, Int.cast_ofNat_Int, Nat.reduceAdd, Nat.reduceMul, Nat.reduceSub, Nat.reduceLeDiff, Nat.reduceEqDiff, Nat.reducePow, Int.reduceToNat, Int.reducePow, Int.reduceAdd, Int.reduceSub, Int.reduceMul, Int.reduceLT, Int.reduceLE, Int.reduceEq, Int.reduceNeg, known_spec K (n + 4)])
  refine Wp.bind (new_spec H (n + 4) w blocks size) fun v1 h1 ⟨k1, p, lv, vs, e1, t1, f1⟩ => ?_
  subst e1
  have hsz := t1.sz
  have hcnt := t1.cnt
  have hbl := t1.n
  have hbl0 : (newM blocks size).bl.length = (min (max blocks 1) 64).toNat := by simp [newM]
  have hsz0 : (newM blocks size).size = (min (max size 16) 4096).toNat := rfl
  have hdd : (newM blocks size).dead = false := rfl
  have hinv : 4 ≤ (newM blocks size).bl.length → 64 ≤ (newM blocks size).size → On9 h1 p (newM blocks size) lv vs 0 ∧ Empty (newM blocks size) ∧ (newM blocks size).left = -1 := fun h4 h64 => by
    obtain ⟨n1, n2, n3, n4, n5, n6, n7, n8⟩ := new_inv blocks size (by omega) (by omega)
    exact ⟨⟨k1.w', t1, n1, n5, by omega, by omega⟩, n3, n6⟩
  have hz := new_zero blocks size
  generalize newM blocks size = s at *
  have er := room_spec H (n + 3) t1
  have eb := blocks_spec H (n + 4) t1
  have es := size_spec H (n + 4) t1
  (try simp -dsimp (disch := omega) only [↓pre, sp, sp2, wp_some, Int.cast_ofNat_Int, Nat.reduceAdd, Nat.reduceMul, Nat.reduceSub, Nat.reduceLeDiff, Nat.reduceEqDiff, Nat.reducePow, Int.reduceToNat, Int.reducePow, Int.reduceAdd, Int.reduceSub, Int.reduceMul, Int.reduceLT, Int.reduceLE, Int.reduceEq, Int.reduceNeg, er, eb])
  refine wp_kTh (fun r h' => h1 = h' ∧ r = .bool (decide (s.bl.length < 4 ∨ s.size < 64))) (fun jj hjj => ?_) ?_
  · by_cases c2 : (s.bl.length : Int) < 4
    · have c2' : s.bl.length < 4 := by omega
      (try simp -dsimp (disch := omega) only [↓pre, sp, sp2, wp_some, Int.cast_ofNat_Int, Nat.reduceAdd, Nat.reduceMul, Nat.reduceSub, Nat.reduceLeDiff, Nat.reduceEqDiff, Nat.reducePow, Int.reduceToNat, Int.reducePow, Int.reduceAdd, Int.reduceSub, Int.reduceMul, Int.reduceLT, Int.reduceLE, Int.reduceEq, Int.reduceNeg, c2])
      exact hjj _ _ ⟨rfl, by simp [c2']⟩
    · have c2' : ¬ s.bl.length < 4 := by omega
      (try simp -dsimp (disch := omega) only [↓pre, sp, sp2, wp_some, Int.cast_ofNat_Int, Nat.reduceAdd, Nat.reduceMul, Nat.reduceSub, Nat.reduceLeDiff, Nat.reduceEqDiff, Nat.reducePow, Int.reduceToNat, Int.reducePow, Int.reduceAdd, Int.reduceSub, Int.reduceMul, Int.reduceLT, Int.reduceLE, Int.reduceEq, Int.reduceNeg, c2, es])
      have : ((s.size : Int) < 64) = (s.size < 64) := propext (by omega)
      exact hjj _ _ ⟨rfl, by simp [c2', this]⟩
  rintro _ _ ⟨rfl, rfl⟩
  by_cases hsm : s.bl.length < 4 ∨ s.size < 64
  · have hr0 : roomM s = 0 := by unfold roomM; rw [if_pos hsm]
    rw [hr0] at er ⊢
    have z0 : (((0 : Nat) : Int) = 0) = True := by simp
    have hd : decide (s.bl.length < 4 ∨ s.size < 64) = true := decide_eq_true hsm
    rw [hd]
    (try simp -dsimp (disch := omega) only [↓pre, sp, sp2, wp_some, Int.cast_ofNat_Int, Nat.reduceAdd, Nat.reduceMul, Nat.reduceSub, Nat.reduceLeDiff, Nat.reduceEqDiff, Nat.reducePow, Int.reduceToNat, Int.reducePow, Int.reduceAdd, Int.reduceSub, Int.reduceMul, Int.reduceLT, Int.reduceLE, Int.reduceEq, Int.reduceNeg])
    refine wp_kTh (fun r h' => h1 = h' ∧ r = .bool false) (fun jj hjj => ?_) ?_
    · (try simp -dsimp (disch := omega) only [↓pre, sp, sp2, wp_some, Int.cast_ofNat_Int, Nat.reduceAdd, Nat.reduceMul, Nat.reduceSub, Nat.reduceLeDiff, Nat.reduceEqDiff, Nat.reducePow, Int.reduceToNat, Int.reducePow, Int.reduceAdd, Int.reduceSub, Int.reduceMul, Int.reduceLT, Int.reduceLE, Int.reduceEq, Int.reduceNeg, z0, not_true_eq_false, decide_false])
      exact hjj _ _ ⟨rfl, rfl⟩
    rintro _ _ ⟨rfl, rfl⟩
    (try simp -dsimp (disch := omega) only [↓pre, sp, sp2, wp_some, Int.cast_ofNat_Int, Nat.reduceAdd, Nat.reduceMul, Nat.reduceSub, Nat.reduceLeDiff, Nat.reduceEqDiff, Nat.reducePow, Int.reduceToNat, Int.reducePow, Int.reduceAdd, Int.reduceSub, Int.reduceMul, Int.reduceLT, Int.reduceLE, Int.reduceEq, Int.reduceNeg])
    refine Wp.bind (open_spec H n k1.w' t1 hdd (by omega) n0 (fun i => by rw [hz i]; omega)) ?_
    rintro r2 h2 ⟨k2, ⟨_, e2⟩ | ⟨hg, _⟩⟩
    · subst e2
      (try simp -dsimp (disch := omega) only [↓pre, sp, sp2, wp_some, Int.cast_ofNat_Int, Nat.reduceAdd, Nat.reduceMul, Nat.reduceSub, Nat.reduceLeDiff, Nat.reduceEqDiff, Nat.reducePow, Int.reduceToNat, Int.reducePow, Int.reduceAdd, Int.reduceSub, Int.reduceMul, Int.reduceLT, Int.reduceLE, Int.reduceEq, Int.reduceNeg, decide_true])
      refine wp_kT (.bool true) (fun jj hjj => ?_) ?_
      · by_cases c3 : n0 < 0
        · (try simp -dsimp (disch := omega) only [↓pre, sp, sp2, wp_some, Int.cast_ofNat_Int, Nat.reduceAdd, Nat.reduceMul, Nat.reduceSub, Nat.reduceLeDiff, Nat.reduceEqDiff, Nat.reducePow, Int.reduceToNat, Int.reducePow, Int.reduceAdd, Int.reduceSub, Int.reduceMul, Int.reduceLT, Int.reduceLE, Int.reduceEq, Int.reduceNeg, c3, decide_true])
          exact hjj
        · by_cases c4 : n0 > 0
          · (try simp -dsimp (disch := omega) only [↓pre, sp, sp2, wp_some, Int.cast_ofNat_Int, Nat.reduceAdd, Nat.reduceMul, Nat.reduceSub, Nat.reduceLeDiff, Nat.reduceEqDiff, Nat.reducePow, Int.reduceToNat, Int.reducePow, Int.reduceAdd, Int.reduceSub, Int.reduceMul, Int.reduceLT, Int.reduceLE, Int.reduceEq, Int.reduceNeg, c3, decide_false, c4, decide_true])
            exact hjj
          · (try simp -dsimp (disch := omega) only [↓pre, sp, sp2, wp_some, Int.cast_ofNat_Int, Nat.reduceAdd, Nat.reduceMul, Nat.reduceSub, Nat.reduceLeDiff, Nat.reduceEqDiff, Nat.reducePow, Int.reduceToNat, Int.reducePow, Int.reduceAdd, Int.reduceSub, Int.reduceMul, Int.reduceLT, Int.reduceLE, Int.reduceEq, Int.reduceNeg, c3, decide_false, c4])
            exact hjj
      (try simp -dsimp (disch := omega) only [↓pre, sp, sp2, wp_some, Int.cast_ofNat_Int, Nat.reduceAdd, Nat.reduceMul, Nat.reduceSub, Nat.reduceLeDiff, Nat.reduceEqDiff, Nat.reducePow, Int.reduceToNat, Int.reducePow, Int.reduceAdd, Int.reduceSub, Int.reduceMul, Int.reduceLT, Int.reduceLE, Int.reduceEq, Int.reduceNeg, decide_true])
      refine wp_kT (.bool false) (fun jj hjj => ?_) ?_
      · (try simp -dsimp (disch := omega) only [↓pre, sp, sp2, wp_some, Int.cast_ofNat_Int, Nat.reduceAdd, Nat.reduceMul, Nat.reduceSub, Nat.reduceLeDiff, Nat.reduceEqDiff, Nat.reducePow, Int.reduceToNat, Int.reducePow, Int.reduceAdd, Int.reduceSub, Int.reduceMul, Int.reduceLT, Int.reduceLE, Int.reduceEq, Int.reduceNeg, decide_true])
        exact hjj
      (try simp -dsimp (disch := omega) only [↓pre, sp, sp2, wp_some, Int.cast_ofNat_Int, Nat.reduceAdd, Nat.reduceMul, Nat.reduceSub, Nat.reduceLeDiff, Nat.reduceEqDiff, Nat.reducePow, Int.reduceToNat, Int.reducePow, Int.reduceAdd, Int.reduceSub, Int.reduceMul, Int.reduceLT, Int.reduceLE, Int.reduceEq, Int.reduceNeg])
      refine wp_kT (.bool true) (fun jj hjj => ?_) ?_
      · (try simp -dsimp (disch := omega) only [↓pre, sp, sp2, wp_some, Int.cast_ofNat_Int, Nat.reduceAdd, Nat.reduceMul, Nat.reduceSub, Nat.reduceLeDiff, Nat.reduceEqDiff, Nat.reducePow, Int.reduceToNat, Int.reducePow, Int.reduceAdd, Int.reduceSub, Int.reduceMul, Int.reduceLT, Int.reduceLE, Int.reduceEq, Int.reduceNeg])
        exact hjj
      (try simp -dsimp (disch := omega) only [↓pre, sp, sp2, wp_some, Int.cast_ofNat_Int, Nat.reduceAdd, Nat.reduceMul, Nat.reduceSub, Nat.reduceLeDiff, Nat.reduceEqDiff, Nat.reducePow, Int.reduceToNat, Int.reducePow, Int.reduceAdd, Int.reduceSub, Int.reduceMul, Int.reduceLT, Int.reduceLE, Int.reduceEq, Int.reduceNeg])
    · unfold openBad at hg; omega
  obtain ⟨L1, E, lf⟩ := hinv (by omega) (by omega)
  have hd : decide (s.bl.length < 4 ∨ s.size < 64) = false := decide_eq_false hsm
  rw [hd]
  have hrm := L1.room
  have er1 : ((roomM s : Int) < (((s.size - 64) / 8 : Nat) : Int)) = False := eq_false (by omega)
  have eq : Int.tdiv ((s.size : Int) - 64) 8 = (((s.size - 64) / 8 : Nat) : Int) := by
    rw [show (s.size : Int) - 64 = ((s.size - 64 : Nat) : Int) by omega]; exact (Int.ofNat_tdiv _ _).symm
  (try simp -dsimp (disch := omega) only [↓pre, sp, sp2, wp_some, Int.cast_ofNat_Int, Nat.reduceAdd, Nat.reduceMul, Nat.reduceSub, Nat.reduceLeDiff, Nat.reduceEqDiff, Nat.reducePow, Int.reduceToNat, Int.reducePow, Int.reduceAdd, Int.reduceSub, Int.reduceMul, Int.reduceLT, Int.reduceLE, Int.reduceEq, Int.reduceNeg])
  refine wp_kTh (fun r h' => h1 = h' ∧ r = .bool false) (fun jj hjj => ?_) ?_
  · (try simp -dsimp (disch := omega) only [↓pre, sp, sp2, wp_some, Int.cast_ofNat_Int, Nat.reduceAdd, Nat.reduceMul, Nat.reduceSub, Nat.reduceLeDiff, Nat.reduceEqDiff, Nat.reducePow, Int.reduceToNat, Int.reducePow, Int.reduceAdd, Int.reduceSub, Int.reduceMul, Int.reduceLT, Int.reduceLE, Int.reduceEq, Int.reduceNeg, Bool.not_false, es, eq, er1, decide_false])
    exact hjj _ _ ⟨rfl, rfl⟩
  rintro _ _ ⟨rfl, rfl⟩
  (try simp -dsimp (disch := omega) only [↓pre, sp, sp2, wp_some, Int.cast_ofNat_Int, Nat.reduceAdd, Nat.reduceMul, Nat.reduceSub, Nat.reduceLeDiff, Nat.reduceEqDiff, Nat.reducePow, Int.reduceToNat, Int.reducePow, Int.reduceAdd, Int.reduceSub, Int.reduceMul, Int.reduceLT, Int.reduceLE, Int.reduceEq, Int.reduceNeg])
  have hop : Wp (kc ov (n + 5) N_retain_Open [.ptr (some (p, 0)), .int .i64 n0] h1) fun r h' => Kp h1 h' ∧ ∃ x y z, r = .tuple [x, y, z, .int .i64 (if n0 < 0 ∨ (roomM s : Int) < n0 then 90 else 0)] := by
    by_cases c3 : n0 < 0 ∨ (roomM s : Int) < n0
    · refine (openBad9 H n L1 (by omega) c3).mono fun r h' ⟨k2, e2⟩ => ⟨k2, .ptr none, .slice none 0 0, .int .i64 0, ?_⟩
      rw [e2, if_pos c3]
    · obtain ⟨k', rfl⟩ := Int.eq_ofNat_of_zero_le (show 0 ≤ n0 by omega)
      refine (openE H n L1 (k := k') (by omega) E).mono fun r h' ⟨k2, q, l2, j, e2, _⟩ => ⟨k2, .ptr (some (q, 0)), l2, .int .i64 0, ?_⟩
      rw [e2, if_neg c3]
  refine Wp.bind hop fun v2 h2 ⟨k2, x, y, z, e2⟩ => ?_
  subst e2
  have L2 := L1.kp k2
  (try simp -dsimp (disch := omega) only [↓pre, sp, sp2, wp_some, Int.cast_ofNat_Int, Nat.reduceAdd, Nat.reduceMul, Nat.reduceSub, Nat.reduceLeDiff, Nat.reduceEqDiff, Nat.reducePow, Int.reduceToNat, Int.reducePow, Int.reduceAdd, Int.reduceSub, Int.reduceMul, Int.reduceLT, Int.reduceLE, Int.reduceEq, Int.reduceNeg])
  refine wp_kT (.bool (decide (n0 < 0 ∨ (roomM s : Int) < n0))) (fun jj hjj => ?_) ?_
  · by_cases c3 : n0 < 0
    · (try simp -dsimp (disch := omega) only [↓pre, sp, sp2, wp_some, Int.cast_ofNat_Int, Nat.reduceAdd, Nat.reduceMul, Nat.reduceSub, Nat.reduceLeDiff, Nat.reduceEqDiff, Nat.reducePow, Int.reduceToNat, Int.reducePow, Int.reduceAdd, Int.reduceSub, Int.reduceMul, Int.reduceLT, Int.reduceLE, Int.reduceEq, Int.reduceNeg, c3])
      simpa [c3] using hjj
    · have eg : (n0 > (roomM s : Int)) = ((roomM s : Int) < n0) := rfl
      by_cases c4 : n0 > (roomM s : Int)
      · have c4' : (roomM s : Int) < n0 := c4
        (try simp -dsimp (disch := omega) only [↓pre, sp, sp2, wp_some, Int.cast_ofNat_Int, Nat.reduceAdd, Nat.reduceMul, Nat.reduceSub, Nat.reduceLeDiff, Nat.reduceEqDiff, Nat.reducePow, Int.reduceToNat, Int.reducePow, Int.reduceAdd, Int.reduceSub, Int.reduceMul, Int.reduceLT, Int.reduceLE, Int.reduceEq, Int.reduceNeg, c3, c4])
        simpa [c3, c4'] using hjj
      · have c4' : ¬ (roomM s : Int) < n0 := c4
        (try simp -dsimp (disch := omega) only [↓pre, sp, sp2, wp_some, Int.cast_ofNat_Int, Nat.reduceAdd, Nat.reduceMul, Nat.reduceSub, Nat.reduceLeDiff, Nat.reduceEqDiff, Nat.reducePow, Int.reduceToNat, Int.reducePow, Int.reduceAdd, Int.reduceSub, Int.reduceMul, Int.reduceLT, Int.reduceLE, Int.reduceEq, Int.reduceNeg, c3, c4])
        simpa [c3, c4'] using hjj
  have e90 : ((if n0 < 0 ∨ (roomM s : Int) < n0 then (90 : Int) else 0) = 90) = (n0 < 0 ∨ (roomM s : Int) < n0) := by
    apply propext; constructor
    · intro e; by_cases c : n0 < 0 ∨ (roomM s : Int) < n0
      · exact c
      · rw [if_neg c] at e; omega
    · intro c; rw [if_pos c]
  have hbb : ∀ b : Bool, (!(b == b)) = false := by decide
  (try simp -dsimp (disch := omega) only [↓pre, sp, sp2, wp_some, Int.cast_ofNat_Int, Nat.reduceAdd, Nat.reduceMul, Nat.reduceSub, Nat.reduceLeDiff, Nat.reduceEqDiff, Nat.reducePow, Int.reduceToNat, Int.reducePow, Int.reduceAdd, Int.reduceSub, Int.reduceMul, Int.reduceLT, Int.reduceLE, Int.reduceEq, Int.reduceNeg, e90, hbb])
  refine wp_kT (.bool false) (fun jj hjj => ?_) ?_
  · by_cases c : n0 < 0 ∨ (roomM s : Int) < n0
    · (try simp -dsimp (disch := omega) only [↓pre, sp, sp2, wp_some, Int.cast_ofNat_Int, Nat.reduceAdd, Nat.reduceMul, Nat.reduceSub, Nat.reduceLeDiff, Nat.reduceEqDiff, Nat.reducePow, Int.reduceToNat, Int.reducePow, Int.reduceAdd, Int.reduceSub, Int.reduceMul, Int.reduceLT, Int.reduceLE, Int.reduceEq, Int.reduceNeg, if_pos c, hbb])
      exact hjj
    · (try simp -dsimp (disch := omega) only [↓pre, sp, sp2, wp_some, Int.cast_ofNat_Int, Nat.reduceAdd, Nat.reduceMul, Nat.reduceSub, Nat.reduceLeDiff, Nat.reduceEqDiff, Nat.reducePow, Int.reduceToNat, Int.reducePow, Int.reduceAdd, Int.reduceSub, Int.reduceMul, Int.reduceLT, Int.reduceLE, Int.reduceEq, Int.reduceNeg, if_neg c, hbb])
      exact hjj
  (try simp -dsimp (disch := omega) only [↓pre, sp, sp2, wp_some, Int.cast_ofNat_Int, Nat.reduceAdd, Nat.reduceMul, Nat.reduceSub, Nat.reduceLeDiff, Nat.reduceEqDiff, Nat.reducePow, Int.reduceToNat, Int.reducePow, Int.reduceAdd, Int.reduceSub, Int.reduceMul, Int.reduceLT, Int.reduceLE, Int.reduceEq, Int.reduceNeg])
  have e6 : ((roomM s : Int) > 600) = False := eq_false (by omega)
  refine wp_kT (.bool false) (fun jj hjj => ?_) ?_
  · (try simp -dsimp (disch := omega) only [↓pre, sp, sp2, wp_some, Int.cast_ofNat_Int, Nat.reduceAdd, Nat.reduceMul, Nat.reduceSub, Nat.reduceLeDiff, Nat.reduceEqDiff, Nat.reducePow, Int.reduceToNat, Int.reducePow, Int.reduceAdd, Int.reduceSub, Int.reduceMul, Int.reduceLT, Int.reduceLE, Int.reduceEq, Int.reduceNeg, e6, decide_false])
    exact hjj
  (try simp -dsimp (disch := omega) only [↓pre, sp, sp2, wp_some, Int.cast_ofNat_Int, Nat.reduceAdd, Nat.reduceMul, Nat.reduceSub, Nat.reduceLeDiff, Nat.reduceEqDiff, Nat.reducePow, Int.reduceToNat, Int.reducePow, Int.reduceAdd, Int.reduceSub, Int.reduceMul, Int.reduceLT, Int.reduceLE, Int.reduceEq, Int.reduceNeg])
  refine Wp.bind (openE H n L2 (k := roomM s) (by omega) E) fun v3 h3 ⟨k3, q, l3, j, e3, g3, hq3, o3, R3, hj3⟩ => ?_
  subst e3
  have L3 := L2.kp k3
  have hqm : ¬ Mine p lv vs q := fun hm => by have := L2.t.lt L2.w hm; omega
  (try simp -dsimp (disch := omega) only [↓pre, sp, sp2, wp_some, Int.cast_ofNat_Int, Nat.reduceAdd, Nat.reduceMul, Nat.reduceSub, Nat.reduceLeDiff, Nat.reduceEqDiff, Nat.reducePow, Int.reduceToNat, Int.reducePow, Int.reduceAdd, Int.reduceSub, Int.reduceMul, Int.reduceLT, Int.reduceLE, Int.reduceEq, Int.reduceNeg])
  refine wp_kTh (fun r h' => r = .bool false ∧ ∃ s' c, On9 h' p s' lv vs c ∧ c < 3 ∧ roomM s' = roomM s ∧ ∃ N sc, Has s' (roomM s) (some (N, sc, nums9 n0 (roomM s)))) (fun jj hjj => ?_) ?_
  · (try simp -dsimp (disch := omega) only [↓pre, sp, sp2, wp_some, Int.cast_ofNat_Int, Nat.reduceAdd, Nat.reduceMul, Nat.reduceSub, Nat.reduceLeDiff, Nat.reduceEqDiff, Nat.reducePow, Int.reduceToNat, Int.reducePow, Int.reduceAdd, Int.reduceSub, Int.reduceMul, Int.reduceLT, Int.reduceLE, Int.reduceEq, Int.reduceNeg])
    refine Wp.bind (numbers_spec H (n + 4) k3.w' (s := n0) (k := roomM s) (by omega)) fun v4 h4 ⟨k4, o4, f4⟩ => ?_
    (try simp -dsimp (disch := omega) only [↓pre, sp, sp2, wp_some, Int.cast_ofNat_Int, Nat.reduceAdd, Nat.reduceMul, Nat.reduceSub, Nat.reduceLeDiff, Nat.reduceEqDiff, Nat.reducePow, Int.reduceToNat, Int.reducePow, Int.reduceAdd, Int.reduceSub, Int.reduceMul, Int.reduceLT, Int.reduceLE, Int.reduceEq, Int.reduceNeg])
    refine Wp.bind (lay9 X (n + 1) (L3.kp k4) (k := roomM s) (by omega) R3 (g3.kp k4) hqm (by omega) (Ow.rd o4) (nums9_len _ _) (nums9_in _ _) (scan := 1) (by omega) (.inl lf) (by omega)) fun v5 h5 ⟨e5, k5, s', L5, _, hs5, _, hr5, R5, g5, hb5⟩ => ?_
    subst e5
    have e1 : ((roomM s : Int) + 1) = ((roomM s + 1 : Nat) : Int) := by omega
    (try simp -dsimp (disch := omega) only [↓pre, sp, sp2, wp_some, Int.cast_ofNat_Int, Nat.reduceAdd, Nat.reduceMul, Nat.reduceSub, Nat.reduceLeDiff, Nat.reduceEqDiff, Nat.reducePow, Int.reduceToNat, Int.reducePow, Int.reduceAdd, Int.reduceSub, Int.reduceMul, Int.reduceLT, Int.reduceLE, Int.reduceEq, Int.reduceNeg, e1])
    refine Wp.bind (numbers_spec H (n + 4) k5.w' (s := n0) (k := roomM s + 1) (by omega)) fun v6 h6 ⟨k6, o6, f6⟩ => ?_
    (try simp -dsimp (disch := omega) only [↓pre, sp, sp2, wp_some, Int.cast_ofNat_Int, Nat.reduceAdd, Nat.reduceMul, Nat.reduceSub, Nat.reduceLeDiff, Nat.reduceEqDiff, Nat.reducePow, Int.reduceToNat, Int.reducePow, Int.reduceAdd, Int.reduceSub, Int.reduceMul, Int.reduceLT, Int.reduceLE, Int.reduceEq, Int.reduceNeg])
    refine Wp.bind (lay90 X (n + 1) (L5.kp k6) (k := roomM s) (by omega) R5 (g5.kp k6) hqm (by show j.laid + 1 < _; omega) (Ow.rd o6) (by rw [nums9_len]; omega) (by rw [nums9_len]; omega) (scan := 2) (by omega) (by omega)) fun v7 h7 ⟨e7, k7, L7, g7⟩ => ?_
    subst e7
    (try simp -dsimp (disch := omega) only [↓pre, sp, sp2, wp_some, Int.cast_ofNat_Int, Nat.reduceAdd, Nat.reduceMul, Nat.reduceSub, Nat.reduceLeDiff, Nat.reduceEqDiff, Nat.reducePow, Int.reduceToNat, Int.reducePow, Int.reduceAdd, Int.reduceSub, Int.reduceMul, Int.reduceLT, Int.reduceLE, Int.reduceEq, Int.reduceNeg])
    exact hjj _ _ ⟨rfl, s', _, L7, by omega, hr5, _, _, R5.has⟩
  rintro _ h8 ⟨rfl, s', c', L8, hc', hr8, N, sc, hH⟩
  (try simp -dsimp (disch := omega) only [↓pre, sp, sp2, wp_some, Int.cast_ofNat_Int, Nat.reduceAdd, Nat.reduceMul, Nat.reduceSub, Nat.reduceLeDiff, Nat.reduceEqDiff, Nat.reducePow, Int.reduceToNat, Int.reducePow, Int.reduceAdd, Int.reduceSub, Int.reduceMul, Int.reduceLT, Int.reduceLE, Int.reduceEq, Int.reduceNeg])
  refine Wp.bind (openS H n L8 (k := roomM s) (by omega) hH) fun v9 h9 ⟨k9, q9, l9, j9, e9, g9, hq9, o9, R9, hj9, _⟩ => ?_
  subst e9
  (try simp -dsimp (disch := omega) only [↓pre, sp, sp2, wp_some, Int.cast_ofNat_Int, Nat.reduceAdd, Nat.reduceMul, Nat.reduceSub, Nat.reduceLeDiff, Nat.reduceEqDiff, Nat.reducePow, Int.reduceToNat, Int.reducePow, Int.reduceAdd, Int.reduceSub, Int.reduceMul, Int.reduceLT, Int.reduceLE, Int.reduceEq, Int.reduceNeg, decide_true])
  refine wp_kTh (fun r h' => r = .bool true) (fun jj hjj => ?_) ?_
  · (try simp -dsimp (disch := omega) only [↓pre, sp, sp2, wp_some, Int.cast_ofNat_Int, Nat.reduceAdd, Nat.reduceMul, Nat.reduceSub, Nat.reduceLeDiff, Nat.reduceEqDiff, Nat.reducePow, Int.reduceToNat, Int.reducePow, Int.reduceAdd, Int.reduceSub, Int.reduceMul, Int.reduceLT, Int.reduceLE, Int.reduceEq, Int.reduceNeg, decide_true])
    refine Wp.bind (numbers_spec H (n + 4) k9.w' (s := n0) (k := roomM s) (by omega)) fun v10 h10 ⟨k10, o10, f10⟩ => ?_
    have en := nums_spec H (n + 4) ((Ow.rd o9).kp k10) (Ow.rd o10) (by rw [nums9_len]; omega)
    (try simp -dsimp (disch := omega) only [↓pre, sp, sp2, wp_some, Int.cast_ofNat_Int, Nat.reduceAdd, Nat.reduceMul, Nat.reduceSub, Nat.reduceLeDiff, Nat.reduceEqDiff, Nat.reducePow, Int.reduceToNat, Int.reducePow, Int.reduceAdd, Int.reduceSub, Int.reduceMul, Int.reduceLT, Int.reduceLE, Int.reduceEq, Int.reduceNeg, en, decide_true])
    exact hjj _ _ rfl
  · rintro _ h8 rfl
    (try simp -dsimp (disch := omega) only [↓pre, sp, sp2, wp_some, Int.cast_ofNat_Int, Nat.reduceAdd, Nat.reduceMul, Nat.reduceSub, Nat.reduceLeDiff, Nat.reduceEqDiff, Nat.reducePow, Int.reduceToNat, Int.reducePow, Int.reduceAdd, Int.reduceSub, Int.reduceMul, Int.reduceLT, Int.reduceLE, Int.reduceEq, Int.reduceNeg])
end Go.Proofs.Ytbcpmbggidemdaa.AI
