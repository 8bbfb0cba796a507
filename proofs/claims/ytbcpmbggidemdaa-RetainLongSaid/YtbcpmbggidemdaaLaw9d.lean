/- Chapter 9: RetainLong. -/
import Derived.Test.YtbcpmbggidemdaaLaw9
namespace Go.Proofs.Ytbcpmbggidemdaa.AI
open Go
set_option linter.unusedSimpArgs false
set_option linter.unusedVariables false
variable {ov : AOver} {h : AH} {v a b : AVal} {md md' : AMode} {p q : Nat} {s : BSt} {lv : AVal} {vs : List AVal}

def newest9 (k i : Nat) : Option (Nat × List Int) := if i = 0 then none else some (i, nums9 i k)
theorem retainLong (X : Xs ov) (K : ov N_runglaw9_known = some knownYes) (n : Nat) (w : Wf h) {size n0 lays every : Int} (hs : IsI size) (hn : IsI n0) (hla : IsI lays) (hev : IsI every) :
    Wp (kc ov (n + 6) N_runglaw9_RetainLong [.int .i64 size, .int .i64 n0, .int .i64 lays, .int .i64 every] h) fun r h' => r = .bool true := by
  have H := X.p
  rw [C_runglaw9_RetainLong H]; unfold F_runglaw9_RetainLong
  (try simp -dsimp (disch := omega) only [↓pre, sp, sp2, wp_some, Int.cast_ofNat_Int, Nat.reduceAdd, Nat.reduceMul, Nat.reduceSub, Nat.reduceLeDiff, Nat.reduceEqDiff, Nat.reducePow, Int.reduceToNat, Int.reducePow, Int.reduceAdd, Int.reduceSub, Int.reduceMul, Int.reduceLT, Int.reduceLE, Int.reduceEq, Int.reduceNeg, known_spec K (n + 4)])
  refine Wp.bind (store_spec H (n + 3) w hs) fun v1 h1 ⟨k1, p, s, lv, vs, e1, L1, f1, low, E, lf, sz, sz2, b8⟩ => ?_
  subst e1
  have hrm := L1.room
  have hsz := L1.I.sz
  have er := room_spec H (n + 3) L1.t
  have em : 1 + min (roomM s : Int) 10 = ((1 + min (roomM s) 10 : Nat) : Int) := by omega
  (try simp -dsimp (disch := omega) only [↓pre, sp, sp2, wp_some, Int.cast_ofNat_Int, Nat.reduceAdd, Nat.reduceMul, Nat.reduceSub, Nat.reduceLeDiff, Nat.reduceEqDiff, Nat.reducePow, Int.reduceToNat, Int.reducePow, Int.reduceAdd, Int.reduceSub, Int.reduceMul, Int.reduceLT, Int.reduceLE, Int.reduceEq, Int.reduceNeg, er, em])
  obtain ⟨k, hk, ek, -⟩ := place_spec (h := h1) H (n + 4) hn (m := 1 + min (roomM s) 10) (by omega) (by omega)
  obtain ⟨la, hla', ela, -⟩ := place_spec (h := h1) H (n + 4) hla (m := 400) (by omega) (by omega)
  obtain ⟨ev, hev', eev, -⟩ := place_spec (h := h1) H (n + 4) hev (m := 50) (by omega) (by omega)
  have ela' : kc ov (n + 5) N_runghelp_Place [.int .i64 lays, .int .i64 400] h1 = some (.int .i64 la, h1) := ela
  have eev' : kc ov (n + 5) N_runghelp_Place [.int .i64 every, .int .i64 50] h1 = some (.int .i64 ev, h1) := eev
  (try simp -dsimp (disch := omega) only [↓pre, sp, sp2, wp_some, Int.cast_ofNat_Int, Nat.reduceAdd, Nat.reduceMul, Nat.reduceSub, Nat.reduceLeDiff, Nat.reduceEqDiff, Nat.reducePow, Int.reduceToNat, Int.reducePow, Int.reduceAdd, Int.reduceSub, Int.reduceMul, Int.reduceLT, Int.reduceLE, Int.reduceEq, Int.reduceNeg, ek, ela', eev'])
  refine Wp.bind (openE H n L1 (k := k) (by omega) E) fun v2 h2 ⟨k2, q, l2, j, e2, g2, hq2, o2, R2, hj2⟩ => ?_
  subst e2
  have L2 := L1.kp k2
  have hqm : ¬ Mine p lv vs q := fun hm => by have := L1.t.lt L1.w hm; omega
  (try simp -dsimp (disch := omega) only [↓pre, sp, sp2, wp_some, Int.cast_ofNat_Int, Nat.reduceAdd, Nat.reduceMul, Nat.reduceSub, Nat.reduceLeDiff, Nat.reduceEqDiff, Nat.reducePow, Int.reduceToNat, Int.reducePow, Int.reduceAdd, Int.reduceSub, Int.reduceMul, Int.reduceLT, Int.reduceLE, Int.reduceEq, Int.reduceNeg])
  refine wp_kT (.bool false) (fun jj hjj => ?_) ?_
  · (try simp -dsimp (disch := omega) only [↓pre, sp, sp2, wp_some, Int.cast_ofNat_Int, Nat.reduceAdd, Nat.reduceMul, Nat.reduceSub, Nat.reduceLeDiff, Nat.reduceEqDiff, Nat.reducePow, Int.reduceToNat, Int.reducePow, Int.reduceAdd, Int.reduceSub, Int.reduceMul, Int.reduceLT, Int.reduceLE, Int.reduceEq, Int.reduceNeg])
    exact hjj
  have eev2 : IntKind.wrap .i64 (1 + (ev : Int)) = ((1 + ev : Nat) : Int) := by rw [wr_i64 (by omega) (by omega)]; omega
  (try simp -dsimp (disch := omega) only [↓pre, sp, sp2, wp_some, Int.cast_ofNat_Int, Nat.reduceAdd, Nat.reduceMul, Nat.reduceSub, Nat.reduceLeDiff, Nat.reduceEqDiff, Nat.reducePow, Int.reduceToNat, Int.reducePow, Int.reduceAdd, Int.reduceSub, Int.reduceMul, Int.reduceLT, Int.reduceLE, Int.reduceEq, Int.reduceNeg, eev2])
  refine wp_loop (fun m y h3 => ∃ (i q : Nat) (s3 : BSt) (j3 : JSt) (o : Option (Nat × Nat × List Int)), y = [.ptr (some (q, 0)), .int .i64 ((i + 1 : Nat) : Int)] ∧ i + m = la ∧ On9 h3 p s3 lv vs i ∧ roomM s3 = roomM s ∧ s3.left = -1 ∧ Rdy s3 j3 k i o ∧ Jr h3 q p j3 ∧ ¬ Mine p lv vs q ∧ j3.laid ≤ i ∧ (0 < i → j3.scan = i)) la (by omega)
    ⟨0, q, s, j, none, rfl, by omega, L2, rfl, lf, R2, g2, hqm, by omega, by omega⟩ ?_
  rintro m _ h3 jj ⟨i, q3, s3, j3, o, rfl, him, L3, hr3, lf3, R3, g3, hq3, hl3, hs3⟩ hj
  unfold L_runglaw9_RetainLong_0
  (try simp -dsimp (disch := omega) only [↓pre, sp, sp2, wp_some, Int.cast_ofNat_Int, Nat.reduceAdd, Nat.reduceMul, Nat.reduceSub, Nat.reduceLeDiff, Nat.reduceEqDiff, Nat.reducePow, Int.reduceToNat, Int.reducePow, Int.reduceAdd, Int.reduceSub, Int.reduceMul, Int.reduceLT, Int.reduceLE, Int.reduceEq, Int.reduceNeg])
  refine wp_ite (fun c => ?_) (fun c => ?_)
  · have hi : i < la := by omega
    (try simp -dsimp (disch := omega) only [↓pre, sp, sp2, wp_some, Int.cast_ofNat_Int, Nat.reduceAdd, Nat.reduceMul, Nat.reduceSub, Nat.reduceLeDiff, Nat.reduceEqDiff, Nat.reducePow, Int.reduceToNat, Int.reducePow, Int.reduceAdd, Int.reduceSub, Int.reduceMul, Int.reduceLT, Int.reduceLE, Int.reduceEq, Int.reduceNeg])
    refine Wp.bind (numbers_spec H (n + 4) L3.w (s := ((i + 1 : Nat) : Int)) (k := k) (by omega)) fun v4 h4 ⟨k4, o4, f4⟩ => ?_
    refine Wp.bind (lay9 X (n + 1) (L3.kp k4) (k := k) (by omega) R3 (g3.kp k4) hq3 (by omega) (Ow.rd o4) (nums9_len _ _) (nums9_in _ _) (scan := i + 1) (by omega) (.inl lf3) (by omega)) fun v5 h5 ⟨e5, k5, s5, L5, _, hs5, lf5, hr5, R5, g5, hb5⟩ => ?_
    subst e5
    have lf5' : s5.left = -1 := by rw [lf5, lf3]; decide
    have ei : IntKind.wrap .i64 (((i + 1 : Nat) : Int) + 1) = ((i + 1 + 1 : Nat) : Int) := by rw [wr_i64 (by omega) (by omega)]; omega
    (try simp -dsimp (disch := omega) only [↓pre, sp, sp2, wp_some, Int.cast_ofNat_Int, Nat.reduceAdd, Nat.reduceMul, Nat.reduceSub, Nat.reduceLeDiff, Nat.reduceEqDiff, Nat.reducePow, Int.reduceToNat, Int.reducePow, Int.reduceAdd, Int.reduceSub, Int.reduceMul, Int.reduceLT, Int.reduceLE, Int.reduceEq, Int.reduceNeg])
    refine wp_kJ (fun y h' => ∃ (q : Nat) (j' : JSt), y = [.ptr (some (q, 0))] ∧ On9 h' p s5 lv vs (i + 1) ∧ Rdy s5 j' k (i + 1) (some (j3.next, i + 1, nums9 ((i + 1 : Nat) : Int) k)) ∧ Jr h' q p j' ∧ ¬ Mine p lv vs q ∧ j'.laid ≤ i + 1 ∧ j'.scan = i + 1) (fun jj2 hjj2 => ?_) ?_
    · (try simp -dsimp (disch := omega) only [↓pre, sp, sp2, wp_some, Int.cast_ofNat_Int, Nat.reduceAdd, Nat.reduceMul, Nat.reduceSub, Nat.reduceLeDiff, Nat.reduceEqDiff, Nat.reducePow, Int.reduceToNat, Int.reducePow, Int.reduceAdd, Int.reduceSub, Int.reduceMul, Int.reduceLT, Int.reduceLE, Int.reduceEq, Int.reduceNeg])
      refine wp_ite (fun c6 => ?_) (fun c6 => ?_)
      · (try simp -dsimp (disch := omega) only [↓pre, sp, sp2, wp_some, Int.cast_ofNat_Int, Nat.reduceAdd, Nat.reduceMul, Nat.reduceSub, Nat.reduceLeDiff, Nat.reduceEqDiff, Nat.reducePow, Int.reduceToNat, Int.reducePow, Int.reduceAdd, Int.reduceSub, Int.reduceMul, Int.reduceLT, Int.reduceLE, Int.reduceEq, Int.reduceNeg])
        refine Wp.bind (openS H n L5 (k := k) (by omega) R5.has) fun v6 h6 ⟨k6, q6, l6, j6, e6, g6, hq6, o6, R6, hj6, hsc6⟩ => ?_
        subst e6
        (try simp -dsimp (disch := omega) only [↓pre, sp, sp2, wp_some, Int.cast_ofNat_Int, Nat.reduceAdd, Nat.reduceMul, Nat.reduceSub, Nat.reduceLeDiff, Nat.reduceEqDiff, Nat.reducePow, Int.reduceToNat, Int.reducePow, Int.reduceAdd, Int.reduceSub, Int.reduceMul, Int.reduceLT, Int.reduceLE, Int.reduceEq, Int.reduceNeg, decide_true, not_true_eq_false, decide_false])
        refine wp_kTh (fun r h' => r = .bool false ∧ Kp h6 h') (fun jj3 hjj3 => ?_) ?_
        · (try simp -dsimp (disch := omega) only [↓pre, sp, sp2, wp_some, Int.cast_ofNat_Int, Nat.reduceAdd, Nat.reduceMul, Nat.reduceSub, Nat.reduceLeDiff, Nat.reduceEqDiff, Nat.reducePow, Int.reduceToNat, Int.reducePow, Int.reduceAdd, Int.reduceSub, Int.reduceMul, Int.reduceLT, Int.reduceLE, Int.reduceEq, Int.reduceNeg, decide_true, not_true_eq_false, decide_false])
          refine Wp.bind (numbers_spec H (n + 4) k6.w' (s := ((i + 1 : Nat) : Int)) (k := k) (by omega)) fun v8 h8 ⟨k8, o8, f8⟩ => ?_
          have en := nums_spec H (n + 4) ((Ow.rd o6).kp k8) (Ow.rd o8) (by rw [nums9_len]; omega)
          have es := scan_spec H (n + 4) (g6.kp k8)
          rw [hsc6] at es
          (try simp -dsimp (disch := omega) only [↓pre, sp, sp2, wp_some, Int.cast_ofNat_Int, Nat.reduceAdd, Nat.reduceMul, Nat.reduceSub, Nat.reduceLeDiff, Nat.reduceEqDiff, Nat.reducePow, Int.reduceToNat, Int.reducePow, Int.reduceAdd, Int.reduceSub, Int.reduceMul, Int.reduceLT, Int.reduceLE, Int.reduceEq, Int.reduceNeg, en, decide_true, not_true_eq_false, decide_false, Bool.not_true, es])
          exact hjj3 _ _ ⟨rfl, k8⟩
        rintro _ h7 ⟨rfl, k7⟩
        (try simp -dsimp (disch := omega) only [↓pre, sp, sp2, wp_some, Int.cast_ofNat_Int, Nat.reduceAdd, Nat.reduceMul, Nat.reduceSub, Nat.reduceLeDiff, Nat.reduceEqDiff, Nat.reducePow, Int.reduceToNat, Int.reducePow, Int.reduceAdd, Int.reduceSub, Int.reduceMul, Int.reduceLT, Int.reduceLE, Int.reduceEq, Int.reduceNeg])
        exact hjj2 _ _ ⟨q6, j6, rfl, (L5.kp k6).kp k7, R6, g6.kp k7, fun hm => by have := L5.t.lt L5.w hm; omega, by omega, hsc6⟩
      · exact hjj2 _ _ ⟨q3, _, rfl, L5, R5, g5, hq3, by show j3.laid + 1 ≤ _; omega, rfl⟩
    rintro _ h6 ⟨q6, j6, rfl, L6, R6, g6, hq6, hl6, hs6⟩
    (try simp -dsimp (disch := omega) only [↓pre, sp, sp2, wp_some, Int.cast_ofNat_Int, Nat.reduceAdd, Nat.reduceMul, Nat.reduceSub, Nat.reduceLeDiff, Nat.reduceEqDiff, Nat.reducePow, Int.reduceToNat, Int.reducePow, Int.reduceAdd, Int.reduceSub, Int.reduceMul, Int.reduceLT, Int.reduceLE, Int.reduceEq, Int.reduceNeg, ei])
    exact hj (m - 1) _ _ (by omega) ⟨i + 1, q6, s5, j6, _, rfl, by omega, L6, by omega, lf5', R6, g6, hq6, hl6, fun _ => hs6⟩
  · obtain rfl : i = la := by omega
    (try simp -dsimp (disch := omega) only [↓pre, sp, sp2, wp_some, Int.cast_ofNat_Int, Nat.reduceAdd, Nat.reduceMul, Nat.reduceSub, Nat.reduceLeDiff, Nat.reduceEqDiff, Nat.reducePow, Int.reduceToNat, Int.reducePow, Int.reduceAdd, Int.reduceSub, Int.reduceMul, Int.reduceLT, Int.reduceLE, Int.reduceEq, Int.reduceNeg])
    refine wp_kTh (fun r h' => r = .bool true) (fun jj2 hjj2 => ?_) ?_
    · by_cases c7 : (i : Int) = 0
      · (try simp -dsimp (disch := omega) only [↓pre, sp, sp2, wp_some, Int.cast_ofNat_Int, Nat.reduceAdd, Nat.reduceMul, Nat.reduceSub, Nat.reduceLeDiff, Nat.reduceEqDiff, Nat.reducePow, Int.reduceToNat, Int.reducePow, Int.reduceAdd, Int.reduceSub, Int.reduceMul, Int.reduceLT, Int.reduceLE, Int.reduceEq, Int.reduceNeg, c7, decide_true])
        exact hjj2 _ _ rfl
      · have es := scan_spec H (n + 4) g3
        rw [hs3 (by omega)] at es
        (try simp -dsimp (disch := omega) only [↓pre, sp, sp2, wp_some, Int.cast_ofNat_Int, Nat.reduceAdd, Nat.reduceMul, Nat.reduceSub, Nat.reduceLeDiff, Nat.reduceEqDiff, Nat.reducePow, Int.reduceToNat, Int.reducePow, Int.reduceAdd, Int.reduceSub, Int.reduceMul, Int.reduceLT, Int.reduceLE, Int.reduceEq, Int.reduceNeg, c7, decide_false, es, decide_true])
        exact hjj2 _ _ rfl
    rintro _ h7 rfl
    (try simp -dsimp (disch := omega) only [↓pre, sp, sp2, wp_some, Int.cast_ofNat_Int, Nat.reduceAdd, Nat.reduceMul, Nat.reduceSub, Nat.reduceLeDiff, Nat.reduceEqDiff, Nat.reducePow, Int.reduceToNat, Int.reducePow, Int.reduceAdd, Int.reduceSub, Int.reduceMul, Int.reduceLT, Int.reduceLE, Int.reduceEq, Int.reduceNeg])
end Go.Proofs.Ytbcpmbggidemdaa.AI
