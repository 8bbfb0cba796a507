/- Chapter 9: RetainOther. -/
import Derived.Test.YtbcpmbggidemdaaLaw9
namespace Go.Proofs.Ytbcpmbggidemdaa.AI
open Go
set_option linter.unusedSimpArgs false
set_option linter.unusedVariables false
variable {ov : AOver} {h : AH} {v a b : AVal} {md md' : AMode} {p q : Nat} {s : BSt} {lv : AVal} {vs : List AVal}

def IsI (x : Int) : Prop := -9223372036854775808 ≤ x ∧ x < 9223372036854775808
theorem min_nat (a b : Nat) : min (a : Int) (b : Int) = ((min a b : Nat) : Int) := by omega
theorem open_other {s : BSt} {m : Nat} (h0 : (slotB (bAt s 0)).l.length ≠ m) (h2 : 0 < numOf (bAt s 2)) (h3 : numOf (bAt s 3) = 0) : (openM s m).at_ = -1 ∧ (openM s m).found = 2 ∧ (openM s m).best.l = [] := by
  have em : openM s m = openStep m 1 (bAt s 1) (bAt s 3) (openStep m 0 (bAt s 0) (bAt s 2) open0) := rfl
  have t0 : ¬ takes m (bAt s 0) (bAt s 2) open0 := fun h => h0 h.2.2.1
  have w2 : wasB (bAt s 2) = true := by unfold wasB; rw [decide_eq_true h2]; rfl
  have e0 : openStep m 0 (bAt s 0) (bAt s 2) open0 = ⟨2, ⟨0, 0, [], false⟩, -1, 0, max (max 1 ((slotB (bAt s 0)).num + 1)) (numOf (bAt s 2) + 1)⟩ := by
    unfold openStep; rw [if_neg t0, w2]; rfl
  have t1 : ¬ takes m (bAt s 1) (bAt s 3) (openStep m 0 (bAt s 0) (bAt s 2) open0) := fun h => by
    have h1 := slotB_ok h.1
    have h2 := h.2.1
    rw [h3] at h2; omega
  rw [em]
  generalize hO : openStep m 0 (bAt s 0) (bAt s 2) open0 = O at *
  unfold openStep; rw [if_neg t1, e0]
  refine ⟨rfl, ?_, rfl⟩
  cases wasB (bAt s 3) <;> rfl
theorem retainOther (X : Xs ov) (K : ov N_runglaw9_known = some knownYes) (n : Nat) (w : Wf h) {size n0 m0 seed : Int} (hs : IsI size) (hn : IsI n0) (hm : IsI m0) :
    Wp (kc ov (n + 6) N_runglaw9_RetainOther [.int .i64 size, .int .i64 n0, .int .i64 m0, .int .i64 seed] h) fun r h' => r = .bool true := by
  have H := X.p
  rw [C_runglaw9_RetainOther H]; unfold F_runglaw9_RetainOther
  (try simp -dsimp (disch := omega) only [↓pre, sp, sp2, wp_some, Int.cast_ofNat_Int, Nat.reduceAdd, Nat.reduceMul, Nat.reduceSub, Nat.reduceLeDiff, Nat.reduceEqDiff, Nat.reducePow, Int.reduceToNat, Int.reducePow, Int.reduceAdd, Int.reduceSub, Int.reduceMul, Int.reduceLT, Int.reduceLE, Int.reduceEq, Int.reduceNeg, known_spec K (n + 4)])
  refine Wp.bind (store_spec H (n + 3) w hs) fun v1 h1 ⟨k1, p, s, lv, vs, e1, L1, f1, low, E, lf, sz, sz2, b8⟩ => ?_
  subst e1
  have hrm := L1.room
  have hsz := L1.I.sz
  have er := room_spec H (n + 3) L1.t
  have em : 1 + min (roomM s : Int) 20 = ((1 + min (roomM s) 20 : Nat) : Int) := by omega
  (try simp -dsimp (disch := omega) only [↓pre, sp, sp2, wp_some, Int.cast_ofNat_Int, Nat.reduceAdd, Nat.reduceMul, Nat.reduceSub, Nat.reduceLeDiff, Nat.reduceEqDiff, Nat.reducePow, Int.reduceToNat, Int.reducePow, Int.reduceAdd, Int.reduceSub, Int.reduceMul, Int.reduceLT, Int.reduceLE, Int.reduceEq, Int.reduceNeg, er, em])
  obtain ⟨k, hk, ek, -⟩ := place_spec (h := h1) H (n + 4) hn (m := 1 + min (roomM s) 20) (by omega) (by omega)
  obtain ⟨m, hm', em', -⟩ := place_spec (h := h1) H (n + 4) hm (m := 1 + min (roomM s) 20) (by omega) (by omega)
  (try simp -dsimp (disch := omega) only [↓pre, sp, sp2, wp_some, Int.cast_ofNat_Int, Nat.reduceAdd, Nat.reduceMul, Nat.reduceSub, Nat.reduceLeDiff, Nat.reduceEqDiff, Nat.reducePow, Int.reduceToNat, Int.reducePow, Int.reduceAdd, Int.reduceSub, Int.reduceMul, Int.reduceLT, Int.reduceLE, Int.reduceEq, Int.reduceNeg, ek, em'])
  refine Wp.bind (openE H n L1 (k := k) (by omega) E) fun v2 h2 ⟨k2, q, l2, j, e2, g2, hq2, o2, R2, hj2⟩ => ?_
  subst e2
  have L2 := L1.kp k2
  have hqm : ¬ Mine p lv vs q := fun hm => by have := L1.t.lt L1.w hm; omega
  have hla : layAt j = 0 := by
    have := R2.2.2.2.1
    unfold layAt; rw [if_pos (by omega)]
  (try simp -dsimp (disch := omega) only [↓pre, sp, sp2, wp_some, Int.cast_ofNat_Int, Nat.reduceAdd, Nat.reduceMul, Nat.reduceSub, Nat.reduceLeDiff, Nat.reduceEqDiff, Nat.reducePow, Int.reduceToNat, Int.reducePow, Int.reduceAdd, Int.reduceSub, Int.reduceMul, Int.reduceLT, Int.reduceLE, Int.reduceEq, Int.reduceNeg])
  refine wp_kTh (fun r h' => r = .bool false ∧ ∃ s', On9 h' p s' lv vs 1 ∧ roomM s' = roomM s ∧ ∃ N sc, Has s' k (some (N, sc, nums9 seed k)) ∧ (slotB (bAt s' 0)).l.length = k ∧ 0 < numOf (bAt s' 2) ∧ numOf (bAt s' 3) = 0) (fun jj hjj => ?_) ?_
  · (try simp -dsimp (disch := omega) only [↓pre, sp, sp2, wp_some, Int.cast_ofNat_Int, Nat.reduceAdd, Nat.reduceMul, Nat.reduceSub, Nat.reduceLeDiff, Nat.reduceEqDiff, Nat.reducePow, Int.reduceToNat, Int.reducePow, Int.reduceAdd, Int.reduceSub, Int.reduceMul, Int.reduceLT, Int.reduceLE, Int.reduceEq, Int.reduceNeg])
    refine Wp.bind (numbers_spec H (n + 4) k2.w' (s := seed) (k := k) (by omega)) fun v3 h3 ⟨k3, o3, f3⟩ => ?_
    (try simp -dsimp (disch := omega) only [↓pre, sp, sp2, wp_some, Int.cast_ofNat_Int, Nat.reduceAdd, Nat.reduceMul, Nat.reduceSub, Nat.reduceLeDiff, Nat.reduceEqDiff, Nat.reducePow, Int.reduceToNat, Int.reducePow, Int.reduceAdd, Int.reduceSub, Int.reduceMul, Int.reduceLT, Int.reduceLE, Int.reduceEq, Int.reduceNeg])
    refine Wp.bind (lay9 X (n + 1) (L2.kp k3) (k := k) (by omega) R2 (g2.kp k3) hqm (by omega) ((Ow.rd o3)) (nums9_len _ _) (nums9_in _ _) (scan := 3) (by omega) (.inl lf) (by omega)) fun v4 h4 ⟨e4, k4, s', L4, _, hs4, _, hr4, R4, _, hb4⟩ => ?_
    subst e4
    (try simp -dsimp (disch := omega) only [↓pre, sp, sp2, wp_some, Int.cast_ofNat_Int, Nat.reduceAdd, Nat.reduceMul, Nat.reduceSub, Nat.reduceLeDiff, Nat.reduceEqDiff, Nat.reducePow, Int.reduceToNat, Int.reducePow, Int.reduceAdd, Int.reduceSub, Int.reduceMul, Int.reduceLT, Int.reduceLE, Int.reduceEq, Int.reduceNeg])
    rw [hla] at hb4
    obtain ⟨a, G, ha, _⟩ := R4.2.2
    have ha0 : a = 0 := by
      have ha' : ((layAt j : Nat) : Int) = a := ha
      omega
    subst ha0
    refine hjj _ _ ⟨rfl, s', L4, hr4, _, _, ⟨0, G⟩, ?_, ?_, ?_⟩
    · rw [G.slot]; exact nums9_len _ _
    · show 0 < numOf (bAt s' (2 + 0)); rw [G.mark]; exact G.pos
    · rw [hb4.2.2 3 (by omega) (by omega)]; exact E.m3
  rintro _ h3 ⟨rfl, s', L3, hr3, N, sc, hH, a1, a2, a3⟩
  (try simp -dsimp (disch := omega) only [↓pre, sp, sp2, wp_some, Int.cast_ofNat_Int, Nat.reduceAdd, Nat.reduceMul, Nat.reduceSub, Nat.reduceLeDiff, Nat.reduceEqDiff, Nat.reducePow, Int.reduceToNat, Int.reducePow, Int.reduceAdd, Int.reduceSub, Int.reduceMul, Int.reduceLT, Int.reduceLE, Int.reduceEq, Int.reduceNeg])
  have hsz3 := L3.I.sz
  have hbl3 := L3.I.bl
  refine Wp.bind (open_spec H n L3.w L3.t L3.d (by omega) m (fun i => by have := L3.I.nums i; unfold bAt at this; omega)) ?_
  rintro r4 h4 ⟨k4, ⟨hbad, _⟩ | ⟨_, q4, l4, e4, g4, hq4, o4, _, _⟩⟩
  · unfold openBad at hbad; omega
  subst e4
  rw [Int.toNat_natCast] at g4 o4 ⊢
  (try simp -dsimp (disch := omega) only [↓pre, sp, sp2, wp_some, Int.cast_ofNat_Int, Nat.reduceAdd, Nat.reduceMul, Nat.reduceSub, Nat.reduceLeDiff, Nat.reduceEqDiff, Nat.reducePow, Int.reduceToNat, Int.reducePow, Int.reduceAdd, Int.reduceSub, Int.reduceMul, Int.reduceLT, Int.reduceLE, Int.reduceEq, Int.reduceNeg])
  have L4 := L3.kp k4
  refine wp_kTh (fun r h' => r = .bool false ∧ On9 h' p s' lv vs 1) (fun jj hjj => ?_) ?_
  · by_cases c : k = m
    · subst c
      obtain ⟨R5, e5, e6⟩ := open_has L3.I hH
      have e5' : (if 0 ≤ (openM s' k).at_ then 1 else (openM s' k).found) = 1 := e5
      rw [e5']
      rw [e6] at o4
      have z11 : (((1 : Nat) : Int) = 1) = True := by simp
      (try simp -dsimp (disch := omega) only [↓pre, sp, sp2, wp_some, Int.cast_ofNat_Int, Nat.reduceAdd, Nat.reduceMul, Nat.reduceSub, Nat.reduceLeDiff, Nat.reduceEqDiff, Nat.reducePow, Int.reduceToNat, Int.reducePow, Int.reduceAdd, Int.reduceSub, Int.reduceMul, Int.reduceLT, Int.reduceLE, Int.reduceEq, Int.reduceNeg, decide_true, z11, not_true_eq_false, decide_false])
      refine Wp.bind (numbers_spec H (n + 4) k4.w' (s := seed) (k := k) (by omega)) fun v5 h5 ⟨k5, o5, f5⟩ => ?_
      have en := nums_spec H (n + 4) ((Ow.rd o4).kp k5) (Ow.rd o5) (by rw [nums9_len]; omega)
      (try simp -dsimp (disch := omega) only [↓pre, sp, sp2, wp_some, Int.cast_ofNat_Int, Nat.reduceAdd, Nat.reduceMul, Nat.reduceSub, Nat.reduceLeDiff, Nat.reduceEqDiff, Nat.reducePow, Int.reduceToNat, Int.reducePow, Int.reduceAdd, Int.reduceSub, Int.reduceMul, Int.reduceLT, Int.reduceLE, Int.reduceEq, Int.reduceNeg, en, decide_true, not_true_eq_false, decide_false, ne_eq])
      exact hjj _ _ ⟨rfl, L4.kp k5⟩
    · obtain ⟨e5, e6, e7⟩ := open_other (s := s') (m := m) (by omega) a2 a3
      rw [e5, e6] at *
      rw [e7] at o4
      have ef : (if (0 : Int) ≤ -1 then 1 else 2 : Nat) = 2 := rfl
      rw [ef]
      have c' : ¬ ((k : Int) = (m : Int)) := by omega
      have z22 : (((2 : Nat) : Int) = 2) = True := by simp
      have z00 : ((((([] : List Int).length) : Nat) : Int) = 0) = True := by simp
      (try simp -dsimp (disch := omega) only [↓pre, sp, sp2, wp_some, Int.cast_ofNat_Int, Nat.reduceAdd, Nat.reduceMul, Nat.reduceSub, Nat.reduceLeDiff, Nat.reduceEqDiff, Nat.reducePow, Int.reduceToNat, Int.reducePow, Int.reduceAdd, Int.reduceSub, Int.reduceMul, Int.reduceLT, Int.reduceLE, Int.reduceEq, Int.reduceNeg, c', decide_false, not_false_eq_true, decide_true, z22, not_true_eq_false, (Ow.rd o4).len, z00])
      exact hjj _ _ ⟨rfl, L4⟩
  rintro _ h5 ⟨rfl, L5⟩
  (try simp -dsimp (disch := omega) only [↓pre, sp, sp2, wp_some, Int.cast_ofNat_Int, Nat.reduceAdd, Nat.reduceMul, Nat.reduceSub, Nat.reduceLeDiff, Nat.reduceEqDiff, Nat.reducePow, Int.reduceToNat, Int.reducePow, Int.reduceAdd, Int.reduceSub, Int.reduceMul, Int.reduceLT, Int.reduceLE, Int.reduceEq, Int.reduceNeg])
  refine Wp.bind (openS H n L5 (k := k) (by omega) hH) fun v6 h6 ⟨k6, q6, l6, j6, e6, g6, hq6, o6, R6, hj6⟩ => ?_
  subst e6
  (try simp -dsimp (disch := omega) only [↓pre, sp, sp2, wp_some, Int.cast_ofNat_Int, Nat.reduceAdd, Nat.reduceMul, Nat.reduceSub, Nat.reduceLeDiff, Nat.reduceEqDiff, Nat.reducePow, Int.reduceToNat, Int.reducePow, Int.reduceAdd, Int.reduceSub, Int.reduceMul, Int.reduceLT, Int.reduceLE, Int.reduceEq, Int.reduceNeg, decide_true])
  refine wp_kTh (fun r h' => r = .bool true) (fun jj hjj => ?_) ?_
  · (try simp -dsimp (disch := omega) only [↓pre, sp, sp2, wp_some, Int.cast_ofNat_Int, Nat.reduceAdd, Nat.reduceMul, Nat.reduceSub, Nat.reduceLeDiff, Nat.reduceEqDiff, Nat.reducePow, Int.reduceToNat, Int.reducePow, Int.reduceAdd, Int.reduceSub, Int.reduceMul, Int.reduceLT, Int.reduceLE, Int.reduceEq, Int.reduceNeg, decide_true])
    refine Wp.bind (numbers_spec H (n + 4) k6.w' (s := seed) (k := k) (by omega)) fun v7 h7 ⟨k7, o7, f7⟩ => ?_
    have en := nums_spec H (n + 4) ((Ow.rd o6).kp k7) (Ow.rd o7) (by rw [nums9_len]; omega)
    (try simp -dsimp (disch := omega) only [↓pre, sp, sp2, wp_some, Int.cast_ofNat_Int, Nat.reduceAdd, Nat.reduceMul, Nat.reduceSub, Nat.reduceLeDiff, Nat.reduceEqDiff, Nat.reducePow, Int.reduceToNat, Int.reducePow, Int.reduceAdd, Int.reduceSub, Int.reduceMul, Int.reduceLT, Int.reduceLE, Int.reduceEq, Int.reduceNeg, en, decide_true])
    exact hjj _ _ rfl
  · rintro _ h8 rfl
    (try simp -dsimp (disch := omega) only [↓pre, sp, sp2, wp_some, Int.cast_ofNat_Int, Nat.reduceAdd, Nat.reduceMul, Nat.reduceSub, Nat.reduceLeDiff, Nat.reduceEqDiff, Nat.reducePow, Int.reduceToNat, Int.reducePow, Int.reduceAdd, Int.reduceSub, Int.reduceMul, Int.reduceLT, Int.reduceLE, Int.reduceEq, Int.reduceNeg])
end Go.Proofs.Ytbcpmbggidemdaa.AI
