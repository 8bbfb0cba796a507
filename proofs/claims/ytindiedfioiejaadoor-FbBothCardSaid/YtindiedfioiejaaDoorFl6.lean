/- Chapter 17: a counter that counts both ways. -/
import Derived.Test.YtindiedfioiejaaDoorFh
namespace Go.Proofs.YtindiedfioiejaaDoor.AI
open Go
set_option linter.unusedSimpArgs false
set_option linter.unusedVariables false
variable {ov : AOver} {h : AH}
theorem pick_and {Q : AVal → AH → Prop} (X U : Bool) (K : AVal → Ans) (hK : Wp (K (.bool (X && !U))) Q) :
    Wp (kgq (.bool X) true (fun k => kq (some (.bool U)) k) fun v => kgq (.bool X) true (fun k => kq (aUn .not v) k) fun u => kq (rPick (.bool X) u (.bool false)) fun z => K z) Q := by
  cases X
  · (try simp -dsimp (disch := omega) only [↓pre, sp, sp2, wp_some, Int.cast_ofNat_Int, Nat.reduceAdd, Nat.reduceMul, Nat.reduceSub, Nat.reduceLeDiff, Nat.reduceEqDiff, Nat.reducePow, Int.reduceToNat, Int.reducePow, Int.reduceAdd, Int.reduceSub, Int.reduceMul, Int.reduceLT, Int.reduceLE, Int.reduceEq, Int.reduceNeg]); exact hK
  · (try simp -dsimp (disch := omega) only [↓pre, sp, sp2, wp_some, Int.cast_ofNat_Int, Nat.reduceAdd, Nat.reduceMul, Nat.reduceSub, Nat.reduceLeDiff, Nat.reduceEqDiff, Nat.reducePow, Int.reduceToNat, Int.reducePow, Int.reduceAdd, Int.reduceSub, Int.reduceMul, Int.reduceLT, Int.reduceLE, Int.reduceEq, Int.reduceNeg]); exact hK
def bN (a b r l : Bool) (pv cv : Int) : Int :=
  if r = true then 0 else if l = true then pv else if (a && !b) = true then min (IntKind.wrap .i64 (cv + 1)) 32767 else if (b && !a) = true then max (IntKind.wrap .i64 (cv - 1)) (-32768) else cv
theorem bN_R {a b r l : Bool} {pv cv : Int} (hp : R16 pv) (hc : R16 cv) : R16 (bN a b r l pv cv) := by
  have a1 := hp; have b1 := hc
  unfold R16 at a1 b1
  have w1 : IntKind.wrap .i64 (cv + 1) = cv + 1 := wr_i64 (by omega) (by omega)
  have w2 : IntKind.wrap .i64 (cv - 1) = cv - 1 := wr_i64 (by omega) (by omega)
  unfold bN R16
  rw [w1, w2]
  repeat' split
  all_goals omega
theorem tr_nep (b : Bool) : (tr b ≠ 0) = (b = true) := by cases b <;> simp [tr]
theorem both_eq (x y r l up dn : Bool) {o : List Int} {pv cv k0 k1 : Int} (k2 now : Int) (hp : R16 pv) (hc : R16 cv) (e : gi o 2 = cv) (ek : wrapM 4 k0 = tr up) (ek1 : wrapM 4 k1 = tr dn) :
    (refM .ctud [tr x, tr y, tr r, tr l, pv] o k0 k1 k2 now).out = [tr (decide (bN (x && !up) (y && !dn) r l pv cv ≥ pv)), tr (decide (bN (x && !up) (y && !dn) r l pv cv ≤ 0)), bN (x && !up) (y && !dn) r l pv cv] ∧
    wrapM 4 (refM .ctud [tr x, tr y, tr r, tr l, pv] o k0 k1 k2 now).k0 = tr x ∧ wrapM 4 (refM .ctud [tr x, tr y, tr r, tr l, pv] o k0 k1 k2 now).k1 = tr y := by
  have a := hp; have b := hc
  unfold R16 at a b
  have h0 : decide (gi [tr x, tr y, tr r, tr l, pv] 0 ≠ 0) = x := tr_ne x
  have h1 : decide (gi [tr x, tr y, tr r, tr l, pv] 1 ≠ 0) = y := tr_ne y
  have h2 : (gi [tr x, tr y, tr r, tr l, pv] 2 ≠ 0) = (r = true) := tr_nep r
  have h3 : (gi [tr x, tr y, tr r, tr l, pv] 3 ≠ 0) = (l = true) := tr_nep l
  have h4 : gi [tr x, tr y, tr r, tr l, pv] 4 = pv := rfl
  have w1 : IntKind.wrap .i64 (cv + 1) = cv + 1 := wr_i64 (by omega) (by omega)
  have w2 : IntKind.wrap .i64 (cv - 1) = cv - 1 := wr_i64 (by omega) (by omega)
  have key : ∀ A B : Bool, (if r = true then 0 else if l = true then pv else if (A && !B && decide (cv < 32767)) = true then cv + 1 else if (B && !A && decide (cv > -32768)) = true then cv - 1 else cv) = bN A B r l pv cv := by
    intro A B
    unfold bN
    rw [w1, w2]
    cases r
    · cases l
      · cases A
        · cases B
          · simp
          · simp only [Bool.not_false, Bool.not_true, Bool.true_and, Bool.false_and, Bool.and_true, Bool.false_eq_true, if_false, if_true, decide_eq_true_eq]; split <;> omega
        · cases B
          · simp only [Bool.not_false, Bool.not_true, Bool.true_and, Bool.false_and, Bool.and_true, Bool.false_eq_true, if_false, if_true, decide_eq_true_eq]; split <;> omega
          · simp
      · simp
    · simp
  simp only [refM, h0, h1, h4, (wz ek).1, (wz ek1).1, e, w3_id hp, w3_id hc, w4_tr, w1, w2]
  simp only [h2, h3, key, and_self]
/-- What holds at the head of the loop. -/
def BothI (h : AH) (N q : Nat) (m : Nat) (l : List AVal) (h5 : AH) : Prop :=
  ∃ (i : Nat) (v : AVal) (t : Told) (up dn : Bool) (cv : Int), l = [.int .i64 cv, v, .bool up, .bool dn, .int .i64 i] ∧ i + m = N ∧ Kp h h5 ∧ Lo h5 v q t ∧ gi t.out 2 = cv ∧ R16 cv ∧ wrapM 4 t.k0 = tr up ∧ wrapM 4 t.k1 = tr dn
theorem fbBoth (H : Plain ov) (hov : ov N_runglaw17_known = none) (n : Nat) (w : Wf h) (tb : Tb h) {x : AVal} {N : Nat} {f : Nat → Nat → Bool} {pv0 first : Int} (hx : Bt h x 4 N f) (hp : I64 pv0) (hf : I64 first) :
    Wp (kc ov (n + 8) N_runglaw17_FbBoth [x, .int .i64 pv0, .int .i64 first] h) fun r _ => r = .bool true := by
  rw [C_runglaw17_FbBoth H]; unfold F_runglaw17_FbBoth
  (try simp -dsimp (disch := omega) only [↓pre, sp, sp2, wp_some, Int.cast_ofNat_Int, Nat.reduceAdd, Nat.reduceMul, Nat.reduceSub, Nat.reduceLeDiff, Nat.reduceEqDiff, Nat.reducePow, Int.reduceToNat, Int.reducePow, Int.reduceAdd, Int.reduceSub, Int.reduceMul, Int.reduceLT, Int.reduceLE, Int.reduceEq, Int.reduceNeg])
  refine Wp.bind (known_spec H hov n w tb) fun v h1 ⟨K1, ev⟩ => ?_
  subst ev
  (try simp -dsimp (disch := omega) only [↓pre, sp, sp2, wp_some, Int.cast_ofNat_Int, Nat.reduceAdd, Nat.reduceMul, Nat.reduceSub, Nat.reduceLeDiff, Nat.reduceEqDiff, Nat.reducePow, Int.reduceToNat, Int.reducePow, Int.reduceAdd, Int.reduceSub, Int.reduceMul, Int.reduceLT, Int.reduceLE, Int.reduceEq, Int.reduceNeg, hx.len])
  refine wp_ite (fun c => ?_) (fun c => ?_)
  · (try simp -dsimp (disch := omega) only [↓pre, sp, sp2, wp_some, Int.cast_ofNat_Int, Nat.reduceAdd, Nat.reduceMul, Nat.reduceSub, Nat.reduceLeDiff, Nat.reduceEqDiff, Nat.reducePow, Int.reduceToNat, Int.reducePow, Int.reduceAdd, Int.reduceSub, Int.reduceMul, Int.reduceLT, Int.reduceLE, Int.reduceEq, Int.reduceNeg])
  (try simp -dsimp (disch := omega) only [↓pre, sp, sp2, wp_some, Int.cast_ofNat_Int, Nat.reduceAdd, Nat.reduceMul, Nat.reduceSub, Nat.reduceLeDiff, Nat.reduceEqDiff, Nat.reducePow, Int.reduceToNat, Int.reducePow, Int.reduceAdd, Int.reduceSub, Int.reduceMul, Int.reduceLT, Int.reduceLE, Int.reduceEq, Int.reduceNeg])
  refine Wp.bind (rwrap_spec H (n + 3) K1.w' 3 pv0 hp) fun v h3 ⟨K3, ev⟩ => ?_
  subst ev
  (try simp -dsimp (disch := omega) only [↓pre, sp, sp2, wp_some, Int.cast_ofNat_Int, Nat.reduceAdd, Nat.reduceMul, Nat.reduceSub, Nat.reduceLeDiff, Nat.reduceEqDiff, Nat.reducePow, Int.reduceToNat, Int.reducePow, Int.reduceAdd, Int.reduceSub, Int.reduceMul, Int.reduceLT, Int.reduceLE, Int.reduceEq, Int.reduceNeg])
  refine Wp.bind (rwrap_spec H (n + 3) K3.w' 3 first hf) fun v h4 ⟨K4, ev⟩ => ?_
  subst ev
  have hpR := w3_R pv0
  have hfR := w3_R first
  have hpI := wrapM_I64 3 pv0
  have hfI := wrapM_I64 3 first
  generalize wrapM 3 pv0 = pv at *
  generalize wrapM 3 first = cv0 at *
  (try simp -dsimp (disch := omega) only [↓pre, sp, sp2, wp_some, Int.cast_ofNat_Int, Nat.reduceAdd, Nat.reduceMul, Nat.reduceSub, Nat.reduceLeDiff, Nat.reduceEqDiff, Nat.reducePow, Int.reduceToNat, Int.reducePow, Int.reduceAdd, Int.reduceSub, Int.reduceMul, Int.reduceLT, Int.reduceLE, Int.reduceEq, Int.reduceNeg])
  refine wp_nums K4.w' [0, 0, cv0] rfl rfl (by omega) fun q5 h5 e5 K5 n5 o5 => ?_
  (try simp -dsimp (disch := omega) only [↓pre, sp, sp2, wp_some, Int.cast_ofNat_Int, Nat.reduceAdd, Nat.reduceMul, Nat.reduceSub, Nat.reduceLeDiff, Nat.reduceEqDiff, Nat.reducePow, Int.reduceToNat, Int.reducePow, Int.reduceAdd, Int.reduceSub, Int.reduceMul, Int.reduceLT, Int.reduceLE, Int.reduceEq, Int.reduceNeg])
  refine wp_kbox K5.w' fun q h6 e6 K6 n6 b6 => ?_
  (try simp -dsimp (disch := omega) only [↓pre, sp, sp2, wp_some, Int.cast_ofNat_Int, Nat.reduceAdd, Nat.reduceMul, Nat.reduceSub, Nat.reduceLeDiff, Nat.reduceEqDiff, Nat.reducePow, Int.reduceToNat, Int.reducePow, Int.reduceAdd, Int.reduceSub, Int.reduceMul, Int.reduceLT, Int.reduceLE, Int.reduceEq, Int.reduceNeg])
  have k06 : Kp h h6 := (K1.trans K3).trans ((K4.trans K5).trans K6)
  have k05n : h.n ≤ h5.n := by have := K1.n; have := K3.n; have := K4.n; omega
  have s0 : Lo h6 (.slice (some (q5, 0, 1)) 3 3) q ⟨[0, 0, cv0], 0, 0, 0⟩ := ⟨oik o5 K6, fun hi => by simp only [isBk] at hi; omega, b6,
    ⟨fun x hx => by simp only [List.mem_cons, List.not_mem_nil, or_false] at hx; rcases hx with rfl | rfl | rfl; exact tr_I false; exact tr_I false; exact hfI, tr_I false, tr_I false, tr_I false⟩, by simp⟩
  refine wp_loop (BothI h N q) N (by omega) ⟨0, _, _, false, false, cv0, rfl, by omega, k06, s0, rfl, hfR, rfl, rfl⟩ ?_
  rintro m _ g0 j ⟨i, vo, t, up, dn, cv, rfl, him, kg, s, a1, hcR, a2, a3⟩ hj
  unfold L_runglaw17_FbBoth_1
  have x0 := hx.ke kg
  have hqn : h.n ≤ q := by omega
  (try simp -dsimp (disch := omega) only [↓pre, sp, sp2, wp_some, Int.cast_ofNat_Int, Nat.reduceAdd, Nat.reduceMul, Nat.reduceSub, Nat.reduceLeDiff, Nat.reduceEqDiff, Nat.reducePow, Int.reduceToNat, Int.reducePow, Int.reduceAdd, Int.reduceSub, Int.reduceMul, Int.reduceLT, Int.reduceLE, Int.reduceEq, Int.reduceNeg, x0.len])
  refine wp_ite (fun c => ?_) (fun c => ?_)
  · have hiN : i < N := by omega
    have ei : IntKind.wrap .i64 ((i : Int) + 1) = ((i + 1 : Nat) : Int) := by rw [wr_i64 (by omega) (by omega)]; omega
    (try simp -dsimp (disch := omega) only [↓pre, sp, sp2, wp_some, Int.cast_ofNat_Int, Nat.reduceAdd, Nat.reduceMul, Nat.reduceSub, Nat.reduceLeDiff, Nat.reduceEqDiff, Nat.reducePow, Int.reduceToNat, Int.reducePow, Int.reduceAdd, Int.reduceSub, Int.reduceMul, Int.reduceLT, Int.reduceLE, Int.reduceEq, Int.reduceNeg])
    refine wp_nums kg.w' [0, 0, 0, 0, pv] rfl rfl (by omega) fun qi g1 ei1 KG1 ng1 oi => ?_
    (try simp -dsimp (disch := omega) only [↓pre, sp, sp2, wp_some, Int.cast_ofNat_Int, Nat.reduceAdd, Nat.reduceMul, Nat.reduceSub, Nat.reduceLeDiff, Nat.reduceEqDiff, Nat.reducePow, Int.reduceToNat, Int.reducePow, Int.reduceAdd, Int.reduceSub, Int.reduceMul, Int.reduceLT, Int.reduceLE, Int.reduceEq, Int.reduceNeg])
    refine wp_loop (fun m l g2 => ∃ k : Nat, l = [.int .i64 k] ∧ k + m = 4 ∧ Ke (· = qi) g1 g2 ∧ Oi g2 (.slice (some (qi, 0, 1)) 5 5) (fillL (f i) 4 k [pv])) 4 (by omega) ⟨0, rfl, rfl, Ke.refl KG1.w', oi⟩ ?_
    rintro m2 _ g2 j2 ⟨k, rfl, hkm, KG2, o2⟩ hj2
    unfold L_runglaw17_FbBoth_0
    have x2 := (x0.ke KG1).ke KG2
    have l0 := x2.ld hiN (show 0 < 4 by omega)
    have l1 := x2.ld hiN (show 1 < 4 by omega)
    have l2 := x2.ld hiN (show 2 < 4 by omega)
    have l3 := x2.ld hiN (show 3 < 4 by omega)
    have eA0 : rAtArr 4 1 (ea x (i * 4)) (.int .i64 0) = some (ea x (i * 4 + 0)) := rAtArr_ea (by omega) (by omega)
    have eA1 : rAtArr 4 1 (ea x (i * 4)) (.int .i64 1) = some (ea x (i * 4 + 1)) := rAtArr_ea (by omega) (by omega)
    have eA2 : rAtArr 4 1 (ea x (i * 4)) (.int .i64 2) = some (ea x (i * 4 + 2)) := rAtArr_ea (by omega) (by omega)
    have eA3 : rAtArr 4 1 (ea x (i * 4)) (.int .i64 3) = some (ea x (i * 4 + 3)) := rAtArr_ea (by omega) (by omega)
    (try simp -dsimp (disch := omega) only [↓pre, sp, sp2, wp_some, Int.cast_ofNat_Int, Nat.reduceAdd, Nat.reduceMul, Nat.reduceSub, Nat.reduceLeDiff, Nat.reduceEqDiff, Nat.reducePow, Int.reduceToNat, Int.reducePow, Int.reduceAdd, Int.reduceSub, Int.reduceMul, Int.reduceLT, Int.reduceLE, Int.reduceEq, Int.reduceNeg])
    refine wp_ite (fun c2 => ?_) (fun c2 => ?_)
    · have hk : k < 4 := by omega
      have ek : IntKind.wrap .i64 ((k : Int) + 1) = ((k + 1 : Nat) : Int) := by rw [wr_i64 (by omega) (by omega)]; omega
      have eA : rAtArr 4 1 (ea x (i * 4)) (.int .i64 (k : Int)) = some (ea x (i * 4 + k)) := by
        rw [rAtArr_ea (by omega) (by omega)]; simp
      have el := x2.ld hiN hk
      have o2s : Sz g2 (.slice (some (qi, 0, 1)) 5 5) 1 5 (i64s (fillL (f i) 4 k [pv])) .rw := (Ow.rd o2).to rfl (by rw [fillL_len]; rfl)
      (try simp -dsimp (disch := omega) only [↓pre, sp, sp2, wp_some, Int.cast_ofNat_Int, Nat.reduceAdd, Nat.reduceMul, Nat.reduceSub, Nat.reduceLeDiff, Nat.reduceEqDiff, Nat.reducePow, Int.reduceToNat, Int.reducePow, Int.reduceAdd, Int.reduceSub, Int.reduceMul, Int.reduceLT, Int.reduceLE, Int.reduceEq, Int.reduceNeg, x2.at, eA, el])
      refine wp_kJ (fun l g3 => Ke (· = qi) g1 g3 ∧ Oi g3 (.slice (some (qi, 0, 1)) 5 5) (fillL (f i) 4 (k + 1) [pv])) (fun j3 hj3 => ?_) ?_
      · refine wp_kIf (fun cb => ?_) (fun cb => ?_)
        · (try simp -dsimp (disch := omega) only [↓pre, sp, sp2, wp_some, Int.cast_ofNat_Int, Nat.reduceAdd, Nat.reduceMul, Nat.reduceSub, Nat.reduceLeDiff, Nat.reduceEqDiff, Nat.reducePow, Int.reduceToNat, Int.reducePow, Int.reduceAdd, Int.reduceSub, Int.reduceMul, Int.reduceLT, Int.reduceLE, Int.reduceEq, Int.reduceNeg, o2s.at])
          refine wp_iset KG2.w' o2 (by rw [fillL_len]; simp; omega) 1 fun g3 o3 KG3 n3 => ?_
          rw [fillL_set hk cb] at o3
          (try simp -dsimp (disch := omega) only [↓pre, sp, sp2, wp_some, Int.cast_ofNat_Int, Nat.reduceAdd, Nat.reduceMul, Nat.reduceSub, Nat.reduceLeDiff, Nat.reduceEqDiff, Nat.reducePow, Int.reduceToNat, Int.reducePow, Int.reduceAdd, Int.reduceSub, Int.reduceMul, Int.reduceLT, Int.reduceLE, Int.reduceEq, Int.reduceNeg])
          exact hj3 _ _ ⟨KG2.trans KG3, o3⟩
        · rw [fillL_no cb] at o2
          (try simp -dsimp (disch := omega) only [↓pre, sp, sp2, wp_some, Int.cast_ofNat_Int, Nat.reduceAdd, Nat.reduceMul, Nat.reduceSub, Nat.reduceLeDiff, Nat.reduceEqDiff, Nat.reducePow, Int.reduceToNat, Int.reducePow, Int.reduceAdd, Int.reduceSub, Int.reduceMul, Int.reduceLT, Int.reduceLE, Int.reduceEq, Int.reduceNeg])
          exact hj3 _ _ ⟨KG2, o2⟩
      · rintro l g3 ⟨KG3, o3⟩
        (try simp -dsimp (disch := omega) only [↓pre, sp, sp2, wp_some, Int.cast_ofNat_Int, Nat.reduceAdd, Nat.reduceMul, Nat.reduceSub, Nat.reduceLeDiff, Nat.reduceEqDiff, Nat.reducePow, Int.reduceToNat, Int.reducePow, Int.reduceAdd, Int.reduceSub, Int.reduceMul, Int.reduceLT, Int.reduceLE, Int.reduceEq, Int.reduceNeg, ek])
        exact hj2 (m2 - 1) _ _ (by omega) ⟨k + 1, rfl, by omega, KG3, o3⟩
    · have hk : k = 4 := by omega
      subst hk
      clear hj2
      have o2' : Oi g2 (.slice (some (qi, 0, 1)) 5 5) [tr (f i 0), tr (f i 1), tr (f i 2), tr (f i 3), pv] := tr_out o2 (by rw [fillL_all]; rfl)
      clear o2
      have kg02 : Kp g0 g2 := Ke.new_p KG1 KG2 fun i hi => by omega
      have kh2 : Kp h g2 := kg.trans kg02
      have xI : I64s [tr (f i 0), tr (f i 1), tr (f i 2), tr (f i 3), pv] := fun z hz => by
        simp only [List.mem_cons, List.not_mem_nil, or_false] at hz
        rcases hz with rfl | rfl | rfl | rfl | rfl
        · exact tr_I _
        · exact tr_I _
        · exact tr_I _
        · exact tr_I _
        · exact hpI
      have s2 := s.kp kg02
      obtain ⟨A, hA⟩ : ∃ A, A = (f i 0 && !up) := ⟨_, rfl⟩
      obtain ⟨B, hB⟩ : ∃ B, B = (f i 1 && !dn) := ⟨_, rfl⟩
      obtain ⟨c, hc⟩ : ∃ c, c = bN A B (f i 2) (f i 3) pv cv := ⟨_, rfl⟩
      have hcR' : R16 c := by rw [hc]; exact bN_R hpR hcR
      (try simp -dsimp (disch := omega) only [↓pre, sp, sp2, wp_some, Int.cast_ofNat_Int, Nat.reduceAdd, Nat.reduceMul, Nat.reduceSub, Nat.reduceLeDiff, Nat.reduceEqDiff, Nat.reducePow, Int.reduceToNat, Int.reducePow, Int.reduceAdd, Int.reduceSub, Int.reduceMul, Int.reduceLT, Int.reduceLE, Int.reduceEq, Int.reduceNeg, x2.at, eA0, l0])
      refine pick_and (f i 0) up _ ?_
      rw [← hA]
      (try simp -dsimp (disch := omega) only [↓pre, sp, sp2, wp_some, Int.cast_ofNat_Int, Nat.reduceAdd, Nat.reduceMul, Nat.reduceSub, Nat.reduceLeDiff, Nat.reduceEqDiff, Nat.reducePow, Int.reduceToNat, Int.reducePow, Int.reduceAdd, Int.reduceSub, Int.reduceMul, Int.reduceLT, Int.reduceLE, Int.reduceEq, Int.reduceNeg, x2.at, eA1, l1])
      refine pick_and (f i 1) dn _ ?_
      rw [← hB]
      (try simp -dsimp (disch := omega) only [↓pre, sp, sp2, wp_some, Int.cast_ofNat_Int, Nat.reduceAdd, Nat.reduceMul, Nat.reduceSub, Nat.reduceLeDiff, Nat.reduceEqDiff, Nat.reducePow, Int.reduceToNat, Int.reducePow, Int.reduceAdd, Int.reduceSub, Int.reduceMul, Int.reduceLT, Int.reduceLE, Int.reduceEq, Int.reduceNeg, x2.at, eA2, l2])
      refine wp_kJ (fun l g3 => l = [.int .i64 c] ∧ g3 = g2) (fun j79 hj79 => ?_) ?_
      · refine wp_kIf (fun b1 => ?_) (fun b1 => ?_)
        · (try simp -dsimp (disch := omega) only [↓pre, sp, sp2, wp_some, Int.cast_ofNat_Int, Nat.reduceAdd, Nat.reduceMul, Nat.reduceSub, Nat.reduceLeDiff, Nat.reduceEqDiff, Nat.reducePow, Int.reduceToNat, Int.reducePow, Int.reduceAdd, Int.reduceSub, Int.reduceMul, Int.reduceLT, Int.reduceLE, Int.reduceEq, Int.reduceNeg])
          exact hj79 _ _ ⟨by rw [hc]; unfold bN; rw [if_pos b1], rfl⟩
        have hc1 : c = if f i 3 = true then pv else if (A && !B) = true then min (IntKind.wrap .i64 (cv + 1)) 32767 else if (B && !A) = true then max (IntKind.wrap .i64 (cv - 1)) (-32768) else cv := by rw [hc]; unfold bN; rw [if_neg (by rw [b1]; decide)]
        clear hc
        (try simp -dsimp (disch := omega) only [↓pre, sp, sp2, wp_some, Int.cast_ofNat_Int, Nat.reduceAdd, Nat.reduceMul, Nat.reduceSub, Nat.reduceLeDiff, Nat.reduceEqDiff, Nat.reducePow, Int.reduceToNat, Int.reducePow, Int.reduceAdd, Int.reduceSub, Int.reduceMul, Int.reduceLT, Int.reduceLE, Int.reduceEq, Int.reduceNeg, x2.at, eA3, l3])
        refine wp_kJ (fun l g3 => l = [.int .i64 c] ∧ g3 = g2) (fun j144 hj144 => ?_) ?_
        · refine wp_kIf (fun b2 => ?_) (fun b2 => ?_)
          · rw [if_pos b2] at hc1
            (try simp -dsimp (disch := omega) only [↓pre, sp, sp2, wp_some, Int.cast_ofNat_Int, Nat.reduceAdd, Nat.reduceMul, Nat.reduceSub, Nat.reduceLeDiff, Nat.reduceEqDiff, Nat.reducePow, Int.reduceToNat, Int.reducePow, Int.reduceAdd, Int.reduceSub, Int.reduceMul, Int.reduceLT, Int.reduceLE, Int.reduceEq, Int.reduceNeg])
            exact hj144 _ _ ⟨by rw [hc1], rfl⟩
          rw [if_neg (by rw [b2]; decide)] at hc1
          (try simp -dsimp (disch := omega) only [↓pre, sp, sp2, wp_some, Int.cast_ofNat_Int, Nat.reduceAdd, Nat.reduceMul, Nat.reduceSub, Nat.reduceLeDiff, Nat.reduceEqDiff, Nat.reducePow, Int.reduceToNat, Int.reducePow, Int.reduceAdd, Int.reduceSub, Int.reduceMul, Int.reduceLT, Int.reduceLE, Int.reduceEq, Int.reduceNeg])
          refine wp_kT (.bool (A && !B)) (fun j3 hj3 => ?_) ?_
          · clear hc1 hA hB
            cases A
            · (try simp -dsimp (disch := omega) only [↓pre, sp, sp2, wp_some, Int.cast_ofNat_Int, Nat.reduceAdd, Nat.reduceMul, Nat.reduceSub, Nat.reduceLeDiff, Nat.reduceEqDiff, Nat.reducePow, Int.reduceToNat, Int.reducePow, Int.reduceAdd, Int.reduceSub, Int.reduceMul, Int.reduceLT, Int.reduceLE, Int.reduceEq, Int.reduceNeg]); exact hj3
            · (try simp -dsimp (disch := omega) only [↓pre, sp, sp2, wp_some, Int.cast_ofNat_Int, Nat.reduceAdd, Nat.reduceMul, Nat.reduceSub, Nat.reduceLeDiff, Nat.reduceEqDiff, Nat.reducePow, Int.reduceToNat, Int.reducePow, Int.reduceAdd, Int.reduceSub, Int.reduceMul, Int.reduceLT, Int.reduceLE, Int.reduceEq, Int.reduceNeg]); exact hj3
          (try simp -dsimp (disch := omega) only [↓pre, sp, sp2, wp_some, Int.cast_ofNat_Int, Nat.reduceAdd, Nat.reduceMul, Nat.reduceSub, Nat.reduceLeDiff, Nat.reduceEqDiff, Nat.reducePow, Int.reduceToNat, Int.reducePow, Int.reduceAdd, Int.reduceSub, Int.reduceMul, Int.reduceLT, Int.reduceLE, Int.reduceEq, Int.reduceNeg])
          refine wp_kJ (fun l g3 => l = [.int .i64 c] ∧ g3 = g2) (fun j156 hj156 => ?_) ?_
          · refine wp_kIf (fun b3 => ?_) (fun b3 => ?_)
            · rw [if_pos b3] at hc1
              (try simp -dsimp (disch := omega) only [↓pre, sp, sp2, wp_some, Int.cast_ofNat_Int, Nat.reduceAdd, Nat.reduceMul, Nat.reduceSub, Nat.reduceLeDiff, Nat.reduceEqDiff, Nat.reducePow, Int.reduceToNat, Int.reducePow, Int.reduceAdd, Int.reduceSub, Int.reduceMul, Int.reduceLT, Int.reduceLE, Int.reduceEq, Int.reduceNeg])
              exact hj156 _ _ ⟨by rw [hc1], rfl⟩
            rw [if_neg (by rw [b3]; decide)] at hc1
            (try simp -dsimp (disch := omega) only [↓pre, sp, sp2, wp_some, Int.cast_ofNat_Int, Nat.reduceAdd, Nat.reduceMul, Nat.reduceSub, Nat.reduceLeDiff, Nat.reduceEqDiff, Nat.reducePow, Int.reduceToNat, Int.reducePow, Int.reduceAdd, Int.reduceSub, Int.reduceMul, Int.reduceLT, Int.reduceLE, Int.reduceEq, Int.reduceNeg])
            refine wp_kT (.bool (B && !A)) (fun j3 hj3 => ?_) ?_
            · clear hc1 hA hB b3
              cases B
              · (try simp -dsimp (disch := omega) only [↓pre, sp, sp2, wp_some, Int.cast_ofNat_Int, Nat.reduceAdd, Nat.reduceMul, Nat.reduceSub, Nat.reduceLeDiff, Nat.reduceEqDiff, Nat.reducePow, Int.reduceToNat, Int.reducePow, Int.reduceAdd, Int.reduceSub, Int.reduceMul, Int.reduceLT, Int.reduceLE, Int.reduceEq, Int.reduceNeg]); exact hj3
              · (try simp -dsimp (disch := omega) only [↓pre, sp, sp2, wp_some, Int.cast_ofNat_Int, Nat.reduceAdd, Nat.reduceMul, Nat.reduceSub, Nat.reduceLeDiff, Nat.reduceEqDiff, Nat.reducePow, Int.reduceToNat, Int.reducePow, Int.reduceAdd, Int.reduceSub, Int.reduceMul, Int.reduceLT, Int.reduceLE, Int.reduceEq, Int.reduceNeg]); exact hj3
            (try simp -dsimp (disch := omega) only [↓pre, sp, sp2, wp_some, Int.cast_ofNat_Int, Nat.reduceAdd, Nat.reduceMul, Nat.reduceSub, Nat.reduceLeDiff, Nat.reduceEqDiff, Nat.reducePow, Int.reduceToNat, Int.reducePow, Int.reduceAdd, Int.reduceSub, Int.reduceMul, Int.reduceLT, Int.reduceLE, Int.reduceEq, Int.reduceNeg])
            refine wp_kJ (fun l g3 => l = [.int .i64 c] ∧ g3 = g2) (fun j170 hj170 => ?_) ?_
            · refine wp_kIf (fun b4 => ?_) (fun b4 => ?_)
              · rw [if_pos b4] at hc1
                (try simp -dsimp (disch := omega) only [↓pre, sp, sp2, wp_some, Int.cast_ofNat_Int, Nat.reduceAdd, Nat.reduceMul, Nat.reduceSub, Nat.reduceLeDiff, Nat.reduceEqDiff, Nat.reducePow, Int.reduceToNat, Int.reducePow, Int.reduceAdd, Int.reduceSub, Int.reduceMul, Int.reduceLT, Int.reduceLE, Int.reduceEq, Int.reduceNeg])
                exact hj170 _ _ ⟨by rw [hc1], rfl⟩
              · rw [if_neg (by rw [b4]; decide)] at hc1
                (try simp -dsimp (disch := omega) only [↓pre, sp, sp2, wp_some, Int.cast_ofNat_Int, Nat.reduceAdd, Nat.reduceMul, Nat.reduceSub, Nat.reduceLeDiff, Nat.reduceEqDiff, Nat.reducePow, Int.reduceToNat, Int.reducePow, Int.reduceAdd, Int.reduceSub, Int.reduceMul, Int.reduceLT, Int.reduceLE, Int.reduceEq, Int.reduceNeg])
                exact hj170 _ _ ⟨by rw [hc1], rfl⟩
            · rintro _ g3 ⟨rfl, e⟩
              (try simp -dsimp (disch := omega) only [↓pre, sp, sp2, wp_some, Int.cast_ofNat_Int, Nat.reduceAdd, Nat.reduceMul, Nat.reduceSub, Nat.reduceLeDiff, Nat.reduceEqDiff, Nat.reducePow, Int.reduceToNat, Int.reducePow, Int.reduceAdd, Int.reduceSub, Int.reduceMul, Int.reduceLT, Int.reduceLE, Int.reduceEq, Int.reduceNeg])
              exact hj156 _ _ ⟨rfl, e⟩
          · rintro _ g3 ⟨rfl, e⟩
            (try simp -dsimp (disch := omega) only [↓pre, sp, sp2, wp_some, Int.cast_ofNat_Int, Nat.reduceAdd, Nat.reduceMul, Nat.reduceSub, Nat.reduceLeDiff, Nat.reduceEqDiff, Nat.reducePow, Int.reduceToNat, Int.reducePow, Int.reduceAdd, Int.reduceSub, Int.reduceMul, Int.reduceLT, Int.reduceLE, Int.reduceEq, Int.reduceNeg])
            exact hj144 _ _ ⟨rfl, e⟩
        · rintro _ g3 ⟨rfl, e⟩
          (try simp -dsimp (disch := omega) only [↓pre, sp, sp2, wp_some, Int.cast_ofNat_Int, Nat.reduceAdd, Nat.reduceMul, Nat.reduceSub, Nat.reduceLeDiff, Nat.reduceEqDiff, Nat.reducePow, Int.reduceToNat, Int.reducePow, Int.reduceAdd, Int.reduceSub, Int.reduceMul, Int.reduceLT, Int.reduceLE, Int.reduceEq, Int.reduceNeg])
          exact hj79 _ _ ⟨rfl, e⟩
      · rintro _ g3 ⟨rfl, e⟩
        subst e
        obtain ⟨p1, p2, p3⟩ := both_eq (f i 0) (f i 1) (f i 2) (f i 3) up dn t.k2 0 hpR hcR a1 a2 a3
        rw [← hA, ← hB, ← hc] at p1
        clear hA hB hc
        (try simp -dsimp (disch := omega) only [↓pre, sp, sp2, wp_some, Int.cast_ofNat_Int, Nat.reduceAdd, Nat.reduceMul, Nat.reduceSub, Nat.reduceLeDiff, Nat.reduceEqDiff, Nat.reducePow, Int.reduceToNat, Int.reducePow, Int.reduceAdd, Int.reduceSub, Int.reduceMul, Int.reduceLT, Int.reduceLE, Int.reduceEq, Int.reduceNeg, x2.at, eA0, l0, eA1, l1, s2.k.ldd])
        refine Wp.bind (stepB_spec H (n + 1) kh2.w' (tb.ke kh2) .ctud (now := 0) o2'.si s2.o.si (by simp) (by have := s2.l; omega) xI s2.I.o s2.I.k0 s2.I.k1 s2.I.k2 (tr_I false)) fun v g4 ⟨KG4, u, ev, ou, fu⟩ => ?_
        subst ev
        have uI := ref_I .ctud [tr (f i 0), tr (f i 1), tr (f i 2), tr (f i 3), pv] t.out t.k0 t.k1 t.k2 0
        generalize refM .ctud [tr (f i 0), tr (f i 1), tr (f i 2), tr (f i 3), pv] t.out t.k0 t.k1 t.k2 0 = T at *
        (try simp -dsimp (disch := omega) only [↓pre, sp, sp2, wp_some, Int.cast_ofNat_Int, Nat.reduceAdd, Nat.reduceMul, Nat.reduceSub, Nat.reduceLeDiff, Nat.reduceEqDiff, Nat.reducePow, Int.reduceToNat, Int.reducePow, Int.reduceAdd, Int.reduceSub, Int.reduceMul, Int.reduceLT, Int.reduceLE, Int.reduceEq, Int.reduceNeg])
        refine wp_lo s2 ⟨KG4, u, rfl, ou, fu⟩ uI (by rw [p1]; simp) fun g5 c5 M => ?_
        have k5 := c5.kp kh2 hqn
        have oM : Oi g5 u [tr (decide (c ≥ pv)), tr (decide (c ≤ 0)), c] := tr_out M.o p1
        have sM : Sz g5 u 1 3 (i64s [tr (decide (c ≥ pv)), tr (decide (c ≤ 0)), c]) .rw := oM.si
        have d0 : rLoad (ea u 0) g5 = some (.int .i64 (tr (decide (c ≥ pv)))) := oM.si.ldI (by simp)
        have d1 : rLoad (ea u 1) g5 = some (.int .i64 (tr (decide (c ≤ 0)))) := oM.si.ldI (by simp)
        have d2 : rLoad (ea u 2) g5 = some (.int .i64 c) := oM.si.ldI (by simp)
        have g1' : gi T.out 2 = c := by rw [p1]; rfl
        (try simp -dsimp (disch := omega) only [↓pre, sp, sp2, wp_some, Int.cast_ofNat_Int, Nat.reduceAdd, Nat.reduceMul, Nat.reduceSub, Nat.reduceLeDiff, Nat.reduceEqDiff, Nat.reducePow, Int.reduceToNat, Int.reducePow, Int.reduceAdd, Int.reduceSub, Int.reduceMul, Int.reduceLT, Int.reduceLE, Int.reduceEq, Int.reduceNeg, sM.len])
        refine wp_kT (.bool false) (fun j3 hj3 => ?_) ?_
        · (try simp -dsimp (disch := omega) only [↓pre, sp, sp2, wp_some, Int.cast_ofNat_Int, Nat.reduceAdd, Nat.reduceMul, Nat.reduceSub, Nat.reduceLeDiff, Nat.reduceEqDiff, Nat.reducePow, Int.reduceToNat, Int.reducePow, Int.reduceAdd, Int.reduceSub, Int.reduceMul, Int.reduceLT, Int.reduceLE, Int.reduceEq, Int.reduceNeg, sM.at, d2, not_true, decide_false])
          (try simp -dsimp (disch := omega) only [↓pre, sp, sp2, wp_some, Int.cast_ofNat_Int, Nat.reduceAdd, Nat.reduceMul, Nat.reduceSub, Nat.reduceLeDiff, Nat.reduceEqDiff, Nat.reducePow, Int.reduceToNat, Int.reducePow, Int.reduceAdd, Int.reduceSub, Int.reduceMul, Int.reduceLT, Int.reduceLE, Int.reduceEq, Int.reduceNeg, sM.at, d0, tr_dec, beq_no])
          (try simp -dsimp (disch := omega) only [↓pre, sp, sp2, wp_some, Int.cast_ofNat_Int, Nat.reduceAdd, Nat.reduceMul, Nat.reduceSub, Nat.reduceLeDiff, Nat.reduceEqDiff, Nat.reducePow, Int.reduceToNat, Int.reducePow, Int.reduceAdd, Int.reduceSub, Int.reduceMul, Int.reduceLT, Int.reduceLE, Int.reduceEq, Int.reduceNeg, sM.at, d1, tr_dec, beq_no])
          exact hj3
        (try simp -dsimp (disch := omega) only [↓pre, sp, sp2, wp_some, Int.cast_ofNat_Int, Nat.reduceAdd, Nat.reduceMul, Nat.reduceSub, Nat.reduceLeDiff, Nat.reduceEqDiff, Nat.reducePow, Int.reduceToNat, Int.reducePow, Int.reduceAdd, Int.reduceSub, Int.reduceMul, Int.reduceLT, Int.reduceLE, Int.reduceEq, Int.reduceNeg, ei])
        exact hj (m - 1) _ _ (by omega) ⟨i + 1, u, T, f i 0, f i 1, c, rfl, by omega, k5, M, g1', hcR', p2, p3⟩
  · (try simp -dsimp (disch := omega) only [↓pre, sp, sp2, wp_some, Int.cast_ofNat_Int, Nat.reduceAdd, Nat.reduceMul, Nat.reduceSub, Nat.reduceLeDiff, Nat.reduceEqDiff, Nat.reducePow, Int.reduceToNat, Int.reducePow, Int.reduceAdd, Int.reduceSub, Int.reduceMul, Int.reduceLT, Int.reduceLE, Int.reduceEq, Int.reduceNeg])
end Go.Proofs.YtindiedfioiejaaDoor.AI
