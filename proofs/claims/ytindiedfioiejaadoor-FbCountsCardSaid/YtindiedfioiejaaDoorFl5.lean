/- Chapter 17: counters. -/
import Derived.Test.YtindiedfioiejaaDoorFh
namespace Go.Proofs.YtindiedfioiejaaDoor.AI
open Go
set_option linter.unusedSimpArgs false
set_option linter.unusedVariables false
variable {ov : AOver} {h : AH}
def cN (isU x y was : Bool) (pv cv : Int) : Int :=
  if isU = true then (if y = true then 0 else if (x && !was) = true then min (IntKind.wrap .i64 (cv + 1)) 32767 else cv)
  else (if y = true then pv else if (x && !was) = true then max (IntKind.wrap .i64 (cv - 1)) (-32768) else cv)
def cT (isU : Bool) (pv c : Int) : Bool := if isU = true then decide (c ≥ pv) else decide (c ≤ 0)
def cB (isU : Bool) : Bl := if isU = true then .ctu else .ctd
theorem cN_R {isU x y was : Bool} {pv cv : Int} (hp : R16 pv) (hc : R16 cv) : R16 (cN isU x y was pv cv) := by
  have a := hp; have b := hc
  unfold R16 at a b
  have w1 : IntKind.wrap .i64 (cv + 1) = cv + 1 := wr_i64 (by omega) (by omega)
  have w2 : IntKind.wrap .i64 (cv - 1) = cv - 1 := wr_i64 (by omega) (by omega)
  unfold cN R16
  rw [w1, w2]
  repeat' split
  all_goals omega
theorem cnt_eq (isU x y was : Bool) {o : List Int} {pv cv k0 : Int} (k1 k2 now : Int) (hp : R16 pv) (hc : R16 cv) (e : gi o 1 = cv) (ek : wrapM 4 k0 = tr was) :
    (refM (cB isU) [tr x, tr y, pv] o k0 k1 k2 now).out = [tr (cT isU pv (cN isU x y was pv cv)), cN isU x y was pv cv] ∧ wrapM 4 (refM (cB isU) [tr x, tr y, pv] o k0 k1 k2 now).k0 = tr x := by
  have a := hp; have b := hc
  unfold R16 at a b
  have h0 : decide (gi [tr x, tr y, pv] 0 ≠ 0) = x := tr_ne x
  have h1 : decide (gi [tr x, tr y, pv] 1 ≠ 0) = y := tr_ne y
  have h2 : gi [tr x, tr y, pv] 2 = pv := rfl
  have w1 : IntKind.wrap .i64 (cv + 1) = cv + 1 := wr_i64 (by omega) (by omega)
  have w2 : IntKind.wrap .i64 (cv - 1) = cv - 1 := wr_i64 (by omega) (by omega)
  cases isU
  · have key : (if y = true then pv else if (x && !was && decide (cv > -32768)) = true then cv - 1 else cv) = cN false x y was pv cv := by
      simp only [cN, w2, Bool.false_eq_true, if_false]
      cases y
      · cases x
        · simp
        · cases was
          · simp only [Bool.not_false, Bool.true_and, Bool.and_true, Bool.false_eq_true, if_false, if_true, decide_eq_true_eq]; split <;> omega
          · simp
      · simp
    show (refM .ctd _ _ _ _ _ _).out = _ ∧ _
    simp only [refM, h0, h1, h2, (wz ek).1, e, w3_id hp, w3_id hc, w4_tr, w2, and_true, cT, Bool.false_eq_true, if_false, key, cB]
  · have key : (if y = true then 0 else if (x && !was && decide (cv < 32767)) = true then cv + 1 else cv) = cN true x y was pv cv := by
      simp only [cN, w1, if_true]
      cases y
      · cases x
        · simp
        · cases was
          · simp only [Bool.not_false, Bool.true_and, Bool.and_true, Bool.false_eq_true, if_false, if_true, decide_eq_true_eq]; split <;> omega
          · simp
      · simp
    show (refM .ctu _ _ _ _ _ _).out = _ ∧ _
    simp only [refM, h0, h1, h2, (wz ek).1, e, w3_id hp, w3_id hc, w4_tr, w1, and_true, cT, if_true, key, cB]
theorem cN1 {isU x y was : Bool} {pv cv : Int} (a : (y && isU) = true) : cN isU x y was pv cv = 0 := by cases isU <;> cases y <;> simp_all [cN]
theorem cN2 {isU x y was : Bool} {pv cv : Int} (a : (y && isU) = false) (b : y = true) : cN isU x y was pv cv = pv := by cases isU <;> cases y <;> simp_all [cN]
theorem cN3 {isU x y was : Bool} {pv cv : Int} (a : y = false) (b : (x && !was && isU) = true) : cN isU x y was pv cv = min (IntKind.wrap .i64 (cv + 1)) 32767 := by cases isU <;> cases x <;> cases was <;> simp_all [cN]
theorem cN4 {isU x y was : Bool} {pv cv : Int} (a : y = false) (b : (x && !was && isU) = false) (d : (x && !was) = true) : cN isU x y was pv cv = max (IntKind.wrap .i64 (cv - 1)) (-32768) := by cases isU <;> cases x <;> cases was <;> simp_all [cN]
theorem cN5 {isU x y was : Bool} {pv cv : Int} (a : y = false) (d : (x && !was) = false) : cN isU x y was pv cv = cv := by cases isU <;> cases x <;> cases was <;> simp_all [cN]
/-- What holds at the head of the loop. -/
def CntI (h : AH) (isU : Bool) (N q : Nat) (m : Nat) (l : List AVal) (h5 : AH) : Prop :=
  ∃ (i : Nat) (v : AVal) (t : Told) (was : Bool) (cv : Int), l = [.int .i64 cv, v, .bool was, .int .i64 i] ∧ i + m = N ∧ Kp h h5 ∧ Lo h5 v q t ∧ gi t.out 1 = cv ∧ R16 cv ∧ wrapM 4 t.k0 = tr was
theorem cnt_names {i : Nat} (hi : i < 2) : ∃ isU : Bool, (strs [[67, 84, 85], [67, 84, 68]])[i]? = some (.str (cB isU).nm) := by
  rcases (by omega : i = 0 ∨ i = 1) with rfl | rfl
  · exact ⟨true, rfl⟩
  · exact ⟨false, rfl⟩
theorem fbCounts (H : Plain ov) (hov : ov N_runglaw17_known = none) (n : Nat) (w : Wf h) (tb : Tb h) {x : AVal} {N : Nat} {f : Nat → Nat → Bool} {which pv0 first : Int} (hw : I64 which) (hx : Bt h x 3 N f) (hp : I64 pv0) (hf : I64 first) :
    Wp (kc ov (n + 8) N_runglaw17_FbCounts [.int .i64 which, x, .int .i64 pv0, .int .i64 first] h) fun r _ => r = .bool true := by
  rw [C_runglaw17_FbCounts H]; unfold F_runglaw17_FbCounts
  (try simp -dsimp (disch := omega) only [↓pre, sp, sp2, wp_some, Int.cast_ofNat_Int, Nat.reduceAdd, Nat.reduceMul, Nat.reduceSub, Nat.reduceLeDiff, Nat.reduceEqDiff, Nat.reducePow, Int.reduceToNat, Int.reducePow, Int.reduceAdd, Int.reduceSub, Int.reduceMul, Int.reduceLT, Int.reduceLE, Int.reduceEq, Int.reduceNeg])
  refine Wp.bind (known_spec H hov n w tb) fun v h1 ⟨K1, ev⟩ => ?_
  subst ev
  (try simp -dsimp (disch := omega) only [↓pre, sp, sp2, wp_some, Int.cast_ofNat_Int, Nat.reduceAdd, Nat.reduceMul, Nat.reduceSub, Nat.reduceLeDiff, Nat.reduceEqDiff, Nat.reducePow, Int.reduceToNat, Int.reducePow, Int.reduceAdd, Int.reduceSub, Int.reduceMul, Int.reduceLT, Int.reduceLE, Int.reduceEq, Int.reduceNeg, hx.len])
  refine wp_ite (fun c => ?_) (fun c => ?_)
  · (try simp -dsimp (disch := omega) only [↓pre, sp, sp2, wp_some, Int.cast_ofNat_Int, Nat.reduceAdd, Nat.reduceMul, Nat.reduceSub, Nat.reduceLeDiff, Nat.reduceEqDiff, Nat.reducePow, Int.reduceToNat, Int.reducePow, Int.reduceAdd, Int.reduceSub, Int.reduceMul, Int.reduceLT, Int.reduceLE, Int.reduceEq, Int.reduceNeg])
  refine wp_buildSl (cs := strs [[67, 84, 85], [67, 84, 68]]) K1.w' (by simp) rfl (strs_cells _) fun q2 h2 e2 K2 n2 g2 => ?_
  have o2 := strs_new g2
  have s2 : Sz h2 (.slice (some (q2, 0, 1)) 2 2) 1 2 (strs [[67, 84, 85], [67, 84, 68]]) .rw := Ow.rd o2
  obtain ⟨pl, hpl, ep, _⟩ := place_spec (h := h2) H (n + 6) (k := which) (m := 2) hw (by omega) (by omega)
  have ep' : kc ov (n + 7) N_runghelp_Place [.int .i64 which, .int .i64 2] h2 = some (.int .i64 pl, h2) := ep
  obtain ⟨isU, hU⟩ := cnt_names hpl
  have el2 : rLoad (ea (.slice (some (q2, 0, 1)) 2 2) pl) h2 = some (.str (cB isU).nm) := by rw [s2.ld (by rw [strs_len]; exact hpl)]; exact hU
  (try simp -dsimp (disch := omega) only [↓pre, sp, sp2, wp_some, Int.cast_ofNat_Int, Nat.reduceAdd, Nat.reduceMul, Nat.reduceSub, Nat.reduceLeDiff, Nat.reduceEqDiff, Nat.reducePow, Int.reduceToNat, Int.reducePow, Int.reduceAdd, Int.reduceSub, Int.reduceMul, Int.reduceLT, Int.reduceLE, Int.reduceEq, Int.reduceNeg, ep', s2.at, el2])
  refine Wp.bind (rwrap_spec H (n + 3) K2.w' 3 pv0 hp) fun v h3 ⟨K3, ev⟩ => ?_
  subst ev
  (try simp -dsimp (disch := omega) only [↓pre, sp, sp2, wp_some, Int.cast_ofNat_Int, Nat.reduceAdd, Nat.reduceMul, Nat.reduceSub, Nat.reduceLeDiff, Nat.reduceEqDiff, Nat.reducePow, Int.reduceToNat, Int.reducePow, Int.reduceAdd, Int.reduceSub, Int.reduceMul, Int.reduceLT, Int.reduceLE, Int.reduceEq, Int.reduceNeg])
  refine Wp.bind (rwrap_spec H (n + 3) K3.w' 3 first hf) fun v h4 ⟨K4, ev⟩ => ?_
  subst ev
  have hpR := w3_R pv0
  have hfR := w3_R first
  have hpI := wrapM_I64 3 pv0
  have hfI := wrapM_I64 3 first
  generalize wrapM 3 pv0 = pv at *
  generalize wrapM 3 first = cv0 at *
  (try simp -dsimp (disch := omega) only [↓pre, sp, sp2, wp_some, Int.cast_ofNat_Int, Nat.reduceAdd, Nat.reduceMul, Nat.reduceSub, Nat.reduceLeDiff, Nat.reduceEqDiff, Nat.reducePow, Int.reduceToNat, Int.reducePow, Int.reduceAdd, Int.reduceSub, Int.reduceMul, Int.reduceLT, Int.reduceLE, Int.reduceEq, Int.reduceNeg])
  refine wp_nums K4.w' [0, cv0] rfl rfl (by omega) fun q5 h5 e5 K5 n5 o5 => ?_
  (try simp -dsimp (disch := omega) only [↓pre, sp, sp2, wp_some, Int.cast_ofNat_Int, Nat.reduceAdd, Nat.reduceMul, Nat.reduceSub, Nat.reduceLeDiff, Nat.reduceEqDiff, Nat.reducePow, Int.reduceToNat, Int.reducePow, Int.reduceAdd, Int.reduceSub, Int.reduceMul, Int.reduceLT, Int.reduceLE, Int.reduceEq, Int.reduceNeg])
  refine wp_kbox K5.w' fun q h6 e6 K6 n6 b6 => ?_
  (try simp -dsimp (disch := omega) only [↓pre, sp, sp2, wp_some, Int.cast_ofNat_Int, Nat.reduceAdd, Nat.reduceMul, Nat.reduceSub, Nat.reduceLeDiff, Nat.reduceEqDiff, Nat.reducePow, Int.reduceToNat, Int.reducePow, Int.reduceAdd, Int.reduceSub, Int.reduceMul, Int.reduceLT, Int.reduceLE, Int.reduceEq, Int.reduceNeg])
  have k06 : Kp h h6 := ((K1.trans K2).trans K3).trans ((K4.trans K5).trans K6)
  have k05n : h.n ≤ h5.n := by have := K1.n; have := K2.n; have := K3.n; have := K4.n; omega
  have s0 : Lo h6 (.slice (some (q5, 0, 1)) 2 2) q ⟨[0, cv0], 0, 0, 0⟩ := ⟨oik o5 K6, fun hi => by simp only [isBk] at hi; omega, b6,
    ⟨fun x hx => by simp only [List.mem_cons, List.not_mem_nil, or_false] at hx; rcases hx with rfl | rfl; exact tr_I false; exact hfI, tr_I false, tr_I false, tr_I false⟩, by simp⟩
  refine wp_loop (CntI h isU N q) N (by omega) ⟨0, _, _, false, cv0, rfl, by omega, k06, s0, rfl, hfR, rfl⟩ ?_
  rintro m _ g0 j ⟨i, vo, t, was, cv, rfl, him, kg, s, a1, hcR, a2⟩ hj
  unfold L_runglaw17_FbCounts_1
  have x0 := hx.ke kg
  have hqn : h.n ≤ q := by omega
  (try simp -dsimp (disch := omega) only [↓pre, sp, sp2, wp_some, Int.cast_ofNat_Int, Nat.reduceAdd, Nat.reduceMul, Nat.reduceSub, Nat.reduceLeDiff, Nat.reduceEqDiff, Nat.reducePow, Int.reduceToNat, Int.reducePow, Int.reduceAdd, Int.reduceSub, Int.reduceMul, Int.reduceLT, Int.reduceLE, Int.reduceEq, Int.reduceNeg, x0.len])
  refine wp_ite (fun c => ?_) (fun c => ?_)
  · have hiN : i < N := by omega
    have ei : IntKind.wrap .i64 ((i : Int) + 1) = ((i + 1 : Nat) : Int) := by rw [wr_i64 (by omega) (by omega)]; omega
    (try simp -dsimp (disch := omega) only [↓pre, sp, sp2, wp_some, Int.cast_ofNat_Int, Nat.reduceAdd, Nat.reduceMul, Nat.reduceSub, Nat.reduceLeDiff, Nat.reduceEqDiff, Nat.reducePow, Int.reduceToNat, Int.reducePow, Int.reduceAdd, Int.reduceSub, Int.reduceMul, Int.reduceLT, Int.reduceLE, Int.reduceEq, Int.reduceNeg])
    refine wp_nums kg.w' [0, 0, pv] rfl rfl (by omega) fun qi g1 ei1 KG1 ng1 oi => ?_
    (try simp -dsimp (disch := omega) only [↓pre, sp, sp2, wp_some, Int.cast_ofNat_Int, Nat.reduceAdd, Nat.reduceMul, Nat.reduceSub, Nat.reduceLeDiff, Nat.reduceEqDiff, Nat.reducePow, Int.reduceToNat, Int.reducePow, Int.reduceAdd, Int.reduceSub, Int.reduceMul, Int.reduceLT, Int.reduceLE, Int.reduceEq, Int.reduceNeg])
    refine wp_loop (fun m l g2 => ∃ k : Nat, l = [.int .i64 k] ∧ k + m = 2 ∧ Ke (· = qi) g1 g2 ∧ Oi g2 (.slice (some (qi, 0, 1)) 3 3) (fillL (f i) 2 k [pv])) 2 (by omega) ⟨0, rfl, rfl, Ke.refl KG1.w', oi⟩ ?_
    rintro m2 _ g2 j2 ⟨k, rfl, hkm, KG2, o2⟩ hj2
    unfold L_runglaw17_FbCounts_0
    have x2 := (x0.ke KG1).ke KG2
    have l0 := x2.ld hiN (show 0 < 3 by omega)
    have l1 := x2.ld hiN (show 1 < 3 by omega)
    have eA0 : rAtArr 3 1 (ea x (i * 3)) (.int .i64 0) = some (ea x (i * 3 + 0)) := rAtArr_ea (by omega) (by omega)
    have eA1 : rAtArr 3 1 (ea x (i * 3)) (.int .i64 1) = some (ea x (i * 3 + 1)) := rAtArr_ea (by omega) (by omega)
    (try simp -dsimp (disch := omega) only [↓pre, sp, sp2, wp_some, Int.cast_ofNat_Int, Nat.reduceAdd, Nat.reduceMul, Nat.reduceSub, Nat.reduceLeDiff, Nat.reduceEqDiff, Nat.reducePow, Int.reduceToNat, Int.reducePow, Int.reduceAdd, Int.reduceSub, Int.reduceMul, Int.reduceLT, Int.reduceLE, Int.reduceEq, Int.reduceNeg])
    refine wp_ite (fun c2 => ?_) (fun c2 => ?_)
    · have hk : k < 2 := by omega
      have ek : IntKind.wrap .i64 ((k : Int) + 1) = ((k + 1 : Nat) : Int) := by rw [wr_i64 (by omega) (by omega)]; omega
      have eA : rAtArr 3 1 (ea x (i * 3)) (.int .i64 (k : Int)) = some (ea x (i * 3 + k)) := by
        rw [rAtArr_ea (by omega) (by omega)]; simp
      have el := x2.ld hiN (show k < 3 by omega)
      have o2s : Sz g2 (.slice (some (qi, 0, 1)) 3 3) 1 3 (i64s (fillL (f i) 2 k [pv])) .rw := (Ow.rd o2).to rfl (by rw [fillL_len]; rfl)
      (try simp -dsimp (disch := omega) only [↓pre, sp, sp2, wp_some, Int.cast_ofNat_Int, Nat.reduceAdd, Nat.reduceMul, Nat.reduceSub, Nat.reduceLeDiff, Nat.reduceEqDiff, Nat.reducePow, Int.reduceToNat, Int.reducePow, Int.reduceAdd, Int.reduceSub, Int.reduceMul, Int.reduceLT, Int.reduceLE, Int.reduceEq, Int.reduceNeg, x2.at, eA, el])
      refine wp_kJ (fun l g3 => Ke (· = qi) g1 g3 ∧ Oi g3 (.slice (some (qi, 0, 1)) 3 3) (fillL (f i) 2 (k + 1) [pv])) (fun j3 hj3 => ?_) ?_
      · refine wp_kIf (fun cb => ?_) (fun cb => ?_)
        · (try simp -dsimp (disch := omega) only [↓pre, sp, sp2, wp_some, Int.cast_ofNat_Int, Nat.reduceAdd, Nat.reduceMul, Nat.reduceSub, Nat.reduceLeDiff, Nat.reduceEqDiff, Nat.reducePow, Int.reduceToNat, Int.reducePow, Int.reduceAdd, Int.reduceSub, Int.reduceMul, Int.reduceLT, Int.reduceLE, Int.reduceEq, Int.reduceNeg, o2s.at])
          refine wp_iset KG2.w' o2 (by rw [fillL_len]; simp; omega) 1 fun g3 o3 KG3 n3 => ?_
          rw [fillL_set hk cb] at o3
          (try simp -dsimp (disch := omega) only [↓pre, sp, sp2, wp_some, Int.cast_ofNat_Int, Nat.reduceAdd, Nat.reduceMul, Nat.reduceSub, Nat.reduceLeDiff, Nat.reduceEqDiff, Nat.reducePow, Int.reduceToNat, Int.reducePow, Int.reduceAdd, Int.reduceSub, Int.reduceMul, Int.reduceLT, Int.reduceLE, Int.reduceEq, Int.reduceNeg])
          exact hj3 _ _ ⟨KG2.trans KG3, o3⟩
        · rw [fillL_no cb] at o2
          (try simp -dsimp (disch := omega) only [↓pre, sp, sp2, wp_some, Int.cast_ofNat_Int, Nat.reduceAdd, Nat.reduceMul, Nat.reduceSub, Nat.reduceLeDiff, Nat.reduceEqDiff, Nat.reducePow, Int.reduceToNat, Int.reducePow, Int.reduceAdd, Int.reduceSub, Int.reduceMul, Int.reduceLT, Int.reduceLE, Int.reduceEq, Int.reduceNeg])
          exact hj3 _ _ ⟨KG2, o2⟩
      · rintro l g3 ⟨KG3, o3⟩
        (try simp -dsimp (disch := omega) only [↓pre, sp, sp2, wp_some, Int.cast_ofNat_Int, Nat.reduceAdd, Nat.reduceMul, Nat.reduceSub, Nat.reduceLeDiff, Nat.reduceEqDiff, Nat.reducePow, Int.reduceToNat, Int.reducePow, Int.reduceAdd, Int.reduceSub, Int.reduceMul, Int.reduceLT, Int.reduceLE, Int.reduceEq, Int.reduceNeg, ek])
        exact hj2 (m2 - 1) _ _ (by omega) ⟨k + 1, rfl, by omega, KG3, o3⟩
    · have hk : k = 2 := by omega
      subst hk
      clear hj2
      have o2' : Oi g2 (.slice (some (qi, 0, 1)) 3 3) [tr (f i 0), tr (f i 1), pv] := tr_out o2 (by rw [fillL_all]; rfl)
      clear o2
      have kg02 : Kp g0 g2 := Ke.new_p KG1 KG2 fun i hi => by omega
      have kh2 : Kp h g2 := kg.trans kg02
      have xI : I64s [tr (f i 0), tr (f i 1), pv] := fun z hz => by
        simp only [List.mem_cons, List.not_mem_nil, or_false] at hz
        rcases hz with rfl | rfl | rfl
        · exact tr_I _
        · exact tr_I _
        · exact hpI
      have s2 := s.kp kg02
      have hqg := kg.w'.lt _ _ s.k
      have eU : rBin .eql .no true (.str (cB isU).nm) (.str [67, 84, 85]) = some (.bool isU) := by cases isU <;> rfl
      have eD : rBin .eql .no true (.str (cB isU).nm) (.str [67, 84, 68]) = some (.bool (!isU)) := by cases isU <;> rfl
      have hI : I64 (i : Int) := by unfold I64; omega
      obtain ⟨c, hc⟩ : ∃ c, c = cN isU (f i 0) (f i 1) was pv cv := ⟨_, rfl⟩
      have hcR' : R16 c := by rw [hc]; exact cN_R hpR hcR
      (try simp -dsimp (disch := omega) only [↓pre, sp, sp2, wp_some, Int.cast_ofNat_Int, Nat.reduceAdd, Nat.reduceMul, Nat.reduceSub, Nat.reduceLeDiff, Nat.reduceEqDiff, Nat.reducePow, Int.reduceToNat, Int.reducePow, Int.reduceAdd, Int.reduceSub, Int.reduceMul, Int.reduceLT, Int.reduceLE, Int.reduceEq, Int.reduceNeg, x2.at, eA1, l1])
      refine wp_kT (.bool (f i 1 && isU)) (fun j3 hj3 => ?_) ?_
      · clear hc l1 o2' xI
        generalize f i 1 = Y at *
        cases Y
        · (try simp -dsimp (disch := omega) only [↓pre, sp, sp2, wp_some, Int.cast_ofNat_Int, Nat.reduceAdd, Nat.reduceMul, Nat.reduceSub, Nat.reduceLeDiff, Nat.reduceEqDiff, Nat.reducePow, Int.reduceToNat, Int.reducePow, Int.reduceAdd, Int.reduceSub, Int.reduceMul, Int.reduceLT, Int.reduceLE, Int.reduceEq, Int.reduceNeg]); exact hj3
        · (try simp -dsimp (disch := omega) only [↓pre, sp, sp2, wp_some, Int.cast_ofNat_Int, Nat.reduceAdd, Nat.reduceMul, Nat.reduceSub, Nat.reduceLeDiff, Nat.reduceEqDiff, Nat.reducePow, Int.reduceToNat, Int.reducePow, Int.reduceAdd, Int.reduceSub, Int.reduceMul, Int.reduceLT, Int.reduceLE, Int.reduceEq, Int.reduceNeg, ↓eU]); exact hj3
      (try simp -dsimp (disch := omega) only [↓pre, sp, sp2, wp_some, Int.cast_ofNat_Int, Nat.reduceAdd, Nat.reduceMul, Nat.reduceSub, Nat.reduceLeDiff, Nat.reduceEqDiff, Nat.reducePow, Int.reduceToNat, Int.reducePow, Int.reduceAdd, Int.reduceSub, Int.reduceMul, Int.reduceLT, Int.reduceLE, Int.reduceEq, Int.reduceNeg])
      refine wp_kJ (fun l g3 => l = [.int .i64 c] ∧ g3 = g2) (fun j68 hj68 => ?_) ?_
      · refine wp_kIf (fun b1 => ?_) (fun b1 => ?_)
        · (try simp -dsimp (disch := omega) only [↓pre, sp, sp2, wp_some, Int.cast_ofNat_Int, Nat.reduceAdd, Nat.reduceMul, Nat.reduceSub, Nat.reduceLeDiff, Nat.reduceEqDiff, Nat.reducePow, Int.reduceToNat, Int.reducePow, Int.reduceAdd, Int.reduceSub, Int.reduceMul, Int.reduceLT, Int.reduceLE, Int.reduceEq, Int.reduceNeg])
          exact hj68 _ _ ⟨by rw [hc, cN1 b1], rfl⟩
        (try simp -dsimp (disch := omega) only [↓pre, sp, sp2, wp_some, Int.cast_ofNat_Int, Nat.reduceAdd, Nat.reduceMul, Nat.reduceSub, Nat.reduceLeDiff, Nat.reduceEqDiff, Nat.reducePow, Int.reduceToNat, Int.reducePow, Int.reduceAdd, Int.reduceSub, Int.reduceMul, Int.reduceLT, Int.reduceLE, Int.reduceEq, Int.reduceNeg, x2.at, eA1, l1])
        refine wp_kJ (fun l g3 => l = [.int .i64 c] ∧ g3 = g2) (fun j129 hj129 => ?_) ?_
        · refine wp_kIf (fun b2 => ?_) (fun b2 => ?_)
          · (try simp -dsimp (disch := omega) only [↓pre, sp, sp2, wp_some, Int.cast_ofNat_Int, Nat.reduceAdd, Nat.reduceMul, Nat.reduceSub, Nat.reduceLeDiff, Nat.reduceEqDiff, Nat.reducePow, Int.reduceToNat, Int.reducePow, Int.reduceAdd, Int.reduceSub, Int.reduceMul, Int.reduceLT, Int.reduceLE, Int.reduceEq, Int.reduceNeg])
            exact hj129 _ _ ⟨by rw [hc, cN2 b1 b2], rfl⟩
          (try simp -dsimp (disch := omega) only [↓pre, sp, sp2, wp_some, Int.cast_ofNat_Int, Nat.reduceAdd, Nat.reduceMul, Nat.reduceSub, Nat.reduceLeDiff, Nat.reduceEqDiff, Nat.reducePow, Int.reduceToNat, Int.reducePow, Int.reduceAdd, Int.reduceSub, Int.reduceMul, Int.reduceLT, Int.reduceLE, Int.reduceEq, Int.reduceNeg, x2.at, eA0, l0])
          refine wp_kT (.bool (f i 0 && !was && isU)) (fun j3 hj3 => ?_) ?_
          · clear hc l0 l1 o2' xI
            generalize f i 0 = X at *
            cases X
            · (try simp -dsimp (disch := omega) only [↓pre, sp, sp2, wp_some, Int.cast_ofNat_Int, Nat.reduceAdd, Nat.reduceMul, Nat.reduceSub, Nat.reduceLeDiff, Nat.reduceEqDiff, Nat.reducePow, Int.reduceToNat, Int.reducePow, Int.reduceAdd, Int.reduceSub, Int.reduceMul, Int.reduceLT, Int.reduceLE, Int.reduceEq, Int.reduceNeg]); exact hj3
            · cases was
              · (try simp -dsimp (disch := omega) only [↓pre, sp, sp2, wp_some, Int.cast_ofNat_Int, Nat.reduceAdd, Nat.reduceMul, Nat.reduceSub, Nat.reduceLeDiff, Nat.reduceEqDiff, Nat.reducePow, Int.reduceToNat, Int.reducePow, Int.reduceAdd, Int.reduceSub, Int.reduceMul, Int.reduceLT, Int.reduceLE, Int.reduceEq, Int.reduceNeg, ↓eU]); exact hj3
              · (try simp -dsimp (disch := omega) only [↓pre, sp, sp2, wp_some, Int.cast_ofNat_Int, Nat.reduceAdd, Nat.reduceMul, Nat.reduceSub, Nat.reduceLeDiff, Nat.reduceEqDiff, Nat.reducePow, Int.reduceToNat, Int.reducePow, Int.reduceAdd, Int.reduceSub, Int.reduceMul, Int.reduceLT, Int.reduceLE, Int.reduceEq, Int.reduceNeg]); exact hj3
          (try simp -dsimp (disch := omega) only [↓pre, sp, sp2, wp_some, Int.cast_ofNat_Int, Nat.reduceAdd, Nat.reduceMul, Nat.reduceSub, Nat.reduceLeDiff, Nat.reduceEqDiff, Nat.reducePow, Int.reduceToNat, Int.reducePow, Int.reduceAdd, Int.reduceSub, Int.reduceMul, Int.reduceLT, Int.reduceLE, Int.reduceEq, Int.reduceNeg])
          refine wp_kJ (fun l g3 => l = [.int .i64 c] ∧ g3 = g2) (fun j149 hj149 => ?_) ?_
          · refine wp_kIf (fun b3 => ?_) (fun b3 => ?_)
            · (try simp -dsimp (disch := omega) only [↓pre, sp, sp2, wp_some, Int.cast_ofNat_Int, Nat.reduceAdd, Nat.reduceMul, Nat.reduceSub, Nat.reduceLeDiff, Nat.reduceEqDiff, Nat.reducePow, Int.reduceToNat, Int.reducePow, Int.reduceAdd, Int.reduceSub, Int.reduceMul, Int.reduceLT, Int.reduceLE, Int.reduceEq, Int.reduceNeg])
              exact hj149 _ _ ⟨by rw [hc, cN3 b2 b3], rfl⟩
            (try simp -dsimp (disch := omega) only [↓pre, sp, sp2, wp_some, Int.cast_ofNat_Int, Nat.reduceAdd, Nat.reduceMul, Nat.reduceSub, Nat.reduceLeDiff, Nat.reduceEqDiff, Nat.reducePow, Int.reduceToNat, Int.reducePow, Int.reduceAdd, Int.reduceSub, Int.reduceMul, Int.reduceLT, Int.reduceLE, Int.reduceEq, Int.reduceNeg, x2.at, eA0, l0])
            refine wp_kT (.bool (f i 0 && !was)) (fun j3 hj3 => ?_) ?_
            · clear hc l0 l1 o2' xI b3
              generalize f i 0 = X at *
              cases X
              · (try simp -dsimp (disch := omega) only [↓pre, sp, sp2, wp_some, Int.cast_ofNat_Int, Nat.reduceAdd, Nat.reduceMul, Nat.reduceSub, Nat.reduceLeDiff, Nat.reduceEqDiff, Nat.reducePow, Int.reduceToNat, Int.reducePow, Int.reduceAdd, Int.reduceSub, Int.reduceMul, Int.reduceLT, Int.reduceLE, Int.reduceEq, Int.reduceNeg]); exact hj3
              · (try simp -dsimp (disch := omega) only [↓pre, sp, sp2, wp_some, Int.cast_ofNat_Int, Nat.reduceAdd, Nat.reduceMul, Nat.reduceSub, Nat.reduceLeDiff, Nat.reduceEqDiff, Nat.reducePow, Int.reduceToNat, Int.reducePow, Int.reduceAdd, Int.reduceSub, Int.reduceMul, Int.reduceLT, Int.reduceLE, Int.reduceEq, Int.reduceNeg]); exact hj3
            (try simp -dsimp (disch := omega) only [↓pre, sp, sp2, wp_some, Int.cast_ofNat_Int, Nat.reduceAdd, Nat.reduceMul, Nat.reduceSub, Nat.reduceLeDiff, Nat.reduceEqDiff, Nat.reducePow, Int.reduceToNat, Int.reducePow, Int.reduceAdd, Int.reduceSub, Int.reduceMul, Int.reduceLT, Int.reduceLE, Int.reduceEq, Int.reduceNeg])
            refine wp_kJ (fun l g3 => l = [.int .i64 c] ∧ g3 = g2) (fun j167 hj167 => ?_) ?_
            · refine wp_kIf (fun b4 => ?_) (fun b4 => ?_)
              · (try simp -dsimp (disch := omega) only [↓pre, sp, sp2, wp_some, Int.cast_ofNat_Int, Nat.reduceAdd, Nat.reduceMul, Nat.reduceSub, Nat.reduceLeDiff, Nat.reduceEqDiff, Nat.reducePow, Int.reduceToNat, Int.reducePow, Int.reduceAdd, Int.reduceSub, Int.reduceMul, Int.reduceLT, Int.reduceLE, Int.reduceEq, Int.reduceNeg])
                exact hj167 _ _ ⟨by rw [hc, cN4 b2 b3 b4], rfl⟩
              · (try simp -dsimp (disch := omega) only [↓pre, sp, sp2, wp_some, Int.cast_ofNat_Int, Nat.reduceAdd, Nat.reduceMul, Nat.reduceSub, Nat.reduceLeDiff, Nat.reduceEqDiff, Nat.reducePow, Int.reduceToNat, Int.reducePow, Int.reduceAdd, Int.reduceSub, Int.reduceMul, Int.reduceLT, Int.reduceLE, Int.reduceEq, Int.reduceNeg])
                exact hj167 _ _ ⟨by rw [hc, cN5 b2 b4], rfl⟩
            · rintro _ g3 ⟨rfl, e⟩
              (try simp -dsimp (disch := omega) only [↓pre, sp, sp2, wp_some, Int.cast_ofNat_Int, Nat.reduceAdd, Nat.reduceMul, Nat.reduceSub, Nat.reduceLeDiff, Nat.reduceEqDiff, Nat.reducePow, Int.reduceToNat, Int.reducePow, Int.reduceAdd, Int.reduceSub, Int.reduceMul, Int.reduceLT, Int.reduceLE, Int.reduceEq, Int.reduceNeg])
              exact hj149 _ _ ⟨rfl, e⟩
          · rintro _ g3 ⟨rfl, e⟩
            (try simp -dsimp (disch := omega) only [↓pre, sp, sp2, wp_some, Int.cast_ofNat_Int, Nat.reduceAdd, Nat.reduceMul, Nat.reduceSub, Nat.reduceLeDiff, Nat.reduceEqDiff, Nat.reducePow, Int.reduceToNat, Int.reducePow, Int.reduceAdd, Int.reduceSub, Int.reduceMul, Int.reduceLT, Int.reduceLE, Int.reduceEq, Int.reduceNeg])
            exact hj129 _ _ ⟨rfl, e⟩
        · rintro _ g3 ⟨rfl, e⟩
          (try simp -dsimp (disch := omega) only [↓pre, sp, sp2, wp_some, Int.cast_ofNat_Int, Nat.reduceAdd, Nat.reduceMul, Nat.reduceSub, Nat.reduceLeDiff, Nat.reduceEqDiff, Nat.reducePow, Int.reduceToNat, Int.reducePow, Int.reduceAdd, Int.reduceSub, Int.reduceMul, Int.reduceLT, Int.reduceLE, Int.reduceEq, Int.reduceNeg])
          exact hj68 _ _ ⟨rfl, e⟩
      · rintro _ g3 ⟨rfl, e⟩
        subst e
        obtain ⟨p1, p2⟩ := cnt_eq isU (f i 0) (f i 1) was t.k1 t.k2 (i : Int) hpR hcR a1 a2
        rw [← hc] at p1
        (try simp -dsimp (disch := omega) only [↓pre, sp, sp2, wp_some, Int.cast_ofNat_Int, Nat.reduceAdd, Nat.reduceMul, Nat.reduceSub, Nat.reduceLeDiff, Nat.reduceEqDiff, Nat.reducePow, Int.reduceToNat, Int.reducePow, Int.reduceAdd, Int.reduceSub, Int.reduceMul, Int.reduceLT, Int.reduceLE, Int.reduceEq, Int.reduceNeg, x2.at, eA0, l0, s2.k.ldd])
        refine Wp.bind (stepB_spec H (n + 1) kh2.w' (tb.ke kh2) (cB isU) (now := (i : Int)) o2'.si s2.o.si (by simp) (by have := s2.l; omega) xI s2.I.o s2.I.k0 s2.I.k1 s2.I.k2 hI) fun v g4 ⟨KG4, u, ev, ou, fu⟩ => ?_
        subst ev
        have lu := ref_len (cB isU) [tr (f i 0), tr (f i 1), pv] t.out t.k0 t.k1 t.k2 (i : Int)
        have lu' := (bl_len (cB isU)).2
        have uI := ref_I (cB isU) [tr (f i 0), tr (f i 1), pv] t.out t.k0 t.k1 t.k2 (i : Int)
        generalize refM (cB isU) [tr (f i 0), tr (f i 1), pv] t.out t.k0 t.k1 t.k2 (i : Int) = T at *
        (try simp -dsimp (disch := omega) only [↓pre, sp, sp2, wp_some, Int.cast_ofNat_Int, Nat.reduceAdd, Nat.reduceMul, Nat.reduceSub, Nat.reduceLeDiff, Nat.reduceEqDiff, Nat.reducePow, Int.reduceToNat, Int.reducePow, Int.reduceAdd, Int.reduceSub, Int.reduceMul, Int.reduceLT, Int.reduceLE, Int.reduceEq, Int.reduceNeg])
        refine wp_lo s2 ⟨KG4, u, rfl, ou, fu⟩ uI (by omega) fun g5 c5 M => ?_
        have k5 := c5.kp kh2 hqn
        have oM : Oi g5 u [tr (cT isU pv c), c] := tr_out M.o p1
        have sM : Sz g5 u 1 2 (i64s [tr (cT isU pv c), c]) .rw := oM.si
        have d0 : rLoad (ea u 0) g5 = some (.int .i64 (tr (cT isU pv c))) := oM.si.ldI (by simp)
        have d1 : rLoad (ea u 1) g5 = some (.int .i64 c) := oM.si.ldI (by simp)
        have g1' : gi T.out 1 = c := by rw [p1]; rfl
        (try simp -dsimp (disch := omega) only [↓pre, sp, sp2, wp_some, Int.cast_ofNat_Int, Nat.reduceAdd, Nat.reduceMul, Nat.reduceSub, Nat.reduceLeDiff, Nat.reduceEqDiff, Nat.reducePow, Int.reduceToNat, Int.reducePow, Int.reduceAdd, Int.reduceSub, Int.reduceMul, Int.reduceLT, Int.reduceLE, Int.reduceEq, Int.reduceNeg, ↓eD])
        refine wp_kJ (fun l g6 => l = [.bool (cT isU pv c)] ∧ g6 = g5) (fun j93 hj93 => ?_) ?_
        · cases isU
          · (try simp -dsimp (disch := omega) only [↓pre, sp, sp2, wp_some, Int.cast_ofNat_Int, Nat.reduceAdd, Nat.reduceMul, Nat.reduceSub, Nat.reduceLeDiff, Nat.reduceEqDiff, Nat.reducePow, Int.reduceToNat, Int.reducePow, Int.reduceAdd, Int.reduceSub, Int.reduceMul, Int.reduceLT, Int.reduceLE, Int.reduceEq, Int.reduceNeg])
            exact hj93 _ _ ⟨rfl, rfl⟩
          · (try simp -dsimp (disch := omega) only [↓pre, sp, sp2, wp_some, Int.cast_ofNat_Int, Nat.reduceAdd, Nat.reduceMul, Nat.reduceSub, Nat.reduceLeDiff, Nat.reduceEqDiff, Nat.reducePow, Int.reduceToNat, Int.reducePow, Int.reduceAdd, Int.reduceSub, Int.reduceMul, Int.reduceLT, Int.reduceLE, Int.reduceEq, Int.reduceNeg])
            exact hj93 _ _ ⟨rfl, rfl⟩
        · rintro _ g6 ⟨rfl, e⟩
          subst e
          (try simp -dsimp (disch := omega) only [↓pre, sp, sp2, wp_some, Int.cast_ofNat_Int, Nat.reduceAdd, Nat.reduceMul, Nat.reduceSub, Nat.reduceLeDiff, Nat.reduceEqDiff, Nat.reducePow, Int.reduceToNat, Int.reducePow, Int.reduceAdd, Int.reduceSub, Int.reduceMul, Int.reduceLT, Int.reduceLE, Int.reduceEq, Int.reduceNeg, sM.len])
          refine wp_kT (.bool false) (fun j3 hj3 => ?_) ?_
          · (try simp -dsimp (disch := omega) only [↓pre, sp, sp2, wp_some, Int.cast_ofNat_Int, Nat.reduceAdd, Nat.reduceMul, Nat.reduceSub, Nat.reduceLeDiff, Nat.reduceEqDiff, Nat.reducePow, Int.reduceToNat, Int.reducePow, Int.reduceAdd, Int.reduceSub, Int.reduceMul, Int.reduceLT, Int.reduceLE, Int.reduceEq, Int.reduceNeg, sM.at, d1, not_true, decide_false])
            (try simp -dsimp (disch := omega) only [↓pre, sp, sp2, wp_some, Int.cast_ofNat_Int, Nat.reduceAdd, Nat.reduceMul, Nat.reduceSub, Nat.reduceLeDiff, Nat.reduceEqDiff, Nat.reducePow, Int.reduceToNat, Int.reducePow, Int.reduceAdd, Int.reduceSub, Int.reduceMul, Int.reduceLT, Int.reduceLE, Int.reduceEq, Int.reduceNeg, sM.at, d0, tr_dec, beq_no])
            exact hj3
          (try simp -dsimp (disch := omega) only [↓pre, sp, sp2, wp_some, Int.cast_ofNat_Int, Nat.reduceAdd, Nat.reduceMul, Nat.reduceSub, Nat.reduceLeDiff, Nat.reduceEqDiff, Nat.reducePow, Int.reduceToNat, Int.reducePow, Int.reduceAdd, Int.reduceSub, Int.reduceMul, Int.reduceLT, Int.reduceLE, Int.reduceEq, Int.reduceNeg, ei])
          exact hj (m - 1) _ _ (by omega) ⟨i + 1, u, T, f i 0, c, rfl, by omega, k5, M, g1', hcR', p2⟩
  · (try simp -dsimp (disch := omega) only [↓pre, sp, sp2, wp_some, Int.cast_ofNat_Int, Nat.reduceAdd, Nat.reduceMul, Nat.reduceSub, Nat.reduceLeDiff, Nat.reduceEqDiff, Nat.reducePow, Int.reduceToNat, Int.reducePow, Int.reduceAdd, Int.reduceSub, Int.reduceMul, Int.reduceLT, Int.reduceLE, Int.reduceEq, Int.reduceNeg])
end Go.Proofs.YtindiedfioiejaaDoor.AI
