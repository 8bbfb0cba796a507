/- Chapter 17: a timer for ever. -/
import Derived.Test.YtindiedfioiejaaDoorFh
import Derived.Test.YtindiedfioiejaaDoorAiFbDel
namespace Go.Proofs.YtindiedfioiejaaDoor.AI
open Go
set_option linter.unusedSimpArgs false
set_option linter.unusedVariables false
variable {ov : AOver} {h : AH}
theorem ever_eq (q : Bool) {pt g k0 k1 k2 : Int} (o : List Int) (h0 : 0 ≤ pt) (h1 : pt ≤ 2147483647) (hg : 0 ≤ g) (hq : q = false → g ≤ 2147483647) (e0 : wrapM 4 k0 = 1) (e1 : wrapM 4 k1 = 0) (e2 : wrapM 4 k2 = tr q) :
    (refM .ton [1, pt] o k0 k1 k2 g).out = [tr (q || decide (g ≥ pt)), if (q || decide (g ≥ pt)) = true then pt else g] ∧ wrapM 4 (refM .ton [1, pt] o k0 k1 k2 g).k0 = 1 ∧ wrapM 4 (refM .ton [1, pt] o k0 k1 k2 g).k1 = 0 ∧
      wrapM 4 (refM .ton [1, pt] o k0 k1 k2 g).k2 = tr (q || decide (g ≥ pt)) := by
  have ha : decide (gi [1, pt] 0 ≠ 0) = true := rfl
  have hp : max (wrapM 11 pt) 0 = pt := by rw [w11]; omega
  simp only [refM, timerM, ha, gi1, hp, e0, e1, e2, show decide ((1 : Int) = 0) = false from rfl, Bool.and_false, Bool.false_eq_true, if_false, if_true]
  cases q
  · have hs : sinceM (wrapM 4 g) 0 = g := by
      have := since_small (n := g) (k := 0) (by omega) hg (hq rfl)
      simpa [w4_0] using this
    simp only [hs, tr_f, show ¬ ((0 : Int) = 1) by decide, if_false, Bool.false_or, w4_tr, w4_0, and_true]
    by_cases c : g ≥ pt
    · have c' : min g pt ≥ pt := by omega
      simp only [c, c', decide_true, if_true, tr_t, show wrapM 4 1 = 1 from rfl, and_true]
      rw [show min g pt = pt by omega]
    · have c' : ¬ min g pt ≥ pt := by omega
      simp only [c, c', decide_false, Bool.false_eq_true, if_false, tr_t, tr_f, show wrapM 4 1 = 1 from rfl, and_true]
      rw [show min g pt = g by omega]
  · simp only [tr_t, if_true, Bool.true_or, show wrapM 4 1 = 1 from rfl, w4_0, and_self]
theorem ever_0 {pt : Int} (h0 : 0 ≤ pt) (h1 : pt ≤ 2147483647) :
    wrapM 4 (refM .ton [1, pt] [] 0 0 0 0).k0 = 1 ∧ wrapM 4 (refM .ton [1, pt] [] 0 0 0 0).k1 = 0 ∧ wrapM 4 (refM .ton [1, pt] [] 0 0 0 0).k2 = tr (decide (pt = 0)) := by
  have ha : decide (gi [1, pt] 0 ≠ 0) = true := rfl
  have hp : max (wrapM 11 pt) 0 = pt := by rw [w11]; omega
  have hs : sinceM 0 0 = 0 := rfl
  have hd : decide (min 0 pt ≥ pt) = decide (pt = 0) := by
    by_cases c : pt = 0
    · subst c; rfl
    · rw [decide_eq_false c, decide_eq_false (by omega)]
  simp only [refM, timerM, ha, gi1, hp, w4_0, decide_true, Bool.and_self, if_true, hs, show ¬ ((0 : Int) = 1) by decide, if_false, tr_t, show wrapM 4 1 = 1 from rfl, w4_tr, hd, and_self]
/-- What holds at the head of the loop. -/
def EvI (h : AH) (pt : Int) (N q : Nat) (m : Nat) (l : List AVal) (h5 : AH) : Prop :=
  ∃ (i : Nat) (v : AVal) (t : Told) (b : Bool) (g : Int), l = [v, .int .i64 g, .int .i64 g, .bool b, .int .i64 i] ∧ i + m = N ∧ Kp h h5 ∧ Lo h5 v q t ∧ wrapM 4 t.k0 = 1 ∧ wrapM 4 t.k1 = 0 ∧ wrapM 4 t.k2 = tr b ∧ 0 ≤ g ∧ g ≤ (i : Int) * 2147483648
theorem fbEver (H : Plain ov) (hov : ov N_runglaw17_known = none) (n : Nat) (w : Wf h) (tb : Tb h) {x : AVal} {us : List Int} {pt0 : Int} (hx : Sz h x 1 us.length (us.map (AVal.int .u32)) .ro) (hu : ∀ z ∈ us, 0 ≤ z ∧ z ≤ 4294967295) (hp : I64 pt0) :
    Wp (kc ov (n + 8) N_runglaw17_FbEver [x, .int .i64 pt0] h) fun r _ => r = .bool true := by
  rw [C_runglaw17_FbEver H]; unfold F_runglaw17_FbEver
  (try simp -dsimp (disch := omega) only [↓pre, sp, sp2, wp_some, Int.cast_ofNat_Int, Nat.reduceAdd, Nat.reduceMul, Nat.reduceSub, Nat.reduceLeDiff, Nat.reduceEqDiff, Nat.reducePow, Int.reduceToNat, Int.reducePow, Int.reduceAdd, Int.reduceSub, Int.reduceMul, Int.reduceLT, Int.reduceLE, Int.reduceEq, Int.reduceNeg])
  refine Wp.bind (known_spec H hov n w tb) fun v h1 ⟨K1, ev⟩ => ?_
  subst ev
  (try simp -dsimp (disch := omega) only [↓pre, sp, sp2, wp_some, Int.cast_ofNat_Int, Nat.reduceAdd, Nat.reduceMul, Nat.reduceSub, Nat.reduceLeDiff, Nat.reduceEqDiff, Nat.reducePow, Int.reduceToNat, Int.reducePow, Int.reduceAdd, Int.reduceSub, Int.reduceMul, Int.reduceLT, Int.reduceLE, Int.reduceEq, Int.reduceNeg, hx.len])
  refine wp_ite (fun c => ?_) (fun c => ?_)
  · (try simp -dsimp (disch := omega) only [↓pre, sp, sp2, wp_some, Int.cast_ofNat_Int, Nat.reduceAdd, Nat.reduceMul, Nat.reduceSub, Nat.reduceLeDiff, Nat.reduceEqDiff, Nat.reducePow, Int.reduceToNat, Int.reducePow, Int.reduceAdd, Int.reduceSub, Int.reduceMul, Int.reduceLT, Int.reduceLE, Int.reduceEq, Int.reduceNeg])
  (try simp -dsimp (disch := omega) only [↓pre, sp, sp2, wp_some, Int.cast_ofNat_Int, Nat.reduceAdd, Nat.reduceMul, Nat.reduceSub, Nat.reduceLeDiff, Nat.reduceEqDiff, Nat.reducePow, Int.reduceToNat, Int.reducePow, Int.reduceAdd, Int.reduceSub, Int.reduceMul, Int.reduceLT, Int.reduceLE, Int.reduceEq, Int.reduceNeg])
  refine Wp.bind (rwrap_spec H (n + 3) K1.w' 11 pt0 hp) fun v h2 ⟨K2, ev⟩ => ?_
  subst ev
  obtain ⟨pt, hpt⟩ : ∃ pt, pt = max (wrapM 11 pt0) 0 := ⟨_, rfl⟩
  have p0 : 0 ≤ pt := by omega
  have p1 : pt ≤ 2147483647 := by rw [hpt, w11]; omega
  (try simp -dsimp (disch := omega) only [↓pre, sp, sp2, wp_some, Int.cast_ofNat_Int, Nat.reduceAdd, Nat.reduceMul, Nat.reduceSub, Nat.reduceLeDiff, Nat.reduceEqDiff, Nat.reducePow, Int.reduceToNat, Int.reducePow, Int.reduceAdd, Int.reduceSub, Int.reduceMul, Int.reduceLT, Int.reduceLE, Int.reduceEq, Int.reduceNeg])
  rw [← hpt]
  clear hpt
  have ptI : I64 pt := by unfold I64; omega
  have xI : I64s [1, pt] := fun z hz => by
    simp only [List.mem_cons, List.not_mem_nil, or_false] at hz
    rcases hz with rfl | rfl
    · exact tr_I true
    · exact ptI
  refine wp_nums K2.w' [1, pt] rfl rfl (by omega) fun q3 h3 e3 K3 n3 o3 => ?_
  have k13 : Kp h h3 := (K1.trans K2).trans K3
  have t0 := tr_I false
  (try simp -dsimp (disch := omega) only [↓pre, sp, sp2, wp_some, Int.cast_ofNat_Int, Nat.reduceAdd, Nat.reduceMul, Nat.reduceSub, Nat.reduceLeDiff, Nat.reduceEqDiff, Nat.reducePow, Int.reduceToNat, Int.reducePow, Int.reduceAdd, Int.reduceSub, Int.reduceMul, Int.reduceLT, Int.reduceLE, Int.reduceEq, Int.reduceNeg])
  have s1 := stepB_spec H (n + 1) K3.w' (tb.ke k13) .ton (now := 0) (k0 := 0) (k1 := 0) (k2 := 0) o3.si (Sz.nil h3 1 (by omega) .rw) (by simp) (by decide) xI nil_I t0 t0 t0 t0
  refine Wp.bind s1 fun v h4 ⟨K4, u, ev, ou, fu⟩ => ?_
  subst ev
  have uI := ref_I .ton [1, pt] [] 0 0 0 0
  have ul := ref_len .ton [1, pt] [] 0 0 0 0
  obtain ⟨r0, r1, r2⟩ := ever_0 p0 p1
  generalize refM .ton [1, pt] [] 0 0 0 0 = T at *
  (try simp -dsimp (disch := omega) only [↓pre, sp, sp2, wp_some, Int.cast_ofNat_Int, Nat.reduceAdd, Nat.reduceMul, Nat.reduceSub, Nat.reduceLeDiff, Nat.reduceEqDiff, Nat.reducePow, Int.reduceToNat, Int.reducePow, Int.reduceAdd, Int.reduceSub, Int.reduceMul, Int.reduceLT, Int.reduceLE, Int.reduceEq, Int.reduceNeg])
  refine wp_kbox K4.w' fun q h5 e5 K5 n5 b5 => ?_
  (try simp -dsimp (disch := omega) only [↓pre, sp, sp2, wp_some, Int.cast_ofNat_Int, Nat.reduceAdd, Nat.reduceMul, Nat.reduceSub, Nat.reduceLeDiff, Nat.reduceEqDiff, Nat.reducePow, Int.reduceToNat, Int.reducePow, Int.reduceAdd, Int.reduceSub, Int.reduceMul, Int.reduceLT, Int.reduceLE, Int.reduceEq, Int.reduceNeg])
  refine wp_kb K5.w' b5 T fun h6 K6 n6 b6 => ?_
  (try simp -dsimp (disch := omega) only [↓pre, sp, sp2, wp_some, Int.cast_ofNat_Int, Nat.reduceAdd, Nat.reduceMul, Nat.reduceSub, Nat.reduceLeDiff, Nat.reduceEqDiff, Nat.reducePow, Int.reduceToNat, Int.reducePow, Int.reduceAdd, Int.reduceSub, Int.reduceMul, Int.reduceLT, Int.reduceLE, Int.reduceEq, Int.reduceNeg])
  have nq : ¬ isBk u q := fun hi => by have := ow_lt ou K4.w' hi; omega
  have s0 : Lo h6 u q T := ⟨(oik ou K5).ke K6 fun i hi e => by subst e; exact nq hi, nq, b6, uI, by rw [ul]; decide⟩
  have hqn : h.n ≤ q := by have := k13.n; have := K4.n; omega
  have k06 : Kp h h6 := Ke.new_p ((k13.trans K4).trans K5) K6 fun i hi => by omega
  refine wp_loop (EvI h pt us.length q) us.length (by omega) ⟨0, u, T, decide (pt = 0), 0, rfl, by omega, k06, s0, r0, r1, r2, by omega, by omega⟩ ?_
  clear r0 r1 r2
  rintro m _ g0 j ⟨i, vo, t, b, g, rfl, him, kg, s, r0, r1, r2, hg0, hg1⟩ hj
  unfold L_runglaw17_FbEver_0
  have x0 := hx.kp kg
  (try simp -dsimp (disch := omega) only [↓pre, sp, sp2, wp_some, Int.cast_ofNat_Int, Nat.reduceAdd, Nat.reduceMul, Nat.reduceSub, Nat.reduceLeDiff, Nat.reduceEqDiff, Nat.reducePow, Int.reduceToNat, Int.reducePow, Int.reduceAdd, Int.reduceSub, Int.reduceMul, Int.reduceLT, Int.reduceLE, Int.reduceEq, Int.reduceNeg, x0.len])
  refine wp_ite (fun c => ?_) (fun c => ?_)
  · have hiN : i < us.length := by omega
    have ei : IntKind.wrap .i64 ((i : Int) + 1) = ((i + 1 : Nat) : Int) := by rw [wr_i64 (by omega) (by omega)]; omega
    have el : rLoad (ea x i) g0 = some (.int .u32 (us.getD i 0)) := by rw [x0.ld (by simpa using hiN)]; simp [hiN]
    have hz := hu (us.getD i 0) (by simp [hiN])
    generalize us.getD i 0 = z at *
    have er : rBin .rem .no true (.int .u32 z) (.int .u32 2147483648) = some (.int .u32 (z % 2147483648)) := by
      rw [rBin_rem _ _ _ _ _ (by omega), Int.tmod_eq_emod_of_nonneg hz.1]
    have hr0 : 0 ≤ z % 2147483648 ∧ z % 2147483648 < 2147483648 := by omega
    generalize z % 2147483648 = d at *
    have ec : rConvI .i64 (.int .u32 d) = some (.int .i64 d) := by
      show some (AVal.int .i64 (IntKind.wrap .i64 d)) = _
      rw [wr_i64 (by omega) (by omega)]
    have eg : IntKind.wrap .i64 (g + d) = g + d := wr_i64 (by omega) (by omega)
    (try simp -dsimp (disch := omega) only [↓pre, sp, sp2, wp_some, Int.cast_ofNat_Int, Nat.reduceAdd, Nat.reduceMul, Nat.reduceSub, Nat.reduceLeDiff, Nat.reduceEqDiff, Nat.reducePow, Int.reduceToNat, Int.reducePow, Int.reduceAdd, Int.reduceSub, Int.reduceMul, Int.reduceLT, Int.reduceLE, Int.reduceEq, Int.reduceNeg, x0.at, el, er, ec, eg])
    have hg' : 0 ≤ g + d ∧ g + d ≤ ((i + 1 : Nat) : Int) * 2147483648 := by omega
    generalize g + d = G at *
    refine wp_kT (.bool (decide (2147483647 < G) && !b)) (fun j3 hj3 => ?_) ?_
    · by_cases c1 : 2147483647 < G
      · rw [decide_eq_true c1] at hj3
        (try simp -dsimp (disch := omega) only [↓pre, sp, sp2, wp_some, Int.cast_ofNat_Int, Nat.reduceAdd, Nat.reduceMul, Nat.reduceSub, Nat.reduceLeDiff, Nat.reduceEqDiff, Nat.reducePow, Int.reduceToNat, Int.reducePow, Int.reduceAdd, Int.reduceSub, Int.reduceMul, Int.reduceLT, Int.reduceLE, Int.reduceEq, Int.reduceNeg, c1]); exact hj3
      · rw [decide_eq_false c1] at hj3
        (try simp -dsimp (disch := omega) only [↓pre, sp, sp2, wp_some, Int.cast_ofNat_Int, Nat.reduceAdd, Nat.reduceMul, Nat.reduceSub, Nat.reduceLeDiff, Nat.reduceEqDiff, Nat.reducePow, Int.reduceToNat, Int.reducePow, Int.reduceAdd, Int.reduceSub, Int.reduceMul, Int.reduceLT, Int.reduceLE, Int.reduceEq, Int.reduceNeg, c1]); exact hj3
    refine wp_kIf (fun c1 => ?_) (fun c1 => ?_)
    · (try simp -dsimp (disch := omega) only [↓pre, sp, sp2, wp_some, Int.cast_ofNat_Int, Nat.reduceAdd, Nat.reduceMul, Nat.reduceSub, Nat.reduceLeDiff, Nat.reduceEqDiff, Nat.reducePow, Int.reduceToNat, Int.reducePow, Int.reduceAdd, Int.reduceSub, Int.reduceMul, Int.reduceLT, Int.reduceLE, Int.reduceEq, Int.reduceNeg])
    have hq : b = false → G ≤ 2147483647 := by
      intro hb
      rw [hb] at c1
      simp only [Bool.not_false, Bool.and_true, decide_eq_false_iff_not, Int.not_lt] at c1
      exact c1
    (try simp -dsimp (disch := omega) only [↓pre, sp, sp2, wp_some, Int.cast_ofNat_Int, Nat.reduceAdd, Nat.reduceMul, Nat.reduceSub, Nat.reduceLeDiff, Nat.reduceEqDiff, Nat.reducePow, Int.reduceToNat, Int.reducePow, Int.reduceAdd, Int.reduceSub, Int.reduceMul, Int.reduceLT, Int.reduceLE, Int.reduceEq, Int.reduceNeg])
    obtain ⟨b', hb'⟩ : ∃ b', b' = (b || decide (G ≥ pt)) := ⟨_, rfl⟩
    refine wp_kT (.bool b') (fun j3 hj3 => ?_) ?_
    · rw [hb'] at hj3
      clear hb' hq c1 r2
      cases b
      · (try simp -dsimp (disch := omega) only [↓pre, sp, sp2, wp_some, Int.cast_ofNat_Int, Nat.reduceAdd, Nat.reduceMul, Nat.reduceSub, Nat.reduceLeDiff, Nat.reduceEqDiff, Nat.reducePow, Int.reduceToNat, Int.reducePow, Int.reduceAdd, Int.reduceSub, Int.reduceMul, Int.reduceLT, Int.reduceLE, Int.reduceEq, Int.reduceNeg]); exact hj3
      · (try simp -dsimp (disch := omega) only [↓pre, sp, sp2, wp_some, Int.cast_ofNat_Int, Nat.reduceAdd, Nat.reduceMul, Nat.reduceSub, Nat.reduceLeDiff, Nat.reduceEqDiff, Nat.reducePow, Int.reduceToNat, Int.reducePow, Int.reduceAdd, Int.reduceSub, Int.reduceMul, Int.reduceLT, Int.reduceLE, Int.reduceEq, Int.reduceNeg]); exact hj3
    (try simp -dsimp (disch := omega) only [↓pre, sp, sp2, wp_some, Int.cast_ofNat_Int, Nat.reduceAdd, Nat.reduceMul, Nat.reduceSub, Nat.reduceLeDiff, Nat.reduceEqDiff, Nat.reducePow, Int.reduceToNat, Int.reducePow, Int.reduceAdd, Int.reduceSub, Int.reduceMul, Int.reduceLT, Int.reduceLE, Int.reduceEq, Int.reduceNeg])
    refine wp_nums kg.w' [1, pt] rfl rfl (by omega) fun qi g1 ei1 KG1 ng1 oi => ?_
    have s1 := s.kp KG1
    have kh1 : Kp h g1 := kg.trans KG1
    have GI : I64 G := by unfold I64; omega
    obtain ⟨p1', p2, p3, p4⟩ := ever_eq b t.out p0 p1 hg'.1 hq r0 r1 r2
    rw [← hb'] at p1' p4
    (try simp -dsimp (disch := omega) only [↓pre, sp, sp2, wp_some, Int.cast_ofNat_Int, Nat.reduceAdd, Nat.reduceMul, Nat.reduceSub, Nat.reduceLeDiff, Nat.reduceEqDiff, Nat.reducePow, Int.reduceToNat, Int.reducePow, Int.reduceAdd, Int.reduceSub, Int.reduceMul, Int.reduceLT, Int.reduceLE, Int.reduceEq, Int.reduceNeg, s1.k.ldd])
    refine Wp.bind (stepB_spec H (n + 1) kh1.w' (tb.ke kh1) .ton (now := G) oi.si s1.o.si (by simp) (by have := s1.l; omega) xI s1.I.o s1.I.k0 s1.I.k1 s1.I.k2 GI) fun v g2 ⟨KG2, u, ev, ou, fu⟩ => ?_
    subst ev
    have uI := ref_I .ton [1, pt] t.out t.k0 t.k1 t.k2 G
    generalize refM .ton [1, pt] t.out t.k0 t.k1 t.k2 G = T at *
    (try simp -dsimp (disch := omega) only [↓pre, sp, sp2, wp_some, Int.cast_ofNat_Int, Nat.reduceAdd, Nat.reduceMul, Nat.reduceSub, Nat.reduceLeDiff, Nat.reduceEqDiff, Nat.reducePow, Int.reduceToNat, Int.reducePow, Int.reduceAdd, Int.reduceSub, Int.reduceMul, Int.reduceLT, Int.reduceLE, Int.reduceEq, Int.reduceNeg])
    refine wp_lo s1 ⟨KG2, u, rfl, ou, fu⟩ uI (by rw [p1']; simp) fun g3 c3 M => ?_
    have k3' := c3.kp kh1 hqn
    have oM : Oi g3 u [tr b', if b' = true then pt else G] := tr_out M.o p1'
    have sM : Sz g3 u 1 2 (i64s [tr b', if b' = true then pt else G]) .rw := oM.si
    have d0 : rLoad (ea u 0) g3 = some (.int .i64 (tr b')) := oM.si.ldI (by simp)
    have d1 : rLoad (ea u 1) g3 = some (.int .i64 (if b' = true then pt else G)) := oM.si.ldI (by simp)
    (try simp -dsimp (disch := omega) only [↓pre, sp, sp2, wp_some, Int.cast_ofNat_Int, Nat.reduceAdd, Nat.reduceMul, Nat.reduceSub, Nat.reduceLeDiff, Nat.reduceEqDiff, Nat.reducePow, Int.reduceToNat, Int.reducePow, Int.reduceAdd, Int.reduceSub, Int.reduceMul, Int.reduceLT, Int.reduceLE, Int.reduceEq, Int.reduceNeg, sM.len])
    refine wp_kT (.bool false) (fun j3 hj3 => ?_) ?_
    · clear hb' p1' p4 oM hj
      have sMa : ∀ (i : Int), 0 ≤ i → i < 2 → rAt 1 u (.int .i64 i) = some (ea u (i.toNat * 1)) := fun i h0 h1 => sM.at h0 (by omega)
      clear sM M
      (try simp -dsimp (disch := omega) only [↓pre, sp, sp2, wp_some, Int.cast_ofNat_Int, Nat.reduceAdd, Nat.reduceMul, Nat.reduceSub, Nat.reduceLeDiff, Nat.reduceEqDiff, Nat.reducePow, Int.reduceToNat, Int.reducePow, Int.reduceAdd, Int.reduceSub, Int.reduceMul, Int.reduceLT, Int.reduceLE, Int.reduceEq, Int.reduceNeg, sMa, d0, tr_dec, beq_no])
      cases b'
      · simp only [Bool.false_eq_true, if_false] at d1
        (try simp -dsimp (disch := omega) only [↓pre, sp, sp2, wp_some, Int.cast_ofNat_Int, Nat.reduceAdd, Nat.reduceMul, Nat.reduceSub, Nat.reduceLeDiff, Nat.reduceEqDiff, Nat.reducePow, Int.reduceToNat, Int.reducePow, Int.reduceAdd, Int.reduceSub, Int.reduceMul, Int.reduceLT, Int.reduceLE, Int.reduceEq, Int.reduceNeg, sMa, d1, not_true, decide_false])
        exact hj3
      · simp only [if_true] at d1
        (try simp -dsimp (disch := omega) only [↓pre, sp, sp2, wp_some, Int.cast_ofNat_Int, Nat.reduceAdd, Nat.reduceMul, Nat.reduceSub, Nat.reduceLeDiff, Nat.reduceEqDiff, Nat.reducePow, Int.reduceToNat, Int.reducePow, Int.reduceAdd, Int.reduceSub, Int.reduceMul, Int.reduceLT, Int.reduceLE, Int.reduceEq, Int.reduceNeg, sMa, d1, not_true, decide_false])
        exact hj3
    (try simp -dsimp (disch := omega) only [↓pre, sp, sp2, wp_some, Int.cast_ofNat_Int, Nat.reduceAdd, Nat.reduceMul, Nat.reduceSub, Nat.reduceLeDiff, Nat.reduceEqDiff, Nat.reducePow, Int.reduceToNat, Int.reducePow, Int.reduceAdd, Int.reduceSub, Int.reduceMul, Int.reduceLT, Int.reduceLE, Int.reduceEq, Int.reduceNeg, ei])
    exact hj (m - 1) _ _ (by omega) ⟨i + 1, u, T, b', G, rfl, by omega, k3', M, p2, p3, p4, hg'.1, hg'.2⟩
  · (try simp -dsimp (disch := omega) only [↓pre, sp, sp2, wp_some, Int.cast_ofNat_Int, Nat.reduceAdd, Nat.reduceMul, Nat.reduceSub, Nat.reduceLeDiff, Nat.reduceEqDiff, Nat.reducePow, Int.reduceToNat, Int.reducePow, Int.reduceAdd, Int.reduceSub, Int.reduceMul, Int.reduceLT, Int.reduceLE, Int.reduceEq, Int.reduceNeg])
end Go.Proofs.YtindiedfioiejaaDoor.AI
