/- Chapter 17: latches and edges. -/
import Derived.Test.YtindiedfioiejaaDoorFh
namespace Go.Proofs.YtindiedfioiejaaDoor.AI
open Go
set_option linter.unusedSimpArgs false
set_option linter.unusedVariables false
variable {ov : AOver} {h : AH}
theorem lat_sr (x y s : Bool) {o : List Int} (k0 k1 k2 now : Int) (e : gi o 0 = tr s) : (refM .sr [tr x, tr y] o k0 k1 k2 now).out = [tr (x || s && !y)] := by
  have h0 : decide (gi [tr x, tr y] 0 ≠ 0) = x := tr_ne x
  have h1 : decide (gi [tr x, tr y] 1 ≠ 0) = y := tr_ne y
  simp only [refM, h0, h1, ne_of e]
theorem lat_rs (x y s : Bool) {o : List Int} (k0 k1 k2 now : Int) (e : gi o 0 = tr s) : (refM .rs [tr x, tr y] o k0 k1 k2 now).out = [tr (!y && (x || s))] := by
  have h0 : decide (gi [tr x, tr y] 0 ≠ 0) = x := tr_ne x
  have h1 : decide (gi [tr x, tr y] 1 ≠ 0) = y := tr_ne y
  simp only [refM, h0, h1, ne_of e]
theorem lat_rt (x s : Bool) (o : List Int) {k0 : Int} (k1 k2 now : Int) (e : wrapM 4 k0 = tr s) : (refM .rt [tr x] o k0 k1 k2 now).out = [tr (x && !s)] ∧ wrapM 4 (refM .rt [tr x] o k0 k1 k2 now).k0 = tr x := by
  have h0 : decide (gi [tr x] 0 ≠ 0) = x := tr_ne x
  simp only [refM, h0, (wz e).1, w4_tr, and_self]
theorem lat_ft (x s : Bool) (o : List Int) {k0 : Int} (k1 k2 now : Int) (e : wrapM 4 k0 = tr s) : (refM .ft [tr x] o k0 k1 k2 now).out = [tr (!x && s)] ∧ wrapM 4 (refM .ft [tr x] o k0 k1 k2 now).k0 = tr x := by
  have h0 : decide (gi [tr x] 0 ≠ 0) = x := tr_ne x
  simp only [refM, h0, (wz e).2, w4_tr, and_self]
/-- What holds at the head of the loop. -/
def LatI (h : AH) (B N q1 q2 q3 q4 : Nat) (m : Nat) (l : List AVal) (h5 : AH) : Prop :=
  ∃ (i : Nat) (v1 v2 v3 v4 : AVal) (t1 t2 t3 t4 : Told) (s r was : Bool), l = [v1, v2, v3, v4, .bool s, .bool r, .bool was, .int .i64 i] ∧ i + m = N ∧ Kp h h5 ∧ B ≤ h5.n ∧
    Lf h5 B v1 q1 t1 ∧ Lf h5 B v2 q2 t2 ∧ Lf h5 B v3 q3 t3 ∧ Lf h5 B v4 q4 t4 ∧ gi t1.out 0 = tr s ∧ gi t2.out 0 = tr r ∧ wrapM 4 t3.k0 = tr was ∧ wrapM 4 t4.k0 = tr was
theorem fbLatches (H : Plain ov) (hov : ov N_runglaw17_known = none) (n : Nat) (w : Wf h) (tb : Tb h) {x : AVal} {N : Nat} {f : Nat → Nat → Bool} (hx : Bt h x 2 N f) :
    Wp (kc ov (n + 8) N_runglaw17_FbLatches [x] h) fun r _ => r = .bool true := by
  rw [C_runglaw17_FbLatches H]; unfold F_runglaw17_FbLatches
  (try simp -dsimp (disch := omega) only [↓pre, sp, sp2, wp_some, Int.cast_ofNat_Int, Nat.reduceAdd, Nat.reduceMul, Nat.reduceSub, Nat.reduceLeDiff, Nat.reduceEqDiff, Nat.reducePow, Int.reduceToNat, Int.reducePow, Int.reduceAdd, Int.reduceSub, Int.reduceMul, Int.reduceLT, Int.reduceLE, Int.reduceEq, Int.reduceNeg])
  refine Wp.bind (known_spec H hov n w tb) fun v h1 ⟨K1, ev⟩ => ?_
  subst ev
  (try simp -dsimp (disch := omega) only [↓pre, sp, sp2, wp_some, Int.cast_ofNat_Int, Nat.reduceAdd, Nat.reduceMul, Nat.reduceSub, Nat.reduceLeDiff, Nat.reduceEqDiff, Nat.reducePow, Int.reduceToNat, Int.reducePow, Int.reduceAdd, Int.reduceSub, Int.reduceMul, Int.reduceLT, Int.reduceLE, Int.reduceEq, Int.reduceNeg, hx.len])
  refine wp_ite (fun c => ?_) (fun c => ?_)
  · (try simp -dsimp (disch := omega) only [↓pre, sp, sp2, wp_some, Int.cast_ofNat_Int, Nat.reduceAdd, Nat.reduceMul, Nat.reduceSub, Nat.reduceLeDiff, Nat.reduceEqDiff, Nat.reducePow, Int.reduceToNat, Int.reducePow, Int.reduceAdd, Int.reduceSub, Int.reduceMul, Int.reduceLT, Int.reduceLE, Int.reduceEq, Int.reduceNeg])
  refine wp_kbox K1.w' fun q1 h2 e2 K2 n2 b2 => ?_
  refine wp_kbox K2.w' fun q2 h3 e3 K3 n3 b3 => ?_
  refine wp_kbox K3.w' fun q3 h4 e4 K4 n4 b4 => ?_
  refine wp_kbox K4.w' fun q4 h5 e5 K5 n5 b5 => ?_
  have k25 : Kp h2 h5 := (K3.trans K4).trans K5
  have k35 : Kp h3 h5 := K4.trans K5
  have k05 : Kp h h5 := (K1.trans K2).trans k25
  have hn0 := K1.n
  (try simp -dsimp (disch := omega) only [↓pre, sp, sp2, wp_some, Int.cast_ofNat_Int, Nat.reduceAdd, Nat.reduceMul, Nat.reduceSub, Nat.reduceLeDiff, Nat.reduceEqDiff, Nat.reducePow, Int.reduceToNat, Int.reducePow, Int.reduceAdd, Int.reduceSub, Int.reduceMul, Int.reduceLT, Int.reduceLE, Int.reduceEq, Int.reduceNeg])
  refine wp_loop (LatI h h5.n N q1 q2 q3 q4) N (by omega) ⟨0, _, _, _, _, noTold, noTold, noTold, noTold, false, false, false, rfl, by omega, k05, Nat.le_refl _, life0 (b2.kp k25) (by omega), life0 (b3.kp k35) (by omega), life0 (b4.kp K5) (by omega), life0 b5 (by omega), rfl, rfl, rfl, rfl⟩ ?_
  generalize hB : h5.n = B
  rintro m _ g0 j ⟨i, v1, v2, v3, v4, t1, t2, t3, t4, s, r, was, rfl, him, kg, hBg, L1, L2, L3, L4, a1, a2, a3, a4⟩ hj
  unfold L_runglaw17_FbLatches_1
  have x0 := hx.ke kg
  (try simp -dsimp (disch := omega) only [↓pre, sp, sp2, wp_some, Int.cast_ofNat_Int, Nat.reduceAdd, Nat.reduceMul, Nat.reduceSub, Nat.reduceLeDiff, Nat.reduceEqDiff, Nat.reducePow, Int.reduceToNat, Int.reducePow, Int.reduceAdd, Int.reduceSub, Int.reduceMul, Int.reduceLT, Int.reduceLE, Int.reduceEq, Int.reduceNeg, x0.len])
  refine wp_ite (fun c => ?_) (fun c => ?_)
  · have hiN : i < N := by omega
    have ei : IntKind.wrap .i64 ((i : Int) + 1) = ((i + 1 : Nat) : Int) := by rw [wr_i64 (by omega) (by omega)]; omega
    (try simp -dsimp (disch := omega) only [↓pre, sp, sp2, wp_some, Int.cast_ofNat_Int, Nat.reduceAdd, Nat.reduceMul, Nat.reduceSub, Nat.reduceLeDiff, Nat.reduceEqDiff, Nat.reducePow, Int.reduceToNat, Int.reducePow, Int.reduceAdd, Int.reduceSub, Int.reduceMul, Int.reduceLT, Int.reduceLE, Int.reduceEq, Int.reduceNeg])
    refine wp_nums kg.w' [0, 0] rfl rfl (by omega) fun qi g1 ei1 KG1 ng1 oi => ?_
    have hq1 := L1.q
    have hq2 := L2.q
    have hq3 := L3.q
    have hq4 := L4.q
    (try simp -dsimp (disch := omega) only [↓pre, sp, sp2, wp_some, Int.cast_ofNat_Int, Nat.reduceAdd, Nat.reduceMul, Nat.reduceSub, Nat.reduceLeDiff, Nat.reduceEqDiff, Nat.reducePow, Int.reduceToNat, Int.reducePow, Int.reduceAdd, Int.reduceSub, Int.reduceMul, Int.reduceLT, Int.reduceLE, Int.reduceEq, Int.reduceNeg])
    refine wp_loop (fun m l g2 => ∃ k : Nat, l = [.int .i64 k] ∧ k + m = 2 ∧ Ke (· = qi) g1 g2 ∧ Oi g2 (.slice (some (qi, 0, 1)) 2 2) (fillL (f i) 2 k [])) 2 (by omega) ⟨0, rfl, rfl, Ke.refl KG1.w', oi⟩ ?_
    rintro m2 _ g2 j2 ⟨k, rfl, hkm, KG2, o2⟩ hj2
    unfold L_runglaw17_FbLatches_0
    have x2 := (x0.ke KG1).ke KG2
    (try simp -dsimp (disch := omega) only [↓pre, sp, sp2, wp_some, Int.cast_ofNat_Int, Nat.reduceAdd, Nat.reduceMul, Nat.reduceSub, Nat.reduceLeDiff, Nat.reduceEqDiff, Nat.reducePow, Int.reduceToNat, Int.reducePow, Int.reduceAdd, Int.reduceSub, Int.reduceMul, Int.reduceLT, Int.reduceLE, Int.reduceEq, Int.reduceNeg])
    refine wp_ite (fun c2 => ?_) (fun c2 => ?_)
    · have hk : k < 2 := by omega
      have ek : IntKind.wrap .i64 ((k : Int) + 1) = ((k + 1 : Nat) : Int) := by rw [wr_i64 (by omega) (by omega)]; omega
      have eA : rAtArr 2 1 (ea x (i * 2)) (.int .i64 (k : Int)) = some (ea x (i * 2 + k)) := by
        rw [rAtArr_ea (by omega) (by omega)]; simp
      have el := x2.ld hiN hk
      have o2s : Sz g2 (.slice (some (qi, 0, 1)) 2 2) 1 2 (i64s (fillL (f i) 2 k [])) .rw := (Ow.rd o2).to rfl (by rw [fillL_len]; rfl)
      (try simp -dsimp (disch := omega) only [↓pre, sp, sp2, wp_some, Int.cast_ofNat_Int, Nat.reduceAdd, Nat.reduceMul, Nat.reduceSub, Nat.reduceLeDiff, Nat.reduceEqDiff, Nat.reducePow, Int.reduceToNat, Int.reducePow, Int.reduceAdd, Int.reduceSub, Int.reduceMul, Int.reduceLT, Int.reduceLE, Int.reduceEq, Int.reduceNeg, x2.at, eA, el])
      refine wp_kJ (fun l g3 => Ke (· = qi) g1 g3 ∧ Oi g3 (.slice (some (qi, 0, 1)) 2 2) (fillL (f i) 2 (k + 1) [])) (fun j3 hj3 => ?_) ?_
      · refine wp_kIf (fun cb => ?_) (fun cb => ?_)
        · (try simp -dsimp (disch := omega) only [↓pre, sp, sp2, wp_some, Int.cast_ofNat_Int, Nat.reduceAdd, Nat.reduceMul, Nat.reduceSub, Nat.reduceLeDiff, Nat.reduceEqDiff, Nat.reducePow, Int.reduceToNat, Int.reducePow, Int.reduceAdd, Int.reduceSub, Int.reduceMul, Int.reduceLT, Int.reduceLE, Int.reduceEq, Int.reduceNeg, o2s.at])
          refine wp_iset KG2.w' o2 (by rw [fillL_len]; omega) 1 fun g3 o3 KG3 n3 => ?_
          rw [fillL_set hk cb] at o3
          (try simp -dsimp (disch := omega) only [↓pre, sp, sp2, wp_some, Int.cast_ofNat_Int, Nat.reduceAdd, Nat.reduceMul, Nat.reduceSub, Nat.reduceLeDiff, Nat.reduceEqDiff, Nat.reducePow, Int.reduceToNat, Int.reducePow, Int.reduceAdd, Int.reduceSub, Int.reduceMul, Int.reduceLT, Int.reduceLE, Int.reduceEq, Int.reduceNeg])
          exact hj3 _ _ ⟨KG2.trans KG3, o3⟩
        · rw [fillL_no cb] at o2
          (try simp -dsimp (disch := omega) only [↓pre, sp, sp2, wp_some, Int.cast_ofNat_Int, Nat.reduceAdd, Nat.reduceMul, Nat.reduceSub, Nat.reduceLeDiff, Nat.reduceEqDiff, Nat.reducePow, Int.reduceToNat, Int.reducePow, Int.reduceAdd, Int.reduceSub, Int.reduceMul, Int.reduceLT, Int.reduceLE, Int.reduceEq, Int.reduceNeg])
          exact hj3 _ _ ⟨KG2, o2⟩
      · rintro l g3 ⟨KG3, o3⟩
        (try simp -dsimp (disch := omega) only [↓pre, sp, sp2, wp_some, Int.cast_ofNat_Int, Nat.reduceAdd, Nat.reduceMul, Nat.reduceSub, Nat.reduceLeDiff, Nat.reduceEqDiff, Nat.reducePow, Int.reduceToNat, Int.reducePow, Int.reduceAdd, Int.reduceSub, Int.reduceMul, Int.reduceLT, Int.reduceLE, Int.reduceEq, Int.reduceNeg, ek])
        exact hj2 (m2 - 1) _ _ (by omega) ⟨k + 1, rfl, by omega, KG3, o3⟩
    · have hk : k = 2 := by omega
      subst hk
      clear hj2
      have o2' : Oi g2 (.slice (some (qi, 0, 1)) 2 2) [tr (f i 0), tr (f i 1)] := tr_out o2 (by rw [fillL_all]; rfl)
      clear o2
      have kg02 : Kp g0 g2 := Ke.new_p KG1 KG2 fun i hi => by omega
      have kh2 : Kp h g2 := kg.trans kg02
      have xI : I64s [tr (f i 0), tr (f i 1)] := tr_I64s (f i) 2
      have zI := tr_I false
      have hBg2 : B ≤ g2.n := by have := kg02.n; omega
      generalize hvi : AVal.slice (some (qi, 0, 1)) 2 2 = vi at *
      have nvi : ∀ i, isBk vi i → i = qi := fun i hi => by rw [← hvi] at hi; exact hi
      have lf0 : ∀ {v q t}, Lf g0 B v q t → Lf g2 B v q t := fun l => l.kp kg02
      replace L1 := lf0 L1
      replace L2 := lf0 L2
      replace L3 := lf0 L3
      replace L4 := lf0 L4
      clear lf0
      (try simp -dsimp (disch := omega) only [↓pre, sp, sp2, wp_some, Int.cast_ofNat_Int, Nat.reduceAdd, Nat.reduceMul, Nat.reduceSub, Nat.reduceLeDiff, Nat.reduceEqDiff, Nat.reducePow, Int.reduceToNat, Int.reducePow, Int.reduceAdd, Int.reduceSub, Int.reduceMul, Int.reduceLT, Int.reduceLE, Int.reduceEq, Int.reduceNeg, L1.k.ldd])
      refine Wp.bind (stepB_spec H (n + 1) kh2.w' (tb.ke kh2) .sr (now := 0) o2'.si L1.o.si (by simp) (by have := L1.l; omega) xI L1.I.o L1.I.k0 L1.I.k1 L1.I.k2 zI) fun v g3 ⟨KG3, u1, ev, ou1, fu1⟩ => ?_
      subst ev
      (try simp -dsimp (disch := omega) only [↓pre, sp, sp2, wp_some, Int.cast_ofNat_Int, Nat.reduceAdd, Nat.reduceMul, Nat.reduceSub, Nat.reduceLeDiff, Nat.reduceEqDiff, Nat.reducePow, Int.reduceToNat, Int.reducePow, Int.reduceAdd, Int.reduceSub, Int.reduceMul, Int.reduceLT, Int.reduceLE, Int.reduceEq, Int.reduceNeg])
      refine wp_life L1 hBg2 ⟨KG3, u1, rfl, ou1, fu1⟩ (ref_I _ _ _ _ _ _ _) (by rw [ref_len]; decide) fun g4 c4 M1 => ?_
      have hB0 : h.n ≤ q1 ∧ h.n ≤ q2 ∧ h.n ≤ q3 ∧ h.n ≤ q4 := by omega
      have p1 := lat_sr (f i 0) (f i 1) s t1.k0 t1.k1 t1.k2 0 a1
      have k4 := c4.kp kh2 hB0.1
      have y4 := c4.oi o2' (fun i hi => by have := nvi i hi; omega)
      have B4 : B ≤ g4.n := by have := c4; obtain ⟨_, ka, kb, _⟩ := c4; have := ka.n; have := kb.n; omega
      replace L2 := c4.lf L2 hq1 (by omega)
      replace L3 := c4.lf L3 hq1 (by omega)
      replace L4 := c4.lf L4 hq1 (by omega)
      generalize refM .sr [tr (f i 0), tr (f i 1)] t1.out t1.k0 t1.k1 t1.k2 0 = T1 at *
      (try simp -dsimp (disch := omega) only [↓pre, sp, sp2, wp_some, Int.cast_ofNat_Int, Nat.reduceAdd, Nat.reduceMul, Nat.reduceSub, Nat.reduceLeDiff, Nat.reduceEqDiff, Nat.reducePow, Int.reduceToNat, Int.reducePow, Int.reduceAdd, Int.reduceSub, Int.reduceMul, Int.reduceLT, Int.reduceLE, Int.reduceEq, Int.reduceNeg, L2.k.ldd])
      refine Wp.bind (stepB_spec H (n + 1) c4.w (tb.ke k4) .rs (now := 0) y4.si L2.o.si (by simp) (by have := L2.l; omega) xI L2.I.o L2.I.k0 L2.I.k1 L2.I.k2 zI) fun v g5 ⟨KG5, u2, ev, ou2, fu2⟩ => ?_
      subst ev
      (try simp -dsimp (disch := omega) only [↓pre, sp, sp2, wp_some, Int.cast_ofNat_Int, Nat.reduceAdd, Nat.reduceMul, Nat.reduceSub, Nat.reduceLeDiff, Nat.reduceEqDiff, Nat.reducePow, Int.reduceToNat, Int.reducePow, Int.reduceAdd, Int.reduceSub, Int.reduceMul, Int.reduceLT, Int.reduceLE, Int.reduceEq, Int.reduceNeg])
      refine wp_life L2 B4 ⟨KG5, u2, rfl, ou2, fu2⟩ (ref_I _ _ _ _ _ _ _) (by rw [ref_len]; decide) fun g6 c6 M2 => ?_
      have p2 := lat_rs (f i 0) (f i 1) r t2.k0 t2.k1 t2.k2 0 a2
      have k6 := c6.kp k4 hB0.2.1
      have y6 := c6.oi y4 (fun i hi => by have := nvi i hi; omega)
      have B6 : B ≤ g6.n := by obtain ⟨_, ka, kb, _⟩ := c6; have := ka.n; have := kb.n; omega
      replace M1 := c6.lf M1 hq2 (by omega)
      replace L3 := c6.lf L3 hq2 (by omega)
      replace L4 := c6.lf L4 hq2 (by omega)
      generalize refM .rs [tr (f i 0), tr (f i 1)] t2.out t2.k0 t2.k1 t2.k2 0 = T2 at *
      obtain ⟨vc, ecut, scut, _⟩ := Sz.cutR y6.si (q := .i64) (b := 1) (by omega) (by simp)
      have xI1 : I64s [tr (f i 0)] := tr_I64s (f i) 1
      have sc6 : Si g6 vc [tr (f i 0)] .rw := scut
      (try simp -dsimp (disch := omega) only [↓pre, sp, sp2, wp_some, Int.cast_ofNat_Int, Nat.reduceAdd, Nat.reduceMul, Nat.reduceSub, Nat.reduceLeDiff, Nat.reduceEqDiff, Nat.reducePow, Int.reduceToNat, Int.reducePow, Int.reduceAdd, Int.reduceSub, Int.reduceMul, Int.reduceLT, Int.reduceLE, Int.reduceEq, Int.reduceNeg, ecut, L3.k.ldd])
      refine Wp.bind (stepB_spec H (n + 1) c6.w (tb.ke k6) .rt (now := 0) sc6 L3.o.si (by simp) (by have := L3.l; omega) xI1 L3.I.o L3.I.k0 L3.I.k1 L3.I.k2 zI) fun v g7 ⟨KG7, u3, ev, ou3, fu3⟩ => ?_
      subst ev
      (try simp -dsimp (disch := omega) only [↓pre, sp, sp2, wp_some, Int.cast_ofNat_Int, Nat.reduceAdd, Nat.reduceMul, Nat.reduceSub, Nat.reduceLeDiff, Nat.reduceEqDiff, Nat.reducePow, Int.reduceToNat, Int.reducePow, Int.reduceAdd, Int.reduceSub, Int.reduceMul, Int.reduceLT, Int.reduceLE, Int.reduceEq, Int.reduceNeg])
      refine wp_life L3 B6 ⟨KG7, u3, rfl, ou3, fu3⟩ (ref_I _ _ _ _ _ _ _) (by rw [ref_len]; decide) fun g8 c8 M3 => ?_
      obtain ⟨p3, r3⟩ := lat_rt (f i 0) was t3.out t3.k1 t3.k2 0 a3
      have k8 := c8.kp k6 hB0.2.2.1
      have y8 := c8.oi y6 (fun i hi => by have := nvi i hi; omega)
      have B8 : B ≤ g8.n := by obtain ⟨_, ka, kb, _⟩ := c8; have := ka.n; have := kb.n; omega
      replace M1 := c8.lf M1 hq3 (by omega)
      replace M2 := c8.lf M2 hq3 (by omega)
      replace L4 := c8.lf L4 hq3 (by omega)
      generalize refM .rt [tr (f i 0)] t3.out t3.k0 t3.k1 t3.k2 0 = T3 at *
      obtain ⟨vd, ecut', scut', _⟩ := Sz.cutR y8.si (q := .i64) (b := 1) (by omega) (by simp)
      have sc8 : Si g8 vd [tr (f i 0)] .rw := scut'
      (try simp -dsimp (disch := omega) only [↓pre, sp, sp2, wp_some, Int.cast_ofNat_Int, Nat.reduceAdd, Nat.reduceMul, Nat.reduceSub, Nat.reduceLeDiff, Nat.reduceEqDiff, Nat.reducePow, Int.reduceToNat, Int.reducePow, Int.reduceAdd, Int.reduceSub, Int.reduceMul, Int.reduceLT, Int.reduceLE, Int.reduceEq, Int.reduceNeg, ecut', L4.k.ldd])
      refine Wp.bind (stepB_spec H (n + 1) c8.w (tb.ke k8) .ft (now := 0) sc8 L4.o.si (by simp) (by have := L4.l; omega) xI1 L4.I.o L4.I.k0 L4.I.k1 L4.I.k2 zI) fun v g9 ⟨KG9, u4, ev, ou4, fu4⟩ => ?_
      subst ev
      (try simp -dsimp (disch := omega) only [↓pre, sp, sp2, wp_some, Int.cast_ofNat_Int, Nat.reduceAdd, Nat.reduceMul, Nat.reduceSub, Nat.reduceLeDiff, Nat.reduceEqDiff, Nat.reducePow, Int.reduceToNat, Int.reducePow, Int.reduceAdd, Int.reduceSub, Int.reduceMul, Int.reduceLT, Int.reduceLE, Int.reduceEq, Int.reduceNeg])
      refine wp_life L4 B8 ⟨KG9, u4, rfl, ou4, fu4⟩ (ref_I _ _ _ _ _ _ _) (by rw [ref_len]; decide) fun ga ca M4 => ?_
      obtain ⟨p4, r4⟩ := lat_ft (f i 0) was t4.out t4.k1 t4.k2 0 a4
      have ka := ca.kp k8 hB0.2.2.2
      have Ba : B ≤ ga.n := by obtain ⟨_, ka, kb, _⟩ := ca; have := ka.n; have := kb.n; omega
      replace M1 := ca.lf M1 hq4 (by omega)
      replace M2 := ca.lf M2 hq4 (by omega)
      replace M3 := ca.lf M3 hq4 (by omega)
      generalize refM .ft [tr (f i 0)] t4.out t4.k0 t4.k1 t4.k2 0 = T4 at *
      have xa := hx.ke ka
      have l0 := xa.ld hiN (show 0 < 2 by omega)
      have l1 := xa.ld hiN (show 1 < 2 by omega)
      have eA0 : rAtArr 2 1 (ea x (i * 2)) (.int .i64 0) = some (ea x (i * 2 + 0)) := rAtArr_ea (by omega) (by omega)
      have eA1 : rAtArr 2 1 (ea x (i * 2)) (.int .i64 1) = some (ea x (i * 2 + 1)) := rAtArr_ea (by omega) (by omega)
      have o1 : Oi ga u1 [tr (f i 0 || s && !f i 1)] := tr_out M1.o p1
      have o2 : Oi ga u2 [tr (!f i 1 && (f i 0 || r))] := tr_out M2.o p2
      have o3 : Oi ga u3 [tr (f i 0 && !was)] := tr_out M3.o p3
      have o4 : Oi ga u4 [tr (!f i 0 && was)] := tr_out M4.o p4
      have d1 : rLoad (ea u1 0) ga = some (.int .i64 (tr (f i 0 || s && !f i 1))) := o1.si.ldI (by simp)
      have d2 : rLoad (ea u2 0) ga = some (.int .i64 (tr (!f i 1 && (f i 0 || r)))) := o2.si.ldI (by simp)
      have d3 : rLoad (ea u3 0) ga = some (.int .i64 (tr (f i 0 && !was))) := o3.si.ldI (by simp)
      have d4 : rLoad (ea u4 0) ga = some (.int .i64 (tr (!f i 0 && was))) := o4.si.ldI (by simp)
      have g1 : gi T1.out 0 = tr (f i 0 || s && !f i 1) := by rw [p1]; rfl
      have g2' : gi T2.out 0 = tr (!f i 1 && (f i 0 || r)) := by rw [p2]; rfl
      (try simp -dsimp (disch := omega) only [↓pre, sp, sp2, wp_some, Int.cast_ofNat_Int, Nat.reduceAdd, Nat.reduceMul, Nat.reduceSub, Nat.reduceLeDiff, Nat.reduceEqDiff, Nat.reducePow, Int.reduceToNat, Int.reducePow, Int.reduceAdd, Int.reduceSub, Int.reduceMul, Int.reduceLT, Int.reduceLE, Int.reduceEq, Int.reduceNeg, xa.at, eA0, eA1, l0, l1])
      clear xa l0 l1
      refine wp_kT (.bool (f i 0 || s && !f i 1)) (fun j3 hj3 => ?_) ?_
      · clear hj p1 p2 p3 p4 r3 r4 o1 o2 o3 o4 d1 d2 d3 d4 g1 g2' ecut ecut' scut scut' sc6 sc8 xI xI1 o2' y4 y6 y8
        generalize f i 0 = X at *
        generalize f i 1 = Y at *
        cases X
        · cases s
          · (try simp -dsimp (disch := omega) only [↓pre, sp, sp2, wp_some, Int.cast_ofNat_Int, Nat.reduceAdd, Nat.reduceMul, Nat.reduceSub, Nat.reduceLeDiff, Nat.reduceEqDiff, Nat.reducePow, Int.reduceToNat, Int.reducePow, Int.reduceAdd, Int.reduceSub, Int.reduceMul, Int.reduceLT, Int.reduceLE, Int.reduceEq, Int.reduceNeg]); exact hj3
          · (try simp -dsimp (disch := omega) only [↓pre, sp, sp2, wp_some, Int.cast_ofNat_Int, Nat.reduceAdd, Nat.reduceMul, Nat.reduceSub, Nat.reduceLeDiff, Nat.reduceEqDiff, Nat.reducePow, Int.reduceToNat, Int.reducePow, Int.reduceAdd, Int.reduceSub, Int.reduceMul, Int.reduceLT, Int.reduceLE, Int.reduceEq, Int.reduceNeg]); exact hj3
        · (try simp -dsimp (disch := omega) only [↓pre, sp, sp2, wp_some, Int.cast_ofNat_Int, Nat.reduceAdd, Nat.reduceMul, Nat.reduceSub, Nat.reduceLeDiff, Nat.reduceEqDiff, Nat.reducePow, Int.reduceToNat, Int.reducePow, Int.reduceAdd, Int.reduceSub, Int.reduceMul, Int.reduceLT, Int.reduceLE, Int.reduceEq, Int.reduceNeg]); exact hj3
      (try simp -dsimp (disch := omega) only [↓pre, sp, sp2, wp_some, Int.cast_ofNat_Int, Nat.reduceAdd, Nat.reduceMul, Nat.reduceSub, Nat.reduceLeDiff, Nat.reduceEqDiff, Nat.reducePow, Int.reduceToNat, Int.reducePow, Int.reduceAdd, Int.reduceSub, Int.reduceMul, Int.reduceLT, Int.reduceLE, Int.reduceEq, Int.reduceNeg])
      refine wp_kT (.bool (!f i 1 && (f i 0 || r))) (fun j3 hj3 => ?_) ?_
      · clear hj p1 p2 p3 p4 r3 r4 o1 o2 o3 o4 d1 d2 d3 d4 g1 g2' ecut ecut' scut scut' sc6 sc8 xI xI1 o2' y4 y6 y8
        generalize f i 0 = X at *
        generalize f i 1 = Y at *
        cases Y
        · cases X
          · (try simp -dsimp (disch := omega) only [↓pre, sp, sp2, wp_some, Int.cast_ofNat_Int, Nat.reduceAdd, Nat.reduceMul, Nat.reduceSub, Nat.reduceLeDiff, Nat.reduceEqDiff, Nat.reducePow, Int.reduceToNat, Int.reducePow, Int.reduceAdd, Int.reduceSub, Int.reduceMul, Int.reduceLT, Int.reduceLE, Int.reduceEq, Int.reduceNeg]); exact hj3
          · (try simp -dsimp (disch := omega) only [↓pre, sp, sp2, wp_some, Int.cast_ofNat_Int, Nat.reduceAdd, Nat.reduceMul, Nat.reduceSub, Nat.reduceLeDiff, Nat.reduceEqDiff, Nat.reducePow, Int.reduceToNat, Int.reducePow, Int.reduceAdd, Int.reduceSub, Int.reduceMul, Int.reduceLT, Int.reduceLE, Int.reduceEq, Int.reduceNeg]); exact hj3
        · (try simp -dsimp (disch := omega) only [↓pre, sp, sp2, wp_some, Int.cast_ofNat_Int, Nat.reduceAdd, Nat.reduceMul, Nat.reduceSub, Nat.reduceLeDiff, Nat.reduceEqDiff, Nat.reducePow, Int.reduceToNat, Int.reducePow, Int.reduceAdd, Int.reduceSub, Int.reduceMul, Int.reduceLT, Int.reduceLE, Int.reduceEq, Int.reduceNeg]); exact hj3
      (try simp -dsimp (disch := omega) only [↓pre, sp, sp2, wp_some, Int.cast_ofNat_Int, Nat.reduceAdd, Nat.reduceMul, Nat.reduceSub, Nat.reduceLeDiff, Nat.reduceEqDiff, Nat.reducePow, Int.reduceToNat, Int.reducePow, Int.reduceAdd, Int.reduceSub, Int.reduceMul, Int.reduceLT, Int.reduceLE, Int.reduceEq, Int.reduceNeg, o1.si.len])
      refine wp_kT (.bool false) (fun j3 hj3 => ?_) ?_
      · have s1 : Sz ga u1 1 1 (i64s [tr (f i 0 || s && !f i 1)]) .rw := o1.si
        have s2 : Sz ga u2 1 1 (i64s [tr (!f i 1 && (f i 0 || r))]) .rw := o2.si
        have s3 : Sz ga u3 1 1 (i64s [tr (f i 0 && !was)]) .rw := o3.si
        have s4 : Sz ga u4 1 1 (i64s [tr (!f i 0 && was)]) .rw := o4.si
        (try simp -dsimp (disch := omega) only [↓pre, sp, sp2, wp_some, Int.cast_ofNat_Int, Nat.reduceAdd, Nat.reduceMul, Nat.reduceSub, Nat.reduceLeDiff, Nat.reduceEqDiff, Nat.reducePow, Int.reduceToNat, Int.reducePow, Int.reduceAdd, Int.reduceSub, Int.reduceMul, Int.reduceLT, Int.reduceLE, Int.reduceEq, Int.reduceNeg, s1.at, d1, tr_dec, ↓neq_same])
        (try simp -dsimp (disch := omega) only [↓pre, sp, sp2, wp_some, Int.cast_ofNat_Int, Nat.reduceAdd, Nat.reduceMul, Nat.reduceSub, Nat.reduceLeDiff, Nat.reduceEqDiff, Nat.reducePow, Int.reduceToNat, Int.reducePow, Int.reduceAdd, Int.reduceSub, Int.reduceMul, Int.reduceLT, Int.reduceLE, Int.reduceEq, Int.reduceNeg, s2.at, d2, tr_dec, ↓neq_same])
        (try simp -dsimp (disch := omega) only [↓pre, sp, sp2, wp_some, Int.cast_ofNat_Int, Nat.reduceAdd, Nat.reduceMul, Nat.reduceSub, Nat.reduceLeDiff, Nat.reduceEqDiff, Nat.reducePow, Int.reduceToNat, Int.reducePow, Int.reduceAdd, Int.reduceSub, Int.reduceMul, Int.reduceLT, Int.reduceLE, Int.reduceEq, Int.reduceNeg, s3.at, d3, tr_dec])
        clear s1 s2 s3 d1 d2 d3 hj p1 p2 p3 p4 r3 r4 o1 o2 o3 o4 g1 g2' ecut ecut' scut scut' sc6 sc8 xI xI1 o2' y4 y6 y8
        have s4a : ∀ (i : Int), 0 ≤ i → i < 1 → rAt 1 u4 (.int .i64 i) = some (ea u4 (i.toNat * 1)) := fun i h0 h1 => s4.at h0 (by omega)
        clear s4
        generalize f i 0 = X at *
        cases X
        · simp only [Bool.not_false, Bool.true_and] at d4
          (try simp -dsimp (disch := omega) only [↓pre, sp, sp2, wp_some, Int.cast_ofNat_Int, Nat.reduceAdd, Nat.reduceMul, Nat.reduceSub, Nat.reduceLeDiff, Nat.reduceEqDiff, Nat.reducePow, Int.reduceToNat, Int.reducePow, Int.reduceAdd, Int.reduceSub, Int.reduceMul, Int.reduceLT, Int.reduceLE, Int.reduceEq, Int.reduceNeg, Bool.false_and, beq_no, ↓neq_same, s4a, d4, tr_dec, Bool.not_false])
          exact hj3
        · simp only [Bool.not_true, Bool.false_and] at d4
          (try simp -dsimp (disch := omega) only [↓pre, sp, sp2, wp_some, Int.cast_ofNat_Int, Nat.reduceAdd, Nat.reduceMul, Nat.reduceSub, Nat.reduceLeDiff, Nat.reduceEqDiff, Nat.reducePow, Int.reduceToNat, Int.reducePow, Int.reduceAdd, Int.reduceSub, Int.reduceMul, Int.reduceLT, Int.reduceLE, Int.reduceEq, Int.reduceNeg, Bool.true_and, beq_no, ↓neq_same, s4a, d4, tr_dec, Bool.not_true])
          exact hj3
      (try simp -dsimp (disch := omega) only [↓pre, sp, sp2, wp_some, Int.cast_ofNat_Int, Nat.reduceAdd, Nat.reduceMul, Nat.reduceSub, Nat.reduceLeDiff, Nat.reduceEqDiff, Nat.reducePow, Int.reduceToNat, Int.reducePow, Int.reduceAdd, Int.reduceSub, Int.reduceMul, Int.reduceLT, Int.reduceLE, Int.reduceEq, Int.reduceNeg, ei])
      exact hj (m - 1) _ _ (by omega) ⟨i + 1, u1, u2, u3, u4, T1, T2, T3, T4, _, _, _, rfl, by omega, ka, Ba, M1, M2, M3, M4, g1, g2', r3, r4⟩
  · (try simp -dsimp (disch := omega) only [↓pre, sp, sp2, wp_some, Int.cast_ofNat_Int, Nat.reduceAdd, Nat.reduceMul, Nat.reduceSub, Nat.reduceLeDiff, Nat.reduceEqDiff, Nat.reducePow, Int.reduceToNat, Int.reducePow, Int.reduceAdd, Int.reduceSub, Int.reduceMul, Int.reduceLT, Int.reduceLE, Int.reduceEq, Int.reduceNeg])
end Go.Proofs.YtindiedfioiejaaDoor.AI
