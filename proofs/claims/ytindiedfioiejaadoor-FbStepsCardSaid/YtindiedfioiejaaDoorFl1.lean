/- Chapter 17: any block steps as the document says. -/
import Derived.Test.YtindiedfioiejaaDoorFk
namespace Go.Proofs.YtindiedfioiejaaDoor.AI
open Go
set_option linter.unusedSimpArgs false
set_option linter.unusedVariables false
variable {ov : AOver} {h : AH}
theorem bnames_spec (H : Plain ov) (n : Nat) (w : Wf h) : Wp (kc ov (n + 1) N_runglaw17_names [] h) fun r h' => Kp h h' ∧ Os h' r (allBl.map Bl.nm) := by
  rw [C_runglaw17_names H]; unfold F_runglaw17_names
  (try simp -dsimp (disch := omega) only [↓pre, sp, sp2, wp_some, Int.cast_ofNat_Int, Nat.reduceAdd, Nat.reduceMul, Nat.reduceSub, Nat.reduceLeDiff, Nat.reduceEqDiff, Nat.reducePow, Int.reduceToNat, Int.reducePow, Int.reduceAdd, Int.reduceSub, Int.reduceMul, Int.reduceLT, Int.reduceLE, Int.reduceEq, Int.reduceNeg])
  refine wp_buildSl (cs := strs (allBl.map Bl.nm)) w (by simp) rfl (strs_cells _) fun q h1 hq k1 n1 g1 => ?_
  (try simp -dsimp (disch := omega) only [↓pre, sp, sp2, wp_some, Int.cast_ofNat_Int, Nat.reduceAdd, Nat.reduceMul, Nat.reduceSub, Nat.reduceLeDiff, Nat.reduceEqDiff, Nat.reducePow, Int.reduceToNat, Int.reducePow, Int.reduceAdd, Int.reduceSub, Int.reduceMul, Int.reduceLT, Int.reduceLE, Int.reduceEq, Int.reduceNeg])
  exact ⟨k1, strs_new g1⟩
/-- The block of a place. -/
def blAt (i : Nat) : Bl := allBl.getD i .ton
theorem names_at {v : AVal} (o : Os h v (allBl.map Bl.nm)) {i : Nat} (hi : i < 10) : rLoad (ea v i) h = some (.str (blAt i).nm) := by
  rw [(Ow.rd o).ld (by rw [strs_len]; exact hi)]
  rcases (by omega : i = 0 ∨ i = 1 ∨ i = 2 ∨ i = 3 ∨ i = 4 ∨ i = 5 ∨ i = 6 ∨ i = 7 ∨ i = 8 ∨ i = 9) with rfl | rfl | rfl | rfl | rfl | rfl | rfl | rfl | rfl | rfl <;> rfl
theorem ref_small (nm : Nm) (li lo : List Int) (k0 k1 k2 now : Int) : (toldS nm li lo k0 k1 k2 now).out.length ≤ 100 := by
  unfold toldS
  cases e : bl? nm with
  | none => simp [noTold]
  | some b => simp only; rw [ref_len]; exact (bl_len b).2
theorem fbSteps (H : Plain ov) (hov : ov N_runglaw17_known = none) (n : Nat) (w : Wf h) (tb : Tb h) (blk : Nm) {which now k0 k1 k2 : Int} {x y : AVal} {li lo : List Int} {md md' : AMode}
    (hx : Si h x li md) (hy : Si h y lo md') (hw : I64 which) (hi : I64s li) (ho : I64s lo) (i0 : I64 k0) (i1 : I64 k1) (i2 : I64 k2) (hn : I64 now) :
    Wp (kc ov (n + 8) N_runglaw17_FbSteps [.str blk, .int .i64 which, x, .agg (k3 k0 k1 k2), y, .int .i64 now] h) fun r _ => r = .bool true := by
  rw [C_runglaw17_FbSteps H]; unfold F_runglaw17_FbSteps
  refine wp_box w rfl rfl fun q0 h1 e0 K1 n1 g0 => ?_
  have b0 : Kb h1 q0 ⟨[], k0, k1, k2⟩ := g0
  (try simp -dsimp (disch := omega) only [↓pre, sp, sp2, wp_some, Int.cast_ofNat_Int, Nat.reduceAdd, Nat.reduceMul, Nat.reduceSub, Nat.reduceLeDiff, Nat.reduceEqDiff, Nat.reducePow, Int.reduceToNat, Int.reducePow, Int.reduceAdd, Int.reduceSub, Int.reduceMul, Int.reduceLT, Int.reduceLE, Int.reduceEq, Int.reduceNeg])
  refine Wp.bind (known_spec H hov n K1.w' (tb.ke K1)) fun v h2 ⟨K2, ev⟩ => ?_
  subst ev
  have k02 : Kp h h2 := K1.trans K2
  (try simp -dsimp (disch := omega) only [↓pre, sp, sp2, wp_some, Int.cast_ofNat_Int, Nat.reduceAdd, Nat.reduceMul, Nat.reduceSub, Nat.reduceLeDiff, Nat.reduceEqDiff, Nat.reducePow, Int.reduceToNat, Int.reducePow, Int.reduceAdd, Int.reduceSub, Int.reduceMul, Int.reduceLT, Int.reduceLE, Int.reduceEq, Int.reduceNeg, sp5, hx.len, hy.len])
  refine wp_kT (.bool (decide (100 < blk.length) || decide (20 < li.length) || decide (20 < lo.length))) (fun j hj => ?_) ?_
  · by_cases c1 : 100 < blk.length
    · have c1' : (100 : Int) < blk.length := by omega
      rw [decide_eq_true c1] at hj
      (try simp -dsimp (disch := omega) only [↓pre, sp, sp2, wp_some, Int.cast_ofNat_Int, Nat.reduceAdd, Nat.reduceMul, Nat.reduceSub, Nat.reduceLeDiff, Nat.reduceEqDiff, Nat.reducePow, Int.reduceToNat, Int.reducePow, Int.reduceAdd, Int.reduceSub, Int.reduceMul, Int.reduceLT, Int.reduceLE, Int.reduceEq, Int.reduceNeg, c1']); exact hj
    · have c1' : ¬ (100 : Int) < blk.length := by omega
      rw [decide_eq_false c1] at hj
      by_cases c2 : 20 < li.length
      · have c2' : (20 : Int) < li.length := by omega
        rw [decide_eq_true c2] at hj
        (try simp -dsimp (disch := omega) only [↓pre, sp, sp2, wp_some, Int.cast_ofNat_Int, Nat.reduceAdd, Nat.reduceMul, Nat.reduceSub, Nat.reduceLeDiff, Nat.reduceEqDiff, Nat.reducePow, Int.reduceToNat, Int.reducePow, Int.reduceAdd, Int.reduceSub, Int.reduceMul, Int.reduceLT, Int.reduceLE, Int.reduceEq, Int.reduceNeg, c1', hx.len, c2']); exact hj
      · have c2' : ¬ (20 : Int) < li.length := by omega
        rw [decide_eq_false c2] at hj
        by_cases c3 : 20 < lo.length
        · have c3' : (20 : Int) < lo.length := by omega
          rw [decide_eq_true c3] at hj
          (try simp -dsimp (disch := omega) only [↓pre, sp, sp2, wp_some, Int.cast_ofNat_Int, Nat.reduceAdd, Nat.reduceMul, Nat.reduceSub, Nat.reduceLeDiff, Nat.reduceEqDiff, Nat.reducePow, Int.reduceToNat, Int.reducePow, Int.reduceAdd, Int.reduceSub, Int.reduceMul, Int.reduceLT, Int.reduceLE, Int.reduceEq, Int.reduceNeg, c1', hx.len, c2', hy.len, c3']); exact hj
        · have c3' : ¬ (20 : Int) < lo.length := by omega
          rw [decide_eq_false c3] at hj
          (try simp -dsimp (disch := omega) only [↓pre, sp, sp2, wp_some, Int.cast_ofNat_Int, Nat.reduceAdd, Nat.reduceMul, Nat.reduceSub, Nat.reduceLeDiff, Nat.reduceEqDiff, Nat.reducePow, Int.reduceToNat, Int.reducePow, Int.reduceAdd, Int.reduceSub, Int.reduceMul, Int.reduceLT, Int.reduceLE, Int.reduceEq, Int.reduceNeg, c1', hx.len, c2', hy.len, c3']); exact hj
  refine wp_kIf (fun c => ?_) (fun c => ?_)
  · (try simp -dsimp (disch := omega) only [↓pre, sp, sp2, wp_some, Int.cast_ofNat_Int, Nat.reduceAdd, Nat.reduceMul, Nat.reduceSub, Nat.reduceLeDiff, Nat.reduceEqDiff, Nat.reducePow, Int.reduceToNat, Int.reducePow, Int.reduceAdd, Int.reduceSub, Int.reduceMul, Int.reduceLT, Int.reduceLE, Int.reduceEq, Int.reduceNeg])
  simp only [Bool.or_eq_false_iff, decide_eq_false_iff_not, Nat.not_lt] at c
  obtain ⟨⟨c1, c2⟩, c3⟩ := c
  (try simp -dsimp (disch := omega) only [↓pre, sp, sp2, wp_some, Int.cast_ofNat_Int, Nat.reduceAdd, Nat.reduceMul, Nat.reduceSub, Nat.reduceLeDiff, Nat.reduceEqDiff, Nat.reducePow, Int.reduceToNat, Int.reducePow, Int.reduceAdd, Int.reduceSub, Int.reduceMul, Int.reduceLT, Int.reduceLE, Int.reduceEq, Int.reduceNeg])
  refine wp_loop (fun m l h3 => ∃ (i : Nat) (nm : Nm), l = [.str nm, .int .i64 i] ∧ i + m = 2 ∧ Kp h2 h3) 2 (by omega) ⟨0, blk, rfl, rfl, Ke.refl K2.w'⟩ ?_
  rintro m _ h3 j ⟨i, nm, rfl, him, K3⟩ hj
  unfold L_runglaw17_FbSteps_0
  (try simp -dsimp (disch := omega) only [↓pre, sp, sp2, wp_some, Int.cast_ofNat_Int, Nat.reduceAdd, Nat.reduceMul, Nat.reduceSub, Nat.reduceLeDiff, Nat.reduceEqDiff, Nat.reducePow, Int.reduceToNat, Int.reducePow, Int.reduceAdd, Int.reduceSub, Int.reduceMul, Int.reduceLT, Int.reduceLE, Int.reduceEq, Int.reduceNeg])
  refine wp_ite (fun c => ?_) (fun c => ?_)
  · have ei : IntKind.wrap .i64 ((i : Int) + 1) = ((i + 1 : Nat) : Int) := by rw [wr_i64 (by omega) (by omega)]; omega
    have k03 : Kp h h3 := k02.trans K3
    have b3 := (b0.kp K2).kp K3
    (try simp -dsimp (disch := omega) only [↓pre, sp, sp2, wp_some, Int.cast_ofNat_Int, Nat.reduceAdd, Nat.reduceMul, Nat.reduceSub, Nat.reduceLeDiff, Nat.reduceEqDiff, Nat.reducePow, Int.reduceToNat, Int.reducePow, Int.reduceAdd, Int.reduceSub, Int.reduceMul, Int.reduceLT, Int.reduceLE, Int.reduceEq, Int.reduceNeg])
    refine wp_append (e := T_int64) K3.w' (Ow.nil _ _ _ (by omega)) (hx.kp k03) (i64s_cells _) (by omega) (by omega) fun xa h4 o4 k4 f4 => ?_
    have K4 : Kp h3 h4 := k4.mono fun i hi => hi
    have o4' : Oi h4 xa li := o4.to (by simp) (by simp)
    have k04 : Kp h h4 := k03.trans K4
    (try simp -dsimp (disch := omega) only [↓pre, sp, sp2, wp_some, Int.cast_ofNat_Int, Nat.reduceAdd, Nat.reduceMul, Nat.reduceSub, Nat.reduceLeDiff, Nat.reduceEqDiff, Nat.reducePow, Int.reduceToNat, Int.reducePow, Int.reduceAdd, Int.reduceSub, Int.reduceMul, Int.reduceLT, Int.reduceLE, Int.reduceEq, Int.reduceNeg, (b3.kp K4).ld])
    refine Wp.bind (stepA_spec H (n + 1) K4.w' (tb.ke k04) nm o4'.si (hy.kp k04) (by omega) (by omega) hi ho i0 i1 i2 hn) fun v h5 ⟨K5, x5, ev, o5, f5⟩ => ?_
    subst ev
    have tI := told_I nm li lo k0 k1 k2 now
    have tl := ref_small nm li lo k0 k1 k2 now
    have rs := fun h' (k : Kp h h') => rstep_spec H n k.w' nm (sik hx k) (sik hy k) hi ho i0 i1 i2 hn
    generalize toldS nm li lo k0 k1 k2 now = t at *
    (try simp -dsimp (disch := omega) only [↓pre, sp, sp2, wp_some, Int.cast_ofNat_Int, Nat.reduceAdd, Nat.reduceMul, Nat.reduceSub, Nat.reduceLeDiff, Nat.reduceEqDiff, Nat.reducePow, Int.reduceToNat, Int.reducePow, Int.reduceAdd, Int.reduceSub, Int.reduceMul, Int.reduceLT, Int.reduceLE, Int.reduceEq, Int.reduceNeg])
    refine wp_kbox K5.w' fun q6 h6 e6 K6 n6 b6 => ?_
    (try simp -dsimp (disch := omega) only [↓pre, sp, sp2, wp_some, Int.cast_ofNat_Int, Nat.reduceAdd, Nat.reduceMul, Nat.reduceSub, Nat.reduceLeDiff, Nat.reduceEqDiff, Nat.reducePow, Int.reduceToNat, Int.reducePow, Int.reduceAdd, Int.reduceSub, Int.reduceMul, Int.reduceLT, Int.reduceLE, Int.reduceEq, Int.reduceNeg])
    refine wp_kb K6.w' b6 t fun h7 K7 n7 b7 => ?_
    have k57 : Kp h5 h7 := Ke.new_p K6 K7 fun i hi => by omega
    have k47 : Kp h4 h7 := K5.trans k57
    have k07 : Kp h h7 := k04.trans k47
    (try simp -dsimp (disch := omega) only [↓pre, sp, sp2, wp_some, Int.cast_ofNat_Int, Nat.reduceAdd, Nat.reduceMul, Nat.reduceSub, Nat.reduceLeDiff, Nat.reduceEqDiff, Nat.reducePow, Int.reduceToNat, Int.reducePow, Int.reduceAdd, Int.reduceSub, Int.reduceMul, Int.reduceLT, Int.reduceLE, Int.reduceEq, Int.reduceNeg, (b3.kp (K4.trans k47)).ld])
    refine Wp.bind (rs h7 k07) fun v h8 ⟨K8, x8, ev, o8, f8⟩ => ?_
    subst ev
    (try simp -dsimp (disch := omega) only [↓pre, sp, sp2, wp_some, Int.cast_ofNat_Int, Nat.reduceAdd, Nat.reduceMul, Nat.reduceSub, Nat.reduceLeDiff, Nat.reduceEqDiff, Nat.reducePow, Int.reduceToNat, Int.reducePow, Int.reduceAdd, Int.reduceSub, Int.reduceMul, Int.reduceLT, Int.reduceLE, Int.reduceEq, Int.reduceNeg])
    refine wp_kbox K8.w' fun q9 h9 e9 K9 n9 b9 => ?_
    (try simp -dsimp (disch := omega) only [↓pre, sp, sp2, wp_some, Int.cast_ofNat_Int, Nat.reduceAdd, Nat.reduceMul, Nat.reduceSub, Nat.reduceLeDiff, Nat.reduceEqDiff, Nat.reducePow, Int.reduceToNat, Int.reducePow, Int.reduceAdd, Int.reduceSub, Int.reduceMul, Int.reduceLT, Int.reduceLE, Int.reduceEq, Int.reduceNeg])
    refine wp_kb K9.w' b9 t fun h10 K10 n10 b10 => ?_
    have k8a : Kp h8 h10 := Ke.new_p K9 K10 fun i hi => by omega
    have k7a : Kp h7 h10 := K8.trans k8a
    have o5a : Oi h10 x5 t.out := oik o5 (k57.trans k7a)
    have o8a : Oi h10 x8 t.out := oik o8 k8a
    have e1 := nums_spec H (n + 6) o5a.si o8a.si (by omega)
    (try simp -dsimp (disch := omega) only [↓pre, sp, sp2, wp_some, Int.cast_ofNat_Int, Nat.reduceAdd, Nat.reduceMul, Nat.reduceSub, Nat.reduceLeDiff, Nat.reduceEqDiff, Nat.reducePow, Int.reduceToNat, Int.reducePow, Int.reduceAdd, Int.reduceSub, Int.reduceMul, Int.reduceLT, Int.reduceLE, Int.reduceEq, Int.reduceNeg, e1])
    have b7a := b7.kp k7a
    have o4a : Oi h10 xa li := oik o4' (k47.trans k7a)
    have k0a : Kp h h10 := k07.trans k7a
    have e2 := nums_spec H (n + 6) o4a.si (sik hx k0a) (by omega)
    refine wp_kTh (fun v h' => v = .bool false ∧ h' = h10) (fun j2 hj2 => ?_) ?_
    · (try simp -dsimp (disch := omega) only [↓pre, sp, sp2, wp_some, Int.cast_ofNat_Int, Nat.reduceAdd, Nat.reduceMul, Nat.reduceSub, Nat.reduceLeDiff, Nat.reduceEqDiff, Nat.reducePow, Int.reduceToNat, Int.reducePow, Int.reduceAdd, Int.reduceSub, Int.reduceMul, Int.reduceLT, Int.reduceLE, Int.reduceEq, Int.reduceNeg, b7a.ld, b10.ld, k3_neq, e2])
      exact hj2 _ _ ⟨rfl, rfl⟩
    · rintro _ h11 ⟨rfl, eh⟩
      subst eh
      (try simp -dsimp (disch := omega) only [↓pre, sp, sp2, wp_some, Int.cast_ofNat_Int, Nat.reduceAdd, Nat.reduceMul, Nat.reduceSub, Nat.reduceLeDiff, Nat.reduceEqDiff, Nat.reducePow, Int.reduceToNat, Int.reducePow, Int.reduceAdd, Int.reduceSub, Int.reduceMul, Int.reduceLT, Int.reduceLE, Int.reduceEq, Int.reduceNeg])
      refine Wp.bind (bnames_spec H (n + 6) k0a.w') fun v h12 ⟨K12, o12⟩ => ?_
      obtain ⟨pl, hpl, ep, _⟩ := place_spec (h := h12) H (n + 6) (k := which) (m := 10) hw (by omega) (by omega)
      have ep' : kc ov (n + 7) N_runghelp_Place [.int .i64 which, .int .i64 10] h12 = some (.int .i64 pl, h12) := ep
      have r12 : Sz h12 v 1 10 (strs (allBl.map Bl.nm)) .rw := Ow.rd o12
      (try simp -dsimp (disch := omega) only [↓pre, sp, sp2, wp_some, Int.cast_ofNat_Int, Nat.reduceAdd, Nat.reduceMul, Nat.reduceSub, Nat.reduceLeDiff, Nat.reduceEqDiff, Nat.reducePow, Int.reduceToNat, Int.reducePow, Int.reduceAdd, Int.reduceSub, Int.reduceMul, Int.reduceLT, Int.reduceLE, Int.reduceEq, Int.reduceNeg, ep', r12.at, names_at o12 hpl, ei])
      exact hj (m - 1) _ _ (by omega) ⟨i + 1, (blAt pl).nm, rfl, by omega, (K3.trans K4).trans ((k47.trans k7a).trans K12)⟩
  · (try simp -dsimp (disch := omega) only [↓pre, sp, sp2, wp_some, Int.cast_ofNat_Int, Nat.reduceAdd, Nat.reduceMul, Nat.reduceSub, Nat.reduceLeDiff, Nat.reduceEqDiff, Nat.reducePow, Int.reduceToNat, Int.reducePow, Int.reduceAdd, Int.reduceSub, Int.reduceMul, Int.reduceLT, Int.reduceLE, Int.reduceEq, Int.reduceNeg])
end Go.Proofs.YtindiedfioiejaaDoor.AI
