/- Chapter 17: a step hangs on what is handed in alone. -/
import Derived.Test.YtindiedfioiejaaDoorFh
namespace Go.Proofs.YtindiedfioiejaaDoor.AI
open Go
set_option linter.unusedSimpArgs false
set_option linter.unusedVariables false
variable {ov : AOver} {h : AH}
/-- The first ones, seven more. -/
def addN (i : Nat) (L : List Int) : List Int := (L.take i).map (fun x => IntKind.wrap .i64 (x + 7)) ++ L.drop i
theorem addN_len (i : Nat) (L : List Int) : (addN i L).length = L.length := by simp [addN]; omega
theorem addN_at {i : Nat} {L : List Int} (hi : i < L.length) : (addN i L).getD i 0 = L.getD i 0 := by
  have hl : ((L.take i).map fun x => IntKind.wrap .i64 (x + 7)).length = i := by simp; omega
  simp only [addN, List.getD_eq_getElem?_getD]
  rw [List.getElem?_append_right (by omega), hl, Nat.sub_self, List.getElem?_drop, Nat.add_zero]
theorem addN_set {i : Nat} {L : List Int} (hi : i < L.length) : (addN i L).set i (IntKind.wrap .i64 (L.getD i 0 + 7)) = addN (i + 1) L := by
  have hl : ((L.take i).map fun x => IntKind.wrap .i64 (x + 7)).length = i := by simp; omega
  unfold addN
  rw [List.set_append_right _ _ (by omega), hl, Nat.sub_self, List.drop_eq_getElem_cons hi, List.set_cons_zero, List.take_succ_eq_append_getElem hi]
  simp only [List.map_append, List.map_cons, List.map_nil, List.append_assoc, List.singleton_append, List.getD_eq_getElem?_getD, List.getElem?_eq_getElem hi, Option.getD_some]
theorem addN_all (L : List Int) {i : Nat} (hi : L.length ≤ i) : addN i L = L.map fun x => IntKind.wrap .i64 (x + 7) := by
  simp [addN, List.take_of_length_le hi, List.drop_of_length_le hi]
theorem fbApart (H : Plain ov) (hov : ov N_runglaw17_known = none) (n : Nat) (w : Wf h) (tb : Tb h) {which now k0 k1 k2 : Int} {x y : AVal} {li lo : List Int} {md md' : AMode}
    (hx : Si h x li md) (hy : Si h y lo md') (hw : I64 which) (hi : I64s li) (ho : I64s lo) (i0 : I64 k0) (i1 : I64 k1) (i2 : I64 k2) (hn : I64 now) :
    Wp (kc ov (n + 8) N_runglaw17_FbApart [.int .i64 which, x, .agg (k3 k0 k1 k2), y, .int .i64 now] h) fun r _ => r = .bool true := by
  rw [C_runglaw17_FbApart H]; unfold F_runglaw17_FbApart
  refine wp_box w rfl rfl fun q0 h1 e0 K1 n1 g0 => ?_
  have b0 : Kb h1 q0 ⟨[], k0, k1, k2⟩ := g0
  (try simp -dsimp (disch := omega) only [↓pre, sp, sp2, wp_some, Int.cast_ofNat_Int, Nat.reduceAdd, Nat.reduceMul, Nat.reduceSub, Nat.reduceLeDiff, Nat.reduceEqDiff, Nat.reducePow, Int.reduceToNat, Int.reducePow, Int.reduceAdd, Int.reduceSub, Int.reduceMul, Int.reduceLT, Int.reduceLE, Int.reduceEq, Int.reduceNeg])
  refine Wp.bind (known_spec H hov n K1.w' (tb.ke K1)) fun v h2 ⟨K2, ev⟩ => ?_
  subst ev
  have k02 : Kp h h2 := K1.trans K2
  (try simp -dsimp (disch := omega) only [↓pre, sp, sp2, wp_some, Int.cast_ofNat_Int, Nat.reduceAdd, Nat.reduceMul, Nat.reduceSub, Nat.reduceLeDiff, Nat.reduceEqDiff, Nat.reducePow, Int.reduceToNat, Int.reducePow, Int.reduceAdd, Int.reduceSub, Int.reduceMul, Int.reduceLT, Int.reduceLE, Int.reduceEq, Int.reduceNeg, sp5, hx.len, hy.len])
  refine wp_kT (.bool (decide (20 < li.length) || decide (20 < lo.length))) (fun j hj => ?_) ?_
  · by_cases c2 : 20 < li.length
    · have c2' : (20 : Int) < li.length := by omega
      rw [decide_eq_true c2] at hj
      (try simp -dsimp (disch := omega) only [↓pre, sp, sp2, wp_some, Int.cast_ofNat_Int, Nat.reduceAdd, Nat.reduceMul, Nat.reduceSub, Nat.reduceLeDiff, Nat.reduceEqDiff, Nat.reducePow, Int.reduceToNat, Int.reducePow, Int.reduceAdd, Int.reduceSub, Int.reduceMul, Int.reduceLT, Int.reduceLE, Int.reduceEq, Int.reduceNeg, hx.len, c2']); exact hj
    · have c2' : ¬ (20 : Int) < li.length := by omega
      rw [decide_eq_false c2] at hj
      by_cases c3 : 20 < lo.length
      · have c3' : (20 : Int) < lo.length := by omega
        rw [decide_eq_true c3] at hj
        (try simp -dsimp (disch := omega) only [↓pre, sp, sp2, wp_some, Int.cast_ofNat_Int, Nat.reduceAdd, Nat.reduceMul, Nat.reduceSub, Nat.reduceLeDiff, Nat.reduceEqDiff, Nat.reducePow, Int.reduceToNat, Int.reducePow, Int.reduceAdd, Int.reduceSub, Int.reduceMul, Int.reduceLT, Int.reduceLE, Int.reduceEq, Int.reduceNeg, hx.len, c2', hy.len, c3']); exact hj
      · have c3' : ¬ (20 : Int) < lo.length := by omega
        rw [decide_eq_false c3] at hj
        (try simp -dsimp (disch := omega) only [↓pre, sp, sp2, wp_some, Int.cast_ofNat_Int, Nat.reduceAdd, Nat.reduceMul, Nat.reduceSub, Nat.reduceLeDiff, Nat.reduceEqDiff, Nat.reducePow, Int.reduceToNat, Int.reducePow, Int.reduceAdd, Int.reduceSub, Int.reduceMul, Int.reduceLT, Int.reduceLE, Int.reduceEq, Int.reduceNeg, hx.len, c2', hy.len, c3']); exact hj
  refine wp_kIf (fun c => ?_) (fun c => ?_)
  · (try simp -dsimp (disch := omega) only [↓pre, sp, sp2, wp_some, Int.cast_ofNat_Int, Nat.reduceAdd, Nat.reduceMul, Nat.reduceSub, Nat.reduceLeDiff, Nat.reduceEqDiff, Nat.reducePow, Int.reduceToNat, Int.reducePow, Int.reduceAdd, Int.reduceSub, Int.reduceMul, Int.reduceLT, Int.reduceLE, Int.reduceEq, Int.reduceNeg])
  simp only [Bool.or_eq_false_iff, decide_eq_false_iff_not, Nat.not_lt] at c
  obtain ⟨c2, c3⟩ := c
  (try simp -dsimp (disch := omega) only [↓pre, sp, sp2, wp_some, Int.cast_ofNat_Int, Nat.reduceAdd, Nat.reduceMul, Nat.reduceSub, Nat.reduceLeDiff, Nat.reduceEqDiff, Nat.reducePow, Int.reduceToNat, Int.reducePow, Int.reduceAdd, Int.reduceSub, Int.reduceMul, Int.reduceLT, Int.reduceLE, Int.reduceEq, Int.reduceNeg])
  refine Wp.bind (bnames_spec H (n + 6) K2.w') fun v h3 ⟨K3, o3⟩ => ?_
  obtain ⟨pl, hpl, ep, _⟩ := place_spec (h := h3) H (n + 6) (k := which) (m := 10) hw (by omega) (by omega)
  have ep' : kc ov (n + 7) N_runghelp_Place [.int .i64 which, .int .i64 10] h3 = some (.int .i64 pl, h3) := ep
  have r3 : Sz h3 v 1 10 (strs (allBl.map Bl.nm)) .rw := Ow.rd o3
  (try simp -dsimp (disch := omega) only [↓pre, sp, sp2, wp_some, Int.cast_ofNat_Int, Nat.reduceAdd, Nat.reduceMul, Nat.reduceSub, Nat.reduceLeDiff, Nat.reduceEqDiff, Nat.reducePow, Int.reduceToNat, Int.reducePow, Int.reduceAdd, Int.reduceSub, Int.reduceMul, Int.reduceLT, Int.reduceLE, Int.reduceEq, Int.reduceNeg, ep', r3.at, names_at o3 hpl])
  generalize blAt pl = b
  have k03 : Kp h h3 := k02.trans K3
  have b3 := (b0.kp K2).kp K3
  refine wp_append (e := T_int64) K3.w' (Ow.nil _ _ _ (by omega)) (hx.kp k03) (i64s_cells _) (by omega) (by omega) fun xa h4 o4 k4 f4 => ?_
  have K4 : Kp h3 h4 := k4.mono fun i hi => hi
  have o4' : Oi h4 xa li := o4.to (by simp) (by simp)
  have k04 : Kp h h4 := k03.trans K4
  (try simp -dsimp (disch := omega) only [↓pre, sp, sp2, wp_some, Int.cast_ofNat_Int, Nat.reduceAdd, Nat.reduceMul, Nat.reduceSub, Nat.reduceLeDiff, Nat.reduceEqDiff, Nat.reducePow, Int.reduceToNat, Int.reducePow, Int.reduceAdd, Int.reduceSub, Int.reduceMul, Int.reduceLT, Int.reduceLE, Int.reduceEq, Int.reduceNeg])
  refine wp_append (e := T_int64) K4.w' (Ow.nil _ _ _ (by omega)) (hy.kp k04) (i64s_cells _) (by omega) (by omega) fun ya h5 o5 k5 f5 => ?_
  have K5 : Kp h4 h5 := k5.mono fun i hi => hi
  have o5' : Oi h5 ya lo := o5.to (by simp) (by simp)
  have o45 : Oi h5 xa li := oik o4' K5
  have k05 : Kp h h5 := k04.trans K5
  have k35 : Kp h3 h5 := K4.trans K5
  (try simp -dsimp (disch := omega) only [↓pre, sp, sp2, wp_some, Int.cast_ofNat_Int, Nat.reduceAdd, Nat.reduceMul, Nat.reduceSub, Nat.reduceLeDiff, Nat.reduceEqDiff, Nat.reducePow, Int.reduceToNat, Int.reducePow, Int.reduceAdd, Int.reduceSub, Int.reduceMul, Int.reduceLT, Int.reduceLE, Int.reduceEq, Int.reduceNeg, (b3.kp k35).ld])
  refine Wp.bind (stepB_spec H (n + 1) K5.w' (tb.ke k05) b o45.si o5'.si (by omega) (by omega) hi ho i0 i1 i2 hn) fun v h6 ⟨K6, xr, ev, o6, f6⟩ => ?_
  subst ev
  have tI := ref_I b li lo k0 k1 k2 now
  have tl := ref_len b li lo k0 k1 k2 now
  have tl' := (bl_len b).2
  have rs := fun h' (k : Kp h h') => stepB_spec H (n + 1) k.w' (tb.ke k) b (sik hx k) (sik hy k) (by omega) (by omega) hi ho i0 i1 i2 hn
  generalize refM b li lo k0 k1 k2 now = t at *
  (try simp -dsimp (disch := omega) only [↓pre, sp, sp2, wp_some, Int.cast_ofNat_Int, Nat.reduceAdd, Nat.reduceMul, Nat.reduceSub, Nat.reduceLeDiff, Nat.reduceEqDiff, Nat.reducePow, Int.reduceToNat, Int.reducePow, Int.reduceAdd, Int.reduceSub, Int.reduceMul, Int.reduceLT, Int.reduceLE, Int.reduceEq, Int.reduceNeg])
  refine wp_kbox K6.w' fun q7 h7 e7 K7 n7 b7 => ?_
  (try simp -dsimp (disch := omega) only [↓pre, sp, sp2, wp_some, Int.cast_ofNat_Int, Nat.reduceAdd, Nat.reduceMul, Nat.reduceSub, Nat.reduceLeDiff, Nat.reduceEqDiff, Nat.reducePow, Int.reduceToNat, Int.reducePow, Int.reduceAdd, Int.reduceSub, Int.reduceMul, Int.reduceLT, Int.reduceLE, Int.reduceEq, Int.reduceNeg])
  refine wp_kb K7.w' b7 t fun h8 K8 n8 b8 => ?_
  have k68 : Kp h6 h8 := Ke.new_p K7 K8 fun i hi => by omega
  have k58 : Kp h5 h8 := K6.trans k68
  have o8 : Oi h8 xr t.out := oik o6 k68
  have lt6 : ∀ i, isBk xr i → i < h6.n := fun i hi => ow_lt o6 K6.w' hi
  (try simp -dsimp (disch := omega) only [↓pre, sp, sp2, wp_some, Int.cast_ofNat_Int, Nat.reduceAdd, Nat.reduceMul, Nat.reduceSub, Nat.reduceLeDiff, Nat.reduceEqDiff, Nat.reducePow, Int.reduceToNat, Int.reducePow, Int.reduceAdd, Int.reduceSub, Int.reduceMul, Int.reduceLT, Int.reduceLE, Int.reduceEq, Int.reduceNeg])
  refine wp_loop (fun m l h9 => ∃ i : Nat, l = [.int .i64 i] ∧ i + m = t.out.length ∧ Ke (isBk xr) h8 h9 ∧ Oi h9 xr (addN i t.out)) t.out.length (by omega) ⟨0, rfl, by omega, Ke.refl K8.w', o8.to (by simp [addN]) (by simp [addN])⟩ ?_
  rintro m _ h9 j ⟨i, rfl, him, K9, o9⟩ hj
  unfold L_runglaw17_FbApart_1
  have o9s : Sz h9 xr 1 t.out.length (i64s (addN i t.out)) .rw := (Ow.rd o9).to rfl (addN_len _ _)
  have k59 : Kp h5 h9 := Ke.new_p k58 K9 f6
  have k09 : Kp h h9 := k05.trans k59
  have b9 : Kb h9 q0 ⟨[], k0, k1, k2⟩ := (b3.kp k35).kp k59
  (try simp -dsimp (disch := omega) only [↓pre, sp, sp2, wp_some, Int.cast_ofNat_Int, Nat.reduceAdd, Nat.reduceMul, Nat.reduceSub, Nat.reduceLeDiff, Nat.reduceEqDiff, Nat.reducePow, Int.reduceToNat, Int.reducePow, Int.reduceAdd, Int.reduceSub, Int.reduceMul, Int.reduceLT, Int.reduceLE, Int.reduceEq, Int.reduceNeg, o9s.len, b9.ld])
  refine wp_ite (fun c => ?_) (fun c => ?_)
  · have hit : i < t.out.length := by omega
    have ei : IntKind.wrap .i64 ((i : Int) + 1) = ((i + 1 : Nat) : Int) := by rw [wr_i64 (by omega) (by omega)]; omega
    have el : rLoad (ea xr i) h9 = some (.int .i64 (t.out.getD i 0)) := by
      rw [o9.si.ldI (by rw [addN_len]; exact hit), addN_at hit]
    (try simp -dsimp (disch := omega) only [↓pre, sp, sp2, wp_some, Int.cast_ofNat_Int, Nat.reduceAdd, Nat.reduceMul, Nat.reduceSub, Nat.reduceLeDiff, Nat.reduceEqDiff, Nat.reducePow, Int.reduceToNat, Int.reducePow, Int.reduceAdd, Int.reduceSub, Int.reduceMul, Int.reduceLT, Int.reduceLE, Int.reduceEq, Int.reduceNeg, o9s.at, el])
    refine wp_iset K9.w' o9 (by rw [addN_len]; exact hit) _ fun h10 o10 K10 n10 => ?_
    rw [addN_set hit] at o10
    (try simp -dsimp (disch := omega) only [↓pre, sp, sp2, wp_some, Int.cast_ofNat_Int, Nat.reduceAdd, Nat.reduceMul, Nat.reduceSub, Nat.reduceLeDiff, Nat.reduceEqDiff, Nat.reducePow, Int.reduceToNat, Int.reducePow, Int.reduceAdd, Int.reduceSub, Int.reduceMul, Int.reduceLT, Int.reduceLE, Int.reduceEq, Int.reduceNeg, ei])
    exact hj (m - 1) _ _ (by omega) ⟨i + 1, rfl, by omega, K9.trans K10, o10⟩
  · have o9' : Oi h9 xr (t.out.map fun x => IntKind.wrap .i64 (x + 7)) := by rw [addN_all _ (by omega)] at o9; exact o9
    clear hj o9 o9s
    have b89 : Kb h9 q7 t := b8.ke K9 fun hb => by have := lt6 _ hb; omega
    (try simp -dsimp (disch := omega) only [↓pre, sp, sp2, wp_some, Int.cast_ofNat_Int, Nat.reduceAdd, Nat.reduceMul, Nat.reduceSub, Nat.reduceLeDiff, Nat.reduceEqDiff, Nat.reducePow, Int.reduceToNat, Int.reducePow, Int.reduceAdd, Int.reduceSub, Int.reduceMul, Int.reduceLT, Int.reduceLE, Int.reduceEq, Int.reduceNeg])
    refine Wp.bind (rs h9 k09) fun v h10 ⟨K10, xp, ev, o10, f10⟩ => ?_
    subst ev
    (try simp -dsimp (disch := omega) only [↓pre, sp, sp2, wp_some, Int.cast_ofNat_Int, Nat.reduceAdd, Nat.reduceMul, Nat.reduceSub, Nat.reduceLeDiff, Nat.reduceEqDiff, Nat.reducePow, Int.reduceToNat, Int.reducePow, Int.reduceAdd, Int.reduceSub, Int.reduceMul, Int.reduceLT, Int.reduceLE, Int.reduceEq, Int.reduceNeg])
    refine wp_kbox K10.w' fun q11 h11 e11 K11 n11 b11 => ?_
    (try simp -dsimp (disch := omega) only [↓pre, sp, sp2, wp_some, Int.cast_ofNat_Int, Nat.reduceAdd, Nat.reduceMul, Nat.reduceSub, Nat.reduceLeDiff, Nat.reduceEqDiff, Nat.reducePow, Int.reduceToNat, Int.reducePow, Int.reduceAdd, Int.reduceSub, Int.reduceMul, Int.reduceLT, Int.reduceLE, Int.reduceEq, Int.reduceNeg])
    refine wp_kb K11.w' b11 t fun h12 K12 n12 b12 => ?_
    have kac : Kp h10 h12 := Ke.new_p K11 K12 fun i hi => by omega
    have k9c : Kp h9 h12 := K10.trans kac
    have k0c : Kp h h12 := k09.trans k9c
    have oc : Oi h12 xr (t.out.map fun x => IntKind.wrap .i64 (x + 7)) := oik o9' k9c
    have op : Oi h12 xp t.out := oik o10 kac
    have ocs : Sz h12 xr 1 t.out.length (i64s (t.out.map fun x => IntKind.wrap .i64 (x + 7))) .rw := (Ow.rd oc).to rfl (by simp)
    have e1 := nums_spec H (n + 6) (oik o45 (k59.trans k9c)).si (sik hx k0c) (by omega)
    have e2 := nums_spec H (n + 6) (oik o5' (k59.trans k9c)).si (sik hy k0c) (by omega)
    (try simp -dsimp (disch := omega) only [↓pre, sp, sp2, wp_some, Int.cast_ofNat_Int, Nat.reduceAdd, Nat.reduceMul, Nat.reduceSub, Nat.reduceLeDiff, Nat.reduceEqDiff, Nat.reducePow, Int.reduceToNat, Int.reducePow, Int.reduceAdd, Int.reduceSub, Int.reduceMul, Int.reduceLT, Int.reduceLE, Int.reduceEq, Int.reduceNeg, (b89.kp k9c).ld, b12.ld, k3_neq])
    refine wp_kTh (fun v h' => v = .bool false ∧ h' = h12) (fun j2 hj2 => ?_) ?_
    · (try simp -dsimp (disch := omega) only [↓pre, sp, sp2, wp_some, Int.cast_ofNat_Int, Nat.reduceAdd, Nat.reduceMul, Nat.reduceSub, Nat.reduceLeDiff, Nat.reduceEqDiff, Nat.reducePow, Int.reduceToNat, Int.reducePow, Int.reduceAdd, Int.reduceSub, Int.reduceMul, Int.reduceLT, Int.reduceLE, Int.reduceEq, Int.reduceNeg, ocs.len, op.si.len, e1, e2])
      exact hj2 _ _ ⟨rfl, rfl⟩
    · rintro _ h13 ⟨rfl, eh⟩
      subst eh
      (try simp -dsimp (disch := omega) only [↓pre, sp, sp2, wp_some, Int.cast_ofNat_Int, Nat.reduceAdd, Nat.reduceMul, Nat.reduceSub, Nat.reduceLeDiff, Nat.reduceEqDiff, Nat.reducePow, Int.reduceToNat, Int.reducePow, Int.reduceAdd, Int.reduceSub, Int.reduceMul, Int.reduceLT, Int.reduceLE, Int.reduceEq, Int.reduceNeg])
      refine wp_loop (fun m l h14 => ∃ i : Nat, l = [.int .i64 i] ∧ i + m = t.out.length ∧ h13 = h14) t.out.length (by omega) ⟨0, rfl, by omega, rfl⟩ ?_
      rintro m _ h14 j ⟨i, rfl, him, eh⟩ hj
      subst eh
      unfold L_runglaw17_FbApart_0
      (try simp -dsimp (disch := omega) only [↓pre, sp, sp2, wp_some, Int.cast_ofNat_Int, Nat.reduceAdd, Nat.reduceMul, Nat.reduceSub, Nat.reduceLeDiff, Nat.reduceEqDiff, Nat.reducePow, Int.reduceToNat, Int.reducePow, Int.reduceAdd, Int.reduceSub, Int.reduceMul, Int.reduceLT, Int.reduceLE, Int.reduceEq, Int.reduceNeg, op.si.len])
      refine wp_ite (fun c => ?_) (fun c => ?_)
      · have hit : i < t.out.length := by omega
        have ei : IntKind.wrap .i64 ((i : Int) + 1) = ((i + 1 : Nat) : Int) := by rw [wr_i64 (by omega) (by omega)]; omega
        have l1 : rLoad (ea xr i) h13 = some (.int .i64 (IntKind.wrap .i64 (t.out.getD i 0 + 7))) := by
          rw [oc.si.ldI (by simpa using hit)]; simp [hit]
        have l2 : rLoad (ea xp i) h13 = some (.int .i64 (t.out.getD i 0)) := op.si.ldI hit
        (try simp -dsimp (disch := omega) only [↓pre, sp, sp2, wp_some, Int.cast_ofNat_Int, Nat.reduceAdd, Nat.reduceMul, Nat.reduceSub, Nat.reduceLeDiff, Nat.reduceEqDiff, Nat.reducePow, Int.reduceToNat, Int.reducePow, Int.reduceAdd, Int.reduceSub, Int.reduceMul, Int.reduceLT, Int.reduceLE, Int.reduceEq, Int.reduceNeg, ocs.at, l1, op.si.at, l2, not_true, if_false, ei])
        exact hj (m - 1) _ _ (by omega) ⟨i + 1, rfl, by omega, rfl⟩
      · (try simp -dsimp (disch := omega) only [↓pre, sp, sp2, wp_some, Int.cast_ofNat_Int, Nat.reduceAdd, Nat.reduceMul, Nat.reduceSub, Nat.reduceLeDiff, Nat.reduceEqDiff, Nat.reducePow, Int.reduceToNat, Int.reducePow, Int.reduceAdd, Int.reduceSub, Int.reduceMul, Int.reduceLT, Int.reduceLE, Int.reduceEq, Int.reduceNeg])
end Go.Proofs.YtindiedfioiejaaDoor.AI
