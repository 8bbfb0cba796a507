/- Chapter 17: lives, step by step. -/
import Derived.Test.YtindiedfioiejaaDoorFl8
namespace Go.Proofs.YtindiedfioiejaaDoor.AI
open Go
set_option linter.unusedSimpArgs false
set_option linter.unusedVariables false
variable {ov : AOver} {h : AH}
variable {B B' q : Nat} {N N' : Nat → Prop} {v x : AVal} {LL : List (List Int)} {TT : List Int}
theorem Ol.weak (o : Ol h B N v LL) (hB : B' ≤ B) (hN : ∀ j, N' j → N j) : Ol h B' N' v LL := by
  obtain ⟨vs, a, b, c⟩ := o
  exact ⟨vs, a, fun i hi => ⟨by have := (b i hi).1; omega, fun e => (b i hi).2 (hN i e)⟩, fun i hi => let ⟨sv, e, o, f⟩ := c i hi; ⟨sv, e, o, fun j hj => ⟨by have := (f j hj).1; omega, fun e => (f j hj).2.1 (hN j e), (f j hj).2.2⟩⟩⟩
def outsM (b : Bl) (L : List (List Int)) (T : List Int) (i : Nat) : List (List Int) := (List.range i).map fun k => (sts b L T (k + 1)).out
theorem outsM_succ (b : Bl) (L : List (List Int)) (T : List Int) (i : Nat) : outsM b L T (i + 1) = outsM b L T i ++ [(sts b L T (i + 1)).out] := by simp [outsM, List.range_succ]
theorem outsM_len (b : Bl) (L : List (List Int)) (T : List Int) (i : Nat) : (outsM b L T i).length = i := by simp [outsM]
theorem sts_len (b : Bl) (L : List (List Int)) (T : List Int) (i : Nat) : (sts b L T i).out.length ≤ 100 := by
  cases i with
  | zero => simp [sts, noTold]
  | succ i => simp only [sts]; rw [ref_len]; exact (bl_len b).2
/-- What lives come to. -/
def LivesQ (h : AH) (b : Bl) (L : List (List Int)) (T : List Int) (r : AVal) (h' : AH) : Prop := Kp h h' ∧ ∃ x, r = .tuple [x, .bool true] ∧ Ol h' h.n (fun _ => False) x (livesM b L T)
def LvI (h : AH) (b : Bl) (L : List (List Int)) (T : List Int) (B q3 q6 : Nat) (m : Nat) (l : List AVal) (h2 : AH) : Prop :=
  ∃ (i : Nat) (ou al pv : AVal), l = [ou, al, pv, .int .i64 i] ∧ i + m = min L.length T.length ∧ Kp h h2 ∧ B ≤ h2.n ∧ Oi h2 ou (sts b L T i).out ∧ Oi h2 pv (sts b L T i).out ∧ Kb h2 q3 (sts b L T i) ∧ Kb h2 q6 (sts b L T i) ∧
    Ol h2 B (fun _ => False) al (outsM b L T i) ∧ (∀ j, isBk ou j → B ≤ j ∧ ¬ isBk al j) ∧ (∀ j, isBk pv j → B ≤ j ∧ ¬ isBk al j)
theorem lives_spec (H : Plain ov) (n : Nat) (w : Wf h) (tb : Tb h) (b : Bl) {lv tv : AVal} {md : AMode} (hL : Ol h B N lv LL) (hT : Si h tv TT md) (hl : LL.length ≤ 100) (ht : TT.length ≤ 100) (iL : ∀ l ∈ LL, I64s l ∧ l.length ≤ 100) (iT : I64s TT) :
    Wp (kc ov (n + 8) N_runglaw17_lives [.str b.nm, lv, tv] h) (LivesQ h b LL TT) := by
  rw [C_runglaw17_lives H]; unfold F_runglaw17_lives
  (try simp -dsimp (disch := omega) only [↓pre, sp, sp2, wp_some, Int.cast_ofNat_Int, Nat.reduceAdd, Nat.reduceMul, Nat.reduceSub, Nat.reduceLeDiff, Nat.reduceEqDiff, Nat.reducePow, Int.reduceToNat, Int.reducePow, Int.reduceAdd, Int.reduceSub, Int.reduceMul, Int.reduceLT, Int.reduceLE, Int.reduceEq, Int.reduceNeg])
  refine wp_kbox w fun q3 h1 e1 K1 n1 b1 => ?_
  (try simp -dsimp (disch := omega) only [↓pre, sp, sp2, wp_some, Int.cast_ofNat_Int, Nat.reduceAdd, Nat.reduceMul, Nat.reduceSub, Nat.reduceLeDiff, Nat.reduceEqDiff, Nat.reducePow, Int.reduceToNat, Int.reducePow, Int.reduceAdd, Int.reduceSub, Int.reduceMul, Int.reduceLT, Int.reduceLE, Int.reduceEq, Int.reduceNeg])
  refine wp_kbox K1.w' fun q6 h2 e2 K2 n2 b2 => ?_
  have k02 : Kp h h2 := K1.trans K2
  (try simp -dsimp (disch := omega) only [↓pre, sp, sp2, wp_some, Int.cast_ofNat_Int, Nat.reduceAdd, Nat.reduceMul, Nat.reduceSub, Nat.reduceLeDiff, Nat.reduceEqDiff, Nat.reducePow, Int.reduceToNat, Int.reducePow, Int.reduceAdd, Int.reduceSub, Int.reduceMul, Int.reduceLT, Int.reduceLE, Int.reduceEq, Int.reduceNeg])
  refine wp_loop (LvI h b LL TT h2.n q3 q6) (min LL.length TT.length) (by omega) ⟨0, _, _, _, rfl, by omega, k02, Nat.le_refl _, Ow.nil _ _ _ (by omega), Ow.nil _ _ _ (by omega), b1.kp K2, b2, Ol.nil _ _, fun j hj => hj.elim, fun j hj => hj.elim⟩ ?_
  generalize hB2 : h2.n = B2
  rintro m _ g0 j ⟨i, ou, al, pv, rfl, him, kg, hBg, o1, o2, c1, c2, ol, f1, f2⟩ hj
  unfold L_runglaw17_lives_0
  have L0 := hL.kp kg
  have T0 : Si g0 tv TT md := hT.kp kg
  (try simp -dsimp (disch := omega) only [↓pre, sp, sp2, wp_some, Int.cast_ofNat_Int, Nat.reduceAdd, Nat.reduceMul, Nat.reduceSub, Nat.reduceLeDiff, Nat.reduceEqDiff, Nat.reducePow, Int.reduceToNat, Int.reducePow, Int.reduceAdd, Int.reduceSub, Int.reduceMul, Int.reduceLT, Int.reduceLE, Int.reduceEq, Int.reduceNeg, L0.len])
  refine wp_kT (.bool (decide (i < LL.length) && decide (i < TT.length))) (fun j3 hj3 => ?_) ?_
  · by_cases d1 : i < LL.length
    · have d1' : (i : Int) < LL.length := by omega
      rw [decide_eq_true d1] at hj3
      by_cases d2 : i < TT.length
      · have d2' : (i : Int) < TT.length := by omega
        rw [decide_eq_true d2] at hj3
        (try simp -dsimp (disch := omega) only [↓pre, sp, sp2, wp_some, Int.cast_ofNat_Int, Nat.reduceAdd, Nat.reduceMul, Nat.reduceSub, Nat.reduceLeDiff, Nat.reduceEqDiff, Nat.reducePow, Int.reduceToNat, Int.reducePow, Int.reduceAdd, Int.reduceSub, Int.reduceMul, Int.reduceLT, Int.reduceLE, Int.reduceEq, Int.reduceNeg, d1', d2', T0.len]); exact hj3
      · have d2' : ¬ (i : Int) < TT.length := by omega
        rw [decide_eq_false d2] at hj3
        (try simp -dsimp (disch := omega) only [↓pre, sp, sp2, wp_some, Int.cast_ofNat_Int, Nat.reduceAdd, Nat.reduceMul, Nat.reduceSub, Nat.reduceLeDiff, Nat.reduceEqDiff, Nat.reducePow, Int.reduceToNat, Int.reducePow, Int.reduceAdd, Int.reduceSub, Int.reduceMul, Int.reduceLT, Int.reduceLE, Int.reduceEq, Int.reduceNeg, d1', d2', T0.len]); exact hj3
    · have d1' : ¬ (i : Int) < LL.length := by omega
      rw [decide_eq_false d1] at hj3
      (try simp -dsimp (disch := omega) only [↓pre, sp, sp2, wp_some, Int.cast_ofNat_Int, Nat.reduceAdd, Nat.reduceMul, Nat.reduceSub, Nat.reduceLeDiff, Nat.reduceEqDiff, Nat.reducePow, Int.reduceToNat, Int.reducePow, Int.reduceAdd, Int.reduceSub, Int.reduceMul, Int.reduceLT, Int.reduceLE, Int.reduceEq, Int.reduceNeg, d1']); exact hj3
  refine wp_kIf (fun d => ?_) (fun d => ?_)
  · simp only [Bool.and_eq_true, decide_eq_true_eq] at d
    obtain ⟨d1, d2⟩ := d
    have ei : IntKind.wrap .i64 ((i : Int) + 1) = ((i + 1 : Nat) : Int) := by rw [wr_i64 (by omega) (by omega)]; omega
    obtain ⟨sv, el, os⟩ := L0.ld d1
    have et : rLoad (ea tv i) g0 = some (.int .i64 (TT.getD i 0)) := T0.ldI d2
    have iL' := iL (LL.getD i []) (by simp [d1])
    have iT' := iT.at i
    have sI := sts_I b LL TT i
    have sl := sts_len b LL TT i
    have sI' := sts_I b LL TT (i + 1)
    have sl' := sts_len b LL TT (i + 1)
    have eS : refM b (LL.getD i []) (sts b LL TT i).out (sts b LL TT i).k0 (sts b LL TT i).k1 (sts b LL TT i).k2 (TT.getD i 0) = sts b LL TT (i + 1) := rfl
    have hq3 : q3 < B2 := by omega
    have hq6 : q6 < B2 := by omega
    have hq36 : q3 ≠ q6 := by omega
    have eO := outsM_succ b LL TT i
    have hOl := outsM_len b LL TT i
    have s1 := fun {md : AMode} (g : AH) (w : Wf g) (tb : Tb g) (u p : AVal) (a : Si g u (LL.getD i []) md) (c : Oi g p (sts b LL TT i).out) => stepB_spec H (n + 1) w tb b (now := TT.getD i 0) a c.si (by omega) (by omega) iL'.1 sI.o sI.k0 sI.k1 sI.k2 iT'
    have s2 := fun {md : AMode} (g : AH) (w : Wf g) (u p : AVal) (a : Si g u (LL.getD i []) md) (c : Oi g p (sts b LL TT i).out) => rstep_spec H n w b.nm (now := TT.getD i 0) a c.si iL'.1 sI.o sI.k0 sI.k1 sI.k2 iT'
    rw [eS] at s1
    rw [toldS_nm, eS] at s2
    clear eS
    generalize ht' : sts b LL TT (i + 1) = t' at *
    generalize sts b LL TT i = t at *
    (try simp -dsimp (disch := omega) only [↓pre, sp, sp2, wp_some, Int.cast_ofNat_Int, Nat.reduceAdd, Nat.reduceMul, Nat.reduceSub, Nat.reduceLeDiff, Nat.reduceEqDiff, Nat.reducePow, Int.reduceToNat, Int.reducePow, Int.reduceAdd, Int.reduceSub, Int.reduceMul, Int.reduceLT, Int.reduceLE, Int.reduceEq, Int.reduceNeg, L0.at, el, T0.at, et, c1.ldd])
    refine Wp.bind (s1 g0 kg.w' (tb.ke kg) sv ou os.si o1) fun v g1 ⟨KG1, u, ev, o3, f3⟩ => ?_
    subst ev
    (try simp -dsimp (disch := omega) only [↓pre, sp, sp2, wp_some, Int.cast_ofNat_Int, Nat.reduceAdd, Nat.reduceMul, Nat.reduceSub, Nat.reduceLeDiff, Nat.reduceEqDiff, Nat.reducePow, Int.reduceToNat, Int.reducePow, Int.reduceAdd, Int.reduceSub, Int.reduceMul, Int.reduceLT, Int.reduceLE, Int.reduceEq, Int.reduceNeg])
    refine wp_kb KG1.w' (c1.kp KG1) t' fun g2 KG2 n2' c3 => ?_
    have k02g : Kp h g2 := Ke.new_p (kg.trans KG1) KG2 fun j hj => by have := K1.n; omega
    have L2 := hL.kp k02g
    have T2 : Si g2 tv TT md := hT.kp k02g
    obtain ⟨sv2, el2, os2⟩ := L2.ld d1
    have et2 : rLoad (ea tv i) g2 = some (.int .i64 (TT.getD i 0)) := T2.ldI d2
    have o2' : Oi g2 pv t.out := Ow.ke (oik o2 KG1) KG2 fun j hj e => by have := (f2 j hj).1; omega
    have c4 : Kb g2 q6 t := (c2.kp KG1).ke KG2 (by omega)
    have ol2 : Ol g2 B2 (fun _ => False) al (outsM b LL TT i) := (ol.kp KG1).ke KG2 fun j hj => .inr (by omega)
    have o3' : Oi g2 u t'.out := Ow.ke o3 KG2 fun j hj e => by have := f3 j hj; omega
    (try simp -dsimp (disch := omega) only [↓pre, sp, sp2, wp_some, Int.cast_ofNat_Int, Nat.reduceAdd, Nat.reduceMul, Nat.reduceSub, Nat.reduceLeDiff, Nat.reduceEqDiff, Nat.reducePow, Int.reduceToNat, Int.reducePow, Int.reduceAdd, Int.reduceSub, Int.reduceMul, Int.reduceLT, Int.reduceLE, Int.reduceEq, Int.reduceNeg, L2.at, el2, T2.at, et2, c4.ldd])
    refine Wp.bind (s2 g2 KG2.w' sv2 pv os2.si o2') fun v g3 ⟨KG3, up, ev, o5, f5⟩ => ?_
    subst ev
    (try simp -dsimp (disch := omega) only [↓pre, sp, sp2, wp_some, Int.cast_ofNat_Int, Nat.reduceAdd, Nat.reduceMul, Nat.reduceSub, Nat.reduceLeDiff, Nat.reduceEqDiff, Nat.reducePow, Int.reduceToNat, Int.reducePow, Int.reduceAdd, Int.reduceSub, Int.reduceMul, Int.reduceLT, Int.reduceLE, Int.reduceEq, Int.reduceNeg])
    refine wp_kb KG3.w' (c4.kp KG3) t' fun g4 KG4 n4' c6 => ?_
    have k04 : Kp h g4 := Ke.new_p (k02g.trans KG3) KG4 fun j hj => by have := K1.n; omega
    have hn1 := KG1.n
    have hn3 := KG3.n
    have c5 : Kb g4 q3 t' := (c3.kp KG3).ke KG4 (by omega)
    have o6 : Oi g4 u t'.out := Ow.ke (oik o3' KG3) KG4 fun j hj e => by have := f3 j hj; omega
    have o7 : Oi g4 up t'.out := Ow.ke o5 KG4 fun j hj e => by have := f5 j hj; omega
    have ol4 : Ol g4 B2 (fun _ => False) al (outsM b LL TT i) := (ol2.kp KG3).ke KG4 fun j hj => .inr (by omega)
    have e1' := nums_spec H (n + 6) o6.si o7.si (by omega)
    (try simp -dsimp (disch := omega) only [↓pre, sp, sp2, wp_some, Int.cast_ofNat_Int, Nat.reduceAdd, Nat.reduceMul, Nat.reduceSub, Nat.reduceLeDiff, Nat.reduceEqDiff, Nat.reducePow, Int.reduceToNat, Int.reducePow, Int.reduceAdd, Int.reduceSub, Int.reduceMul, Int.reduceLT, Int.reduceLE, Int.reduceEq, Int.reduceNeg, e1'])
    refine wp_kT (.bool false) (fun j3 hj3 => ?_) ?_
    · (try simp -dsimp (disch := omega) only [↓pre, sp, sp2, wp_some, Int.cast_ofNat_Int, Nat.reduceAdd, Nat.reduceMul, Nat.reduceSub, Nat.reduceLeDiff, Nat.reduceEqDiff, Nat.reducePow, Int.reduceToNat, Int.reducePow, Int.reduceAdd, Int.reduceSub, Int.reduceMul, Int.reduceLT, Int.reduceLE, Int.reduceEq, Int.reduceNeg, c5.ld, c6.ld, k3_neq])
      exact hj3
    (try simp -dsimp (disch := omega) only [↓pre, sp, sp2, wp_some, Int.cast_ofNat_Int, Nat.reduceAdd, Nat.reduceMul, Nat.reduceSub, Nat.reduceLeDiff, Nat.reduceEqDiff, Nat.reducePow, Int.reduceToNat, Int.reducePow, Int.reduceAdd, Int.reduceSub, Int.reduceMul, Int.reduceLT, Int.reduceLE, Int.reduceEq, Int.reduceNeg])
    have fu : ∀ j, isBk u j → B2 ≤ j ∧ ¬ (fun _ => False) j ∧ ¬ isBk al j := fun j hj => ⟨by have := f3 j hj; omega, id, fun ha => by have := f3 j hj; have := ol.lt kg.w' ha; omega⟩
    refine wp_snoc k04.w' ol4 o6 fu (by omega) (fun j hj => hj.elim) (by omega) fun al' g5 KG5 ol5 fx => ?_
    rw [← eO] at ol5
    (try simp -dsimp (disch := omega) only [↓pre, sp, sp2, wp_some, Int.cast_ofNat_Int, Nat.reduceAdd, Nat.reduceMul, Nat.reduceSub, Nat.reduceLeDiff, Nat.reduceEqDiff, Nat.reducePow, Int.reduceToNat, Int.reducePow, Int.reduceAdd, Int.reduceSub, Int.reduceMul, Int.reduceLT, Int.reduceLE, Int.reduceEq, Int.reduceNeg, ei])
    have nu : ∀ j, isBk u j → ¬ isBk al' j := fun j hj ha => by
      rcases fx j ha with h | h
      · exact (fu j hj).2.2 h
      · have := ow_lt o6 k04.w' hj; omega
    have nup : ∀ j, isBk up j → B2 ≤ j ∧ ¬ isBk al j := fun j hj => ⟨by have := f5 j hj; omega, fun ha => by have := f5 j hj; have := ol2.lt KG2.w' ha; omega⟩
    have np : ∀ j, isBk up j → ¬ isBk al' j := fun j hj ha => by
      rcases fx j ha with h | h
      · exact (nup j hj).2 h
      · have := ow_lt o7 k04.w' hj; omega
    have hal : ∀ j, isBk al j → B2 ≤ j := fun j hj => by obtain ⟨vs, a, b, c⟩ := ol; exact (b j hj).1
    have hn45 := KG5.n
    subst ht'
    refine hj (m - 1) _ _ (by omega) ⟨i + 1, u, al', up, rfl, by omega, Ke.new_p k04 KG5 fun j hj => by have := hal j hj; have := k02.n; omega, by omega, Ow.ke o6 KG5 fun j hj e => (fu j hj).2.2 e, Ow.ke o7 KG5 fun j hj e => (nup j hj).2 e,
      c5.ke KG5 fun e => by have := hal _ e; omega, c6.ke KG5 fun e => by have := hal _ e; omega, ol5, fun j hj => ⟨(fu j hj).1, nu j hj⟩, fun j hj => ⟨(nup j hj).1, np j hj⟩⟩
  · have hi : i = min LL.length TT.length := by
      simp only [Bool.and_eq_false_iff, decide_eq_false_iff_not] at d
      omega
    (try simp -dsimp (disch := omega) only [↓pre, sp, sp2, wp_some, Int.cast_ofNat_Int, Nat.reduceAdd, Nat.reduceMul, Nat.reduceSub, Nat.reduceLeDiff, Nat.reduceEqDiff, Nat.reducePow, Int.reduceToNat, Int.reducePow, Int.reduceAdd, Int.reduceSub, Int.reduceMul, Int.reduceLT, Int.reduceLE, Int.reduceEq, Int.reduceNeg])
    refine ⟨kg, al, rfl, ?_⟩
    have : livesM b LL TT = outsM b LL TT i := by rw [hi]; rfl
    rw [this]
    exact ol.weak (by have := k02.n; omega) fun j hj => hj
def onL (on : Nat → Bool) (pt : Int) (i : Nat) : List (List Int) := (List.range i).map fun k => [tr (on k), pt]
theorem onL_succ (on : Nat → Bool) (pt : Int) (i : Nat) : onL on pt (i + 1) = onL on pt i ++ [[tr (on i), pt]] := by simp [onL, List.range_succ]
theorem onL_len (on : Nat → Bool) (pt : Int) (i : Nat) : (onL on pt i).length = i := by simp [onL]
theorem onL_at (on : Nat → Bool) (pt : Int) {i k : Nat} (hk : k < i) : (onL on pt i).getD k [] = [tr (on k), pt] := by simp [onL, hk]
theorem onL_I (on : Nat → Bool) {pt : Int} (hp : I64 pt) (i : Nat) : ∀ l ∈ onL on pt i, I64s l ∧ l.length ≤ 100 := fun l hl => by
  simp only [onL, List.mem_map] at hl
  obtain ⟨k, _, rfl⟩ := hl
  refine ⟨fun z hz => ?_, by simp⟩
  simp only [List.mem_cons, List.not_mem_nil, or_false] at hz
  rcases hz with rfl | rfl
  · exact tr_I _
  · exact hp
/-- One more number, behind one's own. -/
theorem wp_isnoc (w : Wf h) {v : AVal} {L : List Int} (o : Oi h v L) (z : Int) (hl : L.length ≤ 1000) {Q : AVal → AH → Prop} {K : AVal → AH → Ans}
    (c : ∀ x h', Ke (isBk v) h h' → Oi h' x (L ++ [z]) → (∀ i, isBk x i → isBk v i ∨ h.n ≤ i) → Wp (K x h') Q) :
    Wp (km (mBuildSl T_int64 1 [(.int .i64 0)] 1 [(0, .int .i64 z)]) h fun u h1 => ke (rAppend T_int64 1 8 v u h1) K) Q := by
  refine wp_nums w [z] rfl rfl (by omega) fun q h1 hq k1 n1 o1 => ?_
  refine wp_append k1.w' (oik o k1) (Ow.rd o1) (i64s_cells _) (by omega) (by simp; omega) fun x h2 o2 k2 f2 => ?_
  refine c x h2 ((Kp.ke k1).trans k2) (o2.to (by rw [i64s_append]) (by simp)) fun i hi => ?_
  rcases f2 i hi with h | h
  · exact .inl h
  · right; have := k1.n; omega
end Go.Proofs.YtindiedfioiejaaDoor.AI
