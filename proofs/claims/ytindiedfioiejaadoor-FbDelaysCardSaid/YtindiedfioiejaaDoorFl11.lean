/- Chapter 17: timers against the clock. -/
import Derived.Test.YtindiedfioiejaaDoorFl9
import Derived.Test.YtindiedfioiejaaDoorAiFbDel
namespace Go.Proofs.YtindiedfioiejaaDoor.AI
open Go
set_option linter.unusedSimpArgs false
set_option linter.unusedVariables false
variable {ov : AOver} {h : AH}
/-- The time, step by step. -/
def tm (S : List Int) : Nat → Int
  | 0 => 0
  | i + 1 => tm S i + S.getD i 0 % 16
theorem tm_R (S : List Int) : ∀ i : Nat, 0 ≤ tm S i ∧ tm S i ≤ 15 * (i : Int)
  | 0 => by simp [tm]
  | i + 1 => by
    have := tm_R S i
    simp only [tm]
    omega
def tms (S : List Int) (i : Nat) : List Int := (List.range i).map fun k => tm S (k + 1)
theorem tms_succ (S : List Int) (i : Nat) : tms S (i + 1) = tms S i ++ [tm S (i + 1)] := by simp [tms, List.range_succ]
theorem tms_len (S : List Int) (i : Nat) : (tms S i).length = i := by simp [tms]
theorem tms_at (S : List Int) {i k : Nat} (hk : k < i) : (tms S i).getD k 0 = tm S (k + 1) := by simp [tms, hk]
theorem tms_I (S : List Int) {i : Nat} (hi : i ≤ 1000) : I64s (tms S i) := fun z hz => by
  simp only [tms, List.mem_map, List.mem_range] at hz
  obtain ⟨k, hk, rfl⟩ := hz
  have := tm_R S (k + 1)
  unfold I64
  omega
/-- What holds at the head of the first loop. -/
def DlI (h : AH) (B : Nat) (on : Nat → Bool) (pt : Int) (S : List Int) (M : Nat) (m : Nat) (l : List AVal) (g : AH) : Prop :=
  ∃ (i : Nat) (lv av : AVal), l = [lv, av, .int .i64 (tm S i), .int .i64 i] ∧ i + m = M ∧ Kp h g ∧ B ≤ g.n ∧ Ol g B (fun j => isBk av j) lv (onL on pt i) ∧ Oi g av (tms S i) ∧ (∀ j, isBk av j → B ≤ j)
/-- What holds at the head of the second. -/
def DkI (on : Nat → Bool) (p : Int) (S : List Int) (M : Nat) (t1 t2 t3 : Nat → Told) (g2 : AH) (m : Nat) (l : List AVal) (g : AH) : Prop :=
  ∃ (i : Nat) (since gone pulse : Int) (was : Bool), l = [.int .i64 since, .int .i64 gone, .int .i64 pulse, .bool was, .int .i64 i] ∧ i + m = M ∧ g2 = g ∧
    JTon was (tm S i) p since (t1 i) ∧ JTof was (tm S i) p gone (t2 i) ∧ JTp was (tm S i) p pulse (t3 i) ∧ (-1 ≤ since ∧ since ≤ tm S i) ∧ (-1 ≤ gone ∧ gone ≤ tm S i) ∧ (-1 ≤ pulse ∧ pulse ≤ tm S i)
theorem fbDelays (H : Plain ov) (hov : ov N_runglaw17_known = none) (n : Nat) (w : Wf h) (tb : Tb h) {p0 : Int} {xo xs : AVal} {os : List Bool} {S : List Int} (ho : Sz h xo 1 os.length (os.map AVal.bool) .ro)
    (hs : Sz h xs 1 S.length (S.map (AVal.int .u8)) .ro) (hS : ∀ z ∈ S, 0 ≤ z ∧ z ≤ 255) (hp : 0 ≤ p0 ∧ p0 ≤ 255) :
    Wp (kc ov (n + 9) N_runglaw17_FbDelays [xo, xs, .int .u8 p0] h) fun r _ => r = .bool true := by
  rw [C_runglaw17_FbDelays H]; unfold F_runglaw17_FbDelays
  (try simp -dsimp (disch := omega) only [↓pre, sp, sp2, wp_some, Int.cast_ofNat_Int, Nat.reduceAdd, Nat.reduceMul, Nat.reduceSub, Nat.reduceLeDiff, Nat.reduceEqDiff, Nat.reducePow, Int.reduceToNat, Int.reducePow, Int.reduceAdd, Int.reduceSub, Int.reduceMul, Int.reduceLT, Int.reduceLE, Int.reduceEq, Int.reduceNeg])
  refine Wp.bind (known_spec H hov (n + 1) w tb) fun v h1 ⟨K1, ev⟩ => ?_
  subst ev
  (try simp -dsimp (disch := omega) only [↓pre, sp, sp2, wp_some, Int.cast_ofNat_Int, Nat.reduceAdd, Nat.reduceMul, Nat.reduceSub, Nat.reduceLeDiff, Nat.reduceEqDiff, Nat.reducePow, Int.reduceToNat, Int.reducePow, Int.reduceAdd, Int.reduceSub, Int.reduceMul, Int.reduceLT, Int.reduceLE, Int.reduceEq, Int.reduceNeg, ho.len])
  refine wp_kT (.bool (decide (80 < os.length) || decide (80 < S.length))) (fun j hj => ?_) ?_
  · by_cases c2 : 80 < os.length
    · have c2' : (80 : Int) < os.length := by omega
      rw [decide_eq_true c2] at hj
      (try simp -dsimp (disch := omega) only [↓pre, sp, sp2, wp_some, Int.cast_ofNat_Int, Nat.reduceAdd, Nat.reduceMul, Nat.reduceSub, Nat.reduceLeDiff, Nat.reduceEqDiff, Nat.reducePow, Int.reduceToNat, Int.reducePow, Int.reduceAdd, Int.reduceSub, Int.reduceMul, Int.reduceLT, Int.reduceLE, Int.reduceEq, Int.reduceNeg, c2']); exact hj
    · have c2' : ¬ (80 : Int) < os.length := by omega
      rw [decide_eq_false c2] at hj
      by_cases c3 : 80 < S.length
      · have c3' : (80 : Int) < S.length := by omega
        rw [decide_eq_true c3] at hj
        (try simp -dsimp (disch := omega) only [↓pre, sp, sp2, wp_some, Int.cast_ofNat_Int, Nat.reduceAdd, Nat.reduceMul, Nat.reduceSub, Nat.reduceLeDiff, Nat.reduceEqDiff, Nat.reducePow, Int.reduceToNat, Int.reducePow, Int.reduceAdd, Int.reduceSub, Int.reduceMul, Int.reduceLT, Int.reduceLE, Int.reduceEq, Int.reduceNeg, c2', hs.len, c3']); exact hj
      · have c3' : ¬ (80 : Int) < S.length := by omega
        rw [decide_eq_false c3] at hj
        (try simp -dsimp (disch := omega) only [↓pre, sp, sp2, wp_some, Int.cast_ofNat_Int, Nat.reduceAdd, Nat.reduceMul, Nat.reduceSub, Nat.reduceLeDiff, Nat.reduceEqDiff, Nat.reducePow, Int.reduceToNat, Int.reducePow, Int.reduceAdd, Int.reduceSub, Int.reduceMul, Int.reduceLT, Int.reduceLE, Int.reduceEq, Int.reduceNeg, c2', hs.len, c3']); exact hj
  refine wp_kIf (fun c => ?_) (fun c => ?_)
  · (try simp -dsimp (disch := omega) only [↓pre, sp, sp2, wp_some, Int.cast_ofNat_Int, Nat.reduceAdd, Nat.reduceMul, Nat.reduceSub, Nat.reduceLeDiff, Nat.reduceEqDiff, Nat.reducePow, Int.reduceToNat, Int.reducePow, Int.reduceAdd, Int.reduceSub, Int.reduceMul, Int.reduceLT, Int.reduceLE, Int.reduceEq, Int.reduceNeg])
  simp only [Bool.or_eq_false_iff, decide_eq_false_iff_not, Nat.not_lt] at c
  obtain ⟨c2, c3⟩ := c
  (try simp -dsimp (disch := omega) only [↓pre, sp, sp2, wp_some, Int.cast_ofNat_Int, Nat.reduceAdd, Nat.reduceMul, Nat.reduceSub, Nat.reduceLeDiff, Nat.reduceEqDiff, Nat.reducePow, Int.reduceToNat, Int.reducePow, Int.reduceAdd, Int.reduceSub, Int.reduceMul, Int.reduceLT, Int.reduceLE, Int.reduceEq, Int.reduceNeg])
  obtain ⟨p, hpp⟩ : ∃ p, p = p0 % 40 := ⟨_, rfl⟩
  have er : rBin .rem .no true (.int .u8 p0) (.int .u8 40) = some (.int .u8 p) := by
    rw [rBin_rem _ _ _ _ _ (by omega), Int.tmod_eq_emod_of_nonneg hp.1, hpp]
  have hpR : 0 ≤ p ∧ p ≤ 39 := by omega
  have ep : rConvI .i64 (.int .u8 p) = some (.int .i64 p) := by
    show some (AVal.int .i64 (IntKind.wrap .i64 p)) = _
    rw [wr_i64 (by omega) (by omega)]
  have ptI : I64 p := by unfold I64; omega
  clear hpp
  obtain ⟨on, hon⟩ : ∃ on : Nat → Bool, ∀ i, i < os.length → (os.map AVal.bool)[i]? = some (.bool (on i)) := ⟨fun i => os.getD i false, fun i hi => by simp [hi]⟩
  refine wp_loop (DlI h h1.n on p S (min os.length S.length)) (min os.length S.length) (by omega) ⟨0, _, _, rfl, by omega, K1, Nat.le_refl _, Ol.nil _ _, Ow.nil _ _ _ (by omega), fun j hj => hj.elim⟩ ?_
  generalize hB : h1.n = B
  have hBn : h.n ≤ B := by have := K1.n; omega
  rintro m _ g0 j ⟨i, lv, av, rfl, him, kg, hBg, ol, oa, fa⟩ hj
  unfold L_runglaw17_FbDelays_1
  have o0 := ho.kp kg
  have s0 := hs.kp kg
  (try simp -dsimp (disch := omega) only [↓pre, sp, sp2, wp_some, Int.cast_ofNat_Int, Nat.reduceAdd, Nat.reduceMul, Nat.reduceSub, Nat.reduceLeDiff, Nat.reduceEqDiff, Nat.reducePow, Int.reduceToNat, Int.reducePow, Int.reduceAdd, Int.reduceSub, Int.reduceMul, Int.reduceLT, Int.reduceLE, Int.reduceEq, Int.reduceNeg, o0.len])
  refine wp_kT (.bool (decide (i < os.length) && decide (i < S.length))) (fun j3 hj3 => ?_) ?_
  · by_cases d1 : i < os.length
    · have d1' : (i : Int) < os.length := by omega
      rw [decide_eq_true d1] at hj3
      by_cases d2 : i < S.length
      · have d2' : (i : Int) < S.length := by omega
        rw [decide_eq_true d2] at hj3
        (try simp -dsimp (disch := omega) only [↓pre, sp, sp2, wp_some, Int.cast_ofNat_Int, Nat.reduceAdd, Nat.reduceMul, Nat.reduceSub, Nat.reduceLeDiff, Nat.reduceEqDiff, Nat.reducePow, Int.reduceToNat, Int.reducePow, Int.reduceAdd, Int.reduceSub, Int.reduceMul, Int.reduceLT, Int.reduceLE, Int.reduceEq, Int.reduceNeg, d1', d2', s0.len]); exact hj3
      · have d2' : ¬ (i : Int) < S.length := by omega
        rw [decide_eq_false d2] at hj3
        (try simp -dsimp (disch := omega) only [↓pre, sp, sp2, wp_some, Int.cast_ofNat_Int, Nat.reduceAdd, Nat.reduceMul, Nat.reduceSub, Nat.reduceLeDiff, Nat.reduceEqDiff, Nat.reducePow, Int.reduceToNat, Int.reducePow, Int.reduceAdd, Int.reduceSub, Int.reduceMul, Int.reduceLT, Int.reduceLE, Int.reduceEq, Int.reduceNeg, d1', d2', s0.len]); exact hj3
    · have d1' : ¬ (i : Int) < os.length := by omega
      rw [decide_eq_false d1] at hj3
      (try simp -dsimp (disch := omega) only [↓pre, sp, sp2, wp_some, Int.cast_ofNat_Int, Nat.reduceAdd, Nat.reduceMul, Nat.reduceSub, Nat.reduceLeDiff, Nat.reduceEqDiff, Nat.reducePow, Int.reduceToNat, Int.reducePow, Int.reduceAdd, Int.reduceSub, Int.reduceMul, Int.reduceLT, Int.reduceLE, Int.reduceEq, Int.reduceNeg, d1']); exact hj3
  refine wp_kIf (fun d => ?_) (fun d => ?_)
  · simp only [Bool.and_eq_true, decide_eq_true_eq] at d
    obtain ⟨d1, d2⟩ := d
    have ei : IntKind.wrap .i64 ((i : Int) + 1) = ((i + 1 : Nat) : Int) := by rw [wr_i64 (by omega) (by omega)]; omega
    have e1 : rLoad (ea xo i) g0 = some (.bool (on i)) := by rw [o0.ld (by simpa using d1)]; exact hon i d1
    have e2 : rLoad (ea xs i) g0 = some (.int .u8 (S.getD i 0)) := by rw [s0.ld (by simpa using d2)]; simp [d2]
    have hz := hS (S.getD i 0) (by simp [d2])
    have tR := tm_R S i
    have at' : tm S (i + 1) = tm S i + S.getD i 0 % 16 := rfl
    have ez : rBin .rem .no true (.int .u8 (S.getD i 0)) (.int .u8 16) = some (.int .u8 (S.getD i 0 % 16)) := by
      rw [rBin_rem _ _ _ _ _ (by omega), Int.tmod_eq_emod_of_nonneg hz.1]
    have ec : rConvI .i64 (.int .u8 (S.getD i 0 % 16)) = some (.int .i64 (S.getD i 0 % 16)) := by
      show some (AVal.int .i64 (IntKind.wrap .i64 (S.getD i 0 % 16))) = _
      rw [wr_i64 (by omega) (by omega)]
    have wx : IntKind.wrap .i64 (tm S i + S.getD i 0 % 16) = tm S (i + 1) := by rw [at']; exact wr_i64 (by omega) (by omega)
    have sx := tms_succ S i
    have sl := onL_succ on p i
    have lx := tms_len S i
    have ll := onL_len on p i
    (try simp -dsimp (disch := omega) only [↓pre, sp, sp2, wp_some, Int.cast_ofNat_Int, Nat.reduceAdd, Nat.reduceMul, Nat.reduceSub, Nat.reduceLeDiff, Nat.reduceEqDiff, Nat.reducePow, Int.reduceToNat, Int.reducePow, Int.reduceAdd, Int.reduceSub, Int.reduceMul, Int.reduceLT, Int.reduceLE, Int.reduceEq, Int.reduceNeg, s0.at, e2, ez, ec, wx, o0.at, e1])
    refine wp_kJ (fun l g => l = [.int .i64 (tr (on i))] ∧ g = g0) (fun j54 hj54 => ?_) ?_
    · refine wp_kIf (fun ca => ?_) (fun ca => ?_)
      · (try simp -dsimp (disch := omega) only [↓pre, sp, sp2, wp_some, Int.cast_ofNat_Int, Nat.reduceAdd, Nat.reduceMul, Nat.reduceSub, Nat.reduceLeDiff, Nat.reduceEqDiff, Nat.reducePow, Int.reduceToNat, Int.reducePow, Int.reduceAdd, Int.reduceSub, Int.reduceMul, Int.reduceLT, Int.reduceLE, Int.reduceEq, Int.reduceNeg])
        exact hj54 _ _ ⟨by rw [ca]; rfl, rfl⟩
      · (try simp -dsimp (disch := omega) only [↓pre, sp, sp2, wp_some, Int.cast_ofNat_Int, Nat.reduceAdd, Nat.reduceMul, Nat.reduceSub, Nat.reduceLeDiff, Nat.reduceEqDiff, Nat.reducePow, Int.reduceToNat, Int.reducePow, Int.reduceAdd, Int.reduceSub, Int.reduceMul, Int.reduceLT, Int.reduceLE, Int.reduceEq, Int.reduceNeg])
        exact hj54 _ _ ⟨by rw [ca]; rfl, rfl⟩
    · rintro _ g ⟨rfl, e⟩
      subst e
      (try simp -dsimp (disch := omega) only [↓pre, sp, sp2, wp_some, Int.cast_ofNat_Int, Nat.reduceAdd, Nat.reduceMul, Nat.reduceSub, Nat.reduceLeDiff, Nat.reduceEqDiff, Nat.reducePow, Int.reduceToNat, Int.reducePow, Int.reduceAdd, Int.reduceSub, Int.reduceMul, Int.reduceLT, Int.reduceLE, Int.reduceEq, Int.reduceNeg, er, ep])
      refine wp_nums kg.w' [tr (on i), p] rfl rfl (by omega) fun q g3 hq KG3 n3 os3 => ?_
      have oa3 := oik oa KG3
      have ol3 := ol.kp KG3
      have hbn : ∀ j, isBk lv j → ¬ isBk av j := fun j hj => by obtain ⟨_, _, bb, _⟩ := ol; exact (bb j hj).2
      have hbB : ∀ j, isBk lv j → B ≤ j := fun j hj => by obtain ⟨_, _, bb, _⟩ := ol; exact (bb j hj).1
      have hng3 := KG3.n
      have ltA : ∀ j, isBk av j → j < g.n := fun j hj => ow_lt oa kg.w' hj
      have ltL : ∀ j, isBk lv j → j < g.n := fun j hj => ol.lt kg.w' hj
      refine wp_snoc KG3.w' ol3 os3 (fun j hj => ⟨by simp only [isBk] at hj; omega, fun e => by simp only [isBk] at hj; have := ltA j e; omega, fun e => by simp only [isBk] at hj; have := ltL j e; omega⟩) (by omega) (fun j hj => by have := ltA j hj; omega) (by omega) fun lv' g4 KG4 ol4 fx => ?_
      rw [← sl] at ol4
      have oa4 : Oi g4 av (tms S i) := Ow.ke oa3 KG4 fun j hj e => hbn j e hj
      have hn4 := KG4.n
      (try simp -dsimp (disch := omega) only [↓pre, sp, sp2, wp_some, Int.cast_ofNat_Int, Nat.reduceAdd, Nat.reduceMul, Nat.reduceSub, Nat.reduceLeDiff, Nat.reduceEqDiff, Nat.reducePow, Int.reduceToNat, Int.reducePow, Int.reduceAdd, Int.reduceSub, Int.reduceMul, Int.reduceLT, Int.reduceLE, Int.reduceEq, Int.reduceNeg])
      refine wp_isnoc KG4.w' oa4 (tm S (i + 1)) (by omega) fun av' g5 KG5 oa5 fxa => ?_
      rw [← sx] at oa5
      have hn5 := KG5.n
      have fa5 : ∀ j, isBk av' j → B ≤ j := fun j hj => by
        rcases fxa j hj with h | h
        · exact fa j h
        · omega
      have ol5 : Ol g5 B (fun j => isBk av' j) lv' (onL on p (i + 1)) := by
        have a1 : Ol g4 B (fun j => isBk av j ∨ isBk av' j) lv' (onL on p (i + 1)) := ol4.reN KG4.w' fun j hj => by
          rcases hj with h | h
          · exact .inl h
          · rcases fxa j h with h | h
            · exact .inl h
            · exact .inr h
        exact (a1.ke KG5 fun j hj => .inl (.inl hj)).weak (Nat.le_refl _) fun j hj => .inr hj
      (try simp -dsimp (disch := omega) only [↓pre, sp, sp2, wp_some, Int.cast_ofNat_Int, Nat.reduceAdd, Nat.reduceMul, Nat.reduceSub, Nat.reduceLeDiff, Nat.reduceEqDiff, Nat.reducePow, Int.reduceToNat, Int.reducePow, Int.reduceAdd, Int.reduceSub, Int.reduceMul, Int.reduceLT, Int.reduceLE, Int.reduceEq, Int.reduceNeg, ei])
      have k4 : Kp h g4 := Ke.new_p (kg.trans KG3) KG4 fun j hj => by have := hbB j hj; omega
      have k5 : Kp h g5 := Ke.new_p k4 KG5 fun j hj => by have := fa j hj; omega
      exact hj (m - 1) _ _ (by omega) ⟨i + 1, lv', av', rfl, by omega, k5, by omega, ol5, oa5, fa5⟩
  · have hi : i = min os.length S.length := by
      simp only [Bool.and_eq_false_iff, decide_eq_false_iff_not] at d
      omega
    clear hj
    have lx := tms_len S i
    have ll := onL_len on p i
    have lI := onL_I on ptI i
    have aI := tms_I S (show i ≤ 1000 by omega)
    (try simp -dsimp (disch := omega) only [↓pre, sp, sp2, wp_some, Int.cast_ofNat_Int, Nat.reduceAdd, Nat.reduceMul, Nat.reduceSub, Nat.reduceLeDiff, Nat.reduceEqDiff, Nat.reducePow, Int.reduceToNat, Int.reducePow, Int.reduceAdd, Int.reduceSub, Int.reduceMul, Int.reduceLT, Int.reduceLE, Int.reduceEq, Int.reduceNeg, er, ep])
    refine Wp.bind (lives_spec H n kg.w' (tb.ke kg) .ton ol oa.si (by omega) (by omega) lI aI) fun v g1 ⟨KG1, x1, ev, op1⟩ => ?_
    subst ev
    (try simp -dsimp (disch := omega) only [↓pre, sp, sp2, wp_some, Int.cast_ofNat_Int, Nat.reduceAdd, Nat.reduceMul, Nat.reduceSub, Nat.reduceLeDiff, Nat.reduceEqDiff, Nat.reducePow, Int.reduceToNat, Int.reducePow, Int.reduceAdd, Int.reduceSub, Int.reduceMul, Int.reduceLT, Int.reduceLE, Int.reduceEq, Int.reduceNeg])
    refine Wp.bind (lives_spec H n KG1.w' (tb.ke (kg.trans KG1)) .tof (ol.kp KG1) (oik oa KG1).si (by omega) (by omega) lI aI) fun v g2 ⟨KG2, x2, ev, op2⟩ => ?_
    subst ev
    have k02 : Kp g0 g2 := KG1.trans KG2
    (try simp -dsimp (disch := omega) only [↓pre, sp, sp2, wp_some, Int.cast_ofNat_Int, Nat.reduceAdd, Nat.reduceMul, Nat.reduceSub, Nat.reduceLeDiff, Nat.reduceEqDiff, Nat.reducePow, Int.reduceToNat, Int.reducePow, Int.reduceAdd, Int.reduceSub, Int.reduceMul, Int.reduceLT, Int.reduceLE, Int.reduceEq, Int.reduceNeg])
    refine Wp.bind (lives_spec H n KG2.w' (tb.ke (kg.trans k02)) .tp (ol.kp k02) (oik oa k02).si (by omega) (by omega) lI aI) fun v g3 ⟨KG3, x3, ev, op3⟩ => ?_
    subst ev
    have k03 : Kp g0 g3 := k02.trans KG3
    have op1' := op1.kp (KG2.trans KG3)
    have op2' := op2.kp KG3
    have ol3 := ol.kp k03
    have oa3 := oik oa k03
    have hM : ∀ b : Bl, (livesM b (onL on p i) (tms S i)).length = i := fun b => by rw [livesM_len, ll, lx]; omega
    have hat : ∀ (b : Bl) (k : Nat), k < i → (livesM b (onL on p i) (tms S i)).getD k [] = (sts b (onL on p i) (tms S i) (k + 1)).out := fun b k hk => livesM_at _ _ _ (by rw [ll, lx]; omega)
    (try simp -dsimp (disch := omega) only [↓pre, sp, sp2, wp_some, Int.cast_ofNat_Int, Nat.reduceAdd, Nat.reduceMul, Nat.reduceSub, Nat.reduceLeDiff, Nat.reduceEqDiff, Nat.reducePow, Int.reduceToNat, Int.reducePow, Int.reduceAdd, Int.reduceSub, Int.reduceMul, Int.reduceLT, Int.reduceLE, Int.reduceEq, Int.reduceNeg])
    refine wp_kT (.bool false) (fun j3 hj3 => ?_) ?_
    · (try simp -dsimp (disch := omega) only [↓pre, sp, sp2, wp_some, Int.cast_ofNat_Int, Nat.reduceAdd, Nat.reduceMul, Nat.reduceSub, Nat.reduceLeDiff, Nat.reduceEqDiff, Nat.reducePow, Int.reduceToNat, Int.reducePow, Int.reduceAdd, Int.reduceSub, Int.reduceMul, Int.reduceLT, Int.reduceLE, Int.reduceEq, Int.reduceNeg])
      exact hj3
    (try simp -dsimp (disch := omega) only [↓pre, sp, sp2, wp_some, Int.cast_ofNat_Int, Nat.reduceAdd, Nat.reduceMul, Nat.reduceSub, Nat.reduceLeDiff, Nat.reduceEqDiff, Nat.reducePow, Int.reduceToNat, Int.reducePow, Int.reduceAdd, Int.reduceSub, Int.reduceMul, Int.reduceLT, Int.reduceLE, Int.reduceEq, Int.reduceNeg])
    refine wp_loop (DkI on p S i (sts .ton (onL on p i) (tms S i)) (sts .tof (onL on p i) (tms S i)) (sts .tp (onL on p i) (tms S i)) g3) i (by omega)
      ⟨0, -1, -1, -1, false, rfl, by omega, rfl, ⟨rfl, fun h => by cases h⟩, ⟨rfl, fun _ => .inl ⟨rfl, rfl⟩⟩, ⟨rfl, .inl rfl, .inl ⟨rfl, show (0 : Int) ≠ 1 by decide⟩⟩, by simp [tm], by simp [tm], by simp [tm]⟩ ?_
    rintro m2 _ g j2 ⟨k, since, gone, pulse, was, rfl, hkm, e, J1, J2, J3, b1, b2, b3⟩ hj2
    subst e
    unfold L_runglaw17_FbDelays_0
    (try simp -dsimp (disch := omega) only [↓pre, sp, sp2, wp_some, Int.cast_ofNat_Int, Nat.reduceAdd, Nat.reduceMul, Nat.reduceSub, Nat.reduceLeDiff, Nat.reduceEqDiff, Nat.reducePow, Int.reduceToNat, Int.reducePow, Int.reduceAdd, Int.reduceSub, Int.reduceMul, Int.reduceLT, Int.reduceLE, Int.reduceEq, Int.reduceNeg, ol3.len])
    refine wp_ite (fun c4 => ?_) (fun c4 => ?_)
    · have hk : k < i := by omega
      have hi80 : i ≤ 80 := by omega
      have ek : IntKind.wrap .i64 ((k : Int) + 1) = ((k + 1 : Nat) : Int) := by rw [wr_i64 (by omega) (by omega)]; omega
      obtain ⟨sv, el, os'⟩ := ol3.ld (show k < (onL on p i).length by omega)
      rw [onL_at on p hk] at os'
      have dsv : rLoad (ea sv 0) g3 = some (.int .i64 (tr (on k))) := os'.si.ldI (by simp)
      have rsv : Sz g3 sv 1 2 (i64s [tr (on k), p]) .rw := os'.si
      have enow : rLoad (ea av k) g3 = some (.int .i64 (tm S (k + 1))) := by rw [oa3.si.ldI (by omega), tms_at S hk]
      have rav : Sz g3 av 1 i (i64s (tms S i)) .rw := (Ow.rd oa3).to rfl lx
      obtain ⟨s1, l1, o1⟩ := op1'.ld (show k < _ by rw [hM]; exact hk)
      obtain ⟨s2, l2, o2⟩ := op2'.ld (show k < _ by rw [hM]; exact hk)
      obtain ⟨s3, l3, o3⟩ := op3.ld (show k < _ by rw [hM]; exact hk)
      rw [hat _ _ hk] at o1 o2 o3
      have r1 := fun (q : Int) (h0 : 0 ≤ q) (h1 : q < i) => op1'.at (k := .i64) h0 (show q < _ by rw [hM]; exact h1)
      have r2 := fun (q : Int) (h0 : 0 ≤ q) (h1 : q < i) => op2'.at (k := .i64) h0 (show q < _ by rw [hM]; exact h1)
      have r3 := fun (q : Int) (h0 : 0 ≤ q) (h1 : q < i) => op3.at (k := .i64) h0 (show q < _ by rw [hM]; exact h1)
      have es : ∀ b : Bl, sts b (onL on p i) (tms S i) (k + 1) = stepT b (on k) p (sts b (onL on p i) (tms S i) k) (tm S (k + 1)) := fun b => by simp only [sts, stepT, onL_at on p hk, tms_at S hk]
      have tR0 := tm_R S k
      have tR1 := tm_R S (k + 1)
      have tmono : tm S k ≤ tm S (k + 1) := by simp only [tm]; omega
      obtain ⟨D1a, D1l, D1j⟩ := del_ton (on := on k) hpR tR0.1 tmono (by omega) J1
      obtain ⟨D2a, D2l, D2j⟩ := del_tof (on := on k) hpR tR0.1 tmono (by omega) J2
      obtain ⟨Q1, hQ1⟩ : ∃ Q1, Q1 = if pulse ≥ 0 ∧ tm S (k + 1) - pulse ≥ p then (if on k && !was then (-2 : Int) else -1) else pulse := ⟨_, rfl⟩
      obtain ⟨Q2, hQ2⟩ : ∃ Q2, Q2 = if Q1 = -1 ∧ (on k && !was) = true then tm S (k + 1) else Q1 := ⟨_, rfl⟩
      obtain ⟨D3a, D3b, D3l, D3j, D3x, D3y⟩ := del_tp (on := on k) hpR tR0.1 tmono (by omega) J3 hQ1 hQ2
      rw [← es] at D1a D1l D1j D2a D2l D2j D3a D3b D3l D3j
      have d1 : rLoad (ea s1 0) g3 = some (.int .i64 (gi (sts .ton (onL on p i) (tms S i) (k + 1)).out 0)) := o1.si.ldI (by omega)
      have d2 : rLoad (ea s2 0) g3 = some (.int .i64 (gi (sts .tof (onL on p i) (tms S i) (k + 1)).out 0)) := o2.si.ldI (by omega)
      have d3 : rLoad (ea s3 0) g3 = some (.int .i64 (gi (sts .tp (onL on p i) (tms S i) (k + 1)).out 0)) := o3.si.ldI (by omega)
      have rr1 := fun (q : Int) (h0 : 0 ≤ q) (h1 : q < 2) => o1.si.at (k := .i64) h0 (show q < _ by omega)
      have rr2 := fun (q : Int) (h0 : 0 ≤ q) (h1 : q < 2) => o2.si.at (k := .i64) h0 (show q < _ by omega)
      have rr3 := fun (q : Int) (h0 : 0 ≤ q) (h1 : q < 2) => o3.si.at (k := .i64) h0 (show q < _ by omega)
      obtain ⟨S1, hS1⟩ : ∃ S1, S1 = if on k && !was then tm S (k + 1) else since := ⟨_, rfl⟩
      obtain ⟨G1, hG1⟩ : ∃ G1, G1 = if !on k && was then tm S (k + 1) else gone := ⟨_, rfl⟩
      rw [← hS1] at D1a D1j
      rw [← hG1] at D2a D2j
      clear J1 J2 J3 es hat hM o1 o2 o3 D1l D2l D3l
      have bS : -1 ≤ S1 ∧ S1 ≤ tm S (k + 1) := by rw [hS1]; split <;> omega
      have bG : -1 ≤ G1 ∧ G1 ≤ tm S (k + 1) := by rw [hG1]; split <;> omega
      generalize gi (sts .ton (onL on p i) (tms S i) (k + 1)).out 0 = V1 at *
      generalize gi (sts .tof (onL on p i) (tms S i) (k + 1)).out 0 = V2 at *
      generalize gi (sts .tp (onL on p i) (tms S i) (k + 1)).out 0 = V3 at *
      have hV1 : decide (V1 = 1) = (on k && decide (tm S (k + 1) - S1 ≥ p)) := by
        rw [Bool.eq_iff_iff]; simpa using D1a
      have hV2 : decide (V2 = 1) = (on k || decide (G1 ≥ 0) && decide (tm S (k + 1) - G1 < p)) := by
        rw [Bool.eq_iff_iff]; simpa using D2a
      clear D1a D2a
      have wp1 : IntKind.wrap .i64 (tm S (k + 1) - pulse) = tm S (k + 1) - pulse := wr_i64 (by omega) (by omega)
      have ws1 : IntKind.wrap .i64 (tm S (k + 1) - S1) = tm S (k + 1) - S1 := wr_i64 (by omega) (by omega)
      have wg1 : IntKind.wrap .i64 (tm S (k + 1) - G1) = tm S (k + 1) - G1 := wr_i64 (by omega) (by omega)
      have wq2 : IntKind.wrap .i64 (tm S (k + 1) - Q2) = tm S (k + 1) - Q2 := wr_i64 (by omega) (by omega)
      generalize hnn : tm S (k + 1) = nn at *
      generalize hX : on k = X at *
      (try simp -dsimp (disch := omega) only [↓pre, sp, sp2, wp_some, Int.cast_ofNat_Int, Nat.reduceAdd, Nat.reduceMul, Nat.reduceSub, Nat.reduceLeDiff, Nat.reduceEqDiff, Nat.reducePow, Int.reduceToNat, Int.reducePow, Int.reduceAdd, Int.reduceSub, Int.reduceMul, Int.reduceLT, Int.reduceLE, Int.reduceEq, Int.reduceNeg, ol3.at, el, rsv.at, dsv, tr_dec])
      refine wp_kT (.bool (X && !was)) (fun j3 hj3 => ?_) ?_
      · clear hV1 hV2 hQ1 hQ2 hS1 hG1 D1j D2j D3j hj2 hX
        cases X
        · (try simp -dsimp (disch := omega) only [↓pre, sp, sp2, wp_some, Int.cast_ofNat_Int, Nat.reduceAdd, Nat.reduceMul, Nat.reduceSub, Nat.reduceLeDiff, Nat.reduceEqDiff, Nat.reducePow, Int.reduceToNat, Int.reducePow, Int.reduceAdd, Int.reduceSub, Int.reduceMul, Int.reduceLT, Int.reduceLE, Int.reduceEq, Int.reduceNeg]); exact hj3
        · (try simp -dsimp (disch := omega) only [↓pre, sp, sp2, wp_some, Int.cast_ofNat_Int, Nat.reduceAdd, Nat.reduceMul, Nat.reduceSub, Nat.reduceLeDiff, Nat.reduceEqDiff, Nat.reducePow, Int.reduceToNat, Int.reducePow, Int.reduceAdd, Int.reduceSub, Int.reduceMul, Int.reduceLT, Int.reduceLE, Int.reduceEq, Int.reduceNeg]); exact hj3
      refine wp_kJ (fun l g => l = [.int .i64 S1] ∧ g = g3) (fun j135 hj135 => ?_) ?_
      · refine wp_kIf (fun z => ?_) (fun z => ?_)
        · rw [if_pos z] at hS1
          (try simp -dsimp (disch := omega) only [↓pre, sp, sp2, wp_some, Int.cast_ofNat_Int, Nat.reduceAdd, Nat.reduceMul, Nat.reduceSub, Nat.reduceLeDiff, Nat.reduceEqDiff, Nat.reducePow, Int.reduceToNat, Int.reducePow, Int.reduceAdd, Int.reduceSub, Int.reduceMul, Int.reduceLT, Int.reduceLE, Int.reduceEq, Int.reduceNeg, rav.at, enow])
          exact hj135 _ _ ⟨by rw [hS1], rfl⟩
        · rw [if_neg (by rw [z]; decide)] at hS1
          (try simp -dsimp (disch := omega) only [↓pre, sp, sp2, wp_some, Int.cast_ofNat_Int, Nat.reduceAdd, Nat.reduceMul, Nat.reduceSub, Nat.reduceLeDiff, Nat.reduceEqDiff, Nat.reducePow, Int.reduceToNat, Int.reducePow, Int.reduceAdd, Int.reduceSub, Int.reduceMul, Int.reduceLT, Int.reduceLE, Int.reduceEq, Int.reduceNeg])
          exact hj135 _ _ ⟨by rw [hS1], rfl⟩
      rintro _ g ⟨rfl, e⟩
      subst e
      (try simp -dsimp (disch := omega) only [↓pre, sp, sp2, wp_some, Int.cast_ofNat_Int, Nat.reduceAdd, Nat.reduceMul, Nat.reduceSub, Nat.reduceLeDiff, Nat.reduceEqDiff, Nat.reducePow, Int.reduceToNat, Int.reducePow, Int.reduceAdd, Int.reduceSub, Int.reduceMul, Int.reduceLT, Int.reduceLE, Int.reduceEq, Int.reduceNeg])
      refine wp_kT (.bool (!X && was)) (fun j3 hj3 => ?_) ?_
      · clear hV1 hV2 hQ1 hQ2 hS1 hG1 D1j D2j D3j hj2 hX
        cases X
        · (try simp -dsimp (disch := omega) only [↓pre, sp, sp2, wp_some, Int.cast_ofNat_Int, Nat.reduceAdd, Nat.reduceMul, Nat.reduceSub, Nat.reduceLeDiff, Nat.reduceEqDiff, Nat.reducePow, Int.reduceToNat, Int.reducePow, Int.reduceAdd, Int.reduceSub, Int.reduceMul, Int.reduceLT, Int.reduceLE, Int.reduceEq, Int.reduceNeg]); exact hj3
        · (try simp -dsimp (disch := omega) only [↓pre, sp, sp2, wp_some, Int.cast_ofNat_Int, Nat.reduceAdd, Nat.reduceMul, Nat.reduceSub, Nat.reduceLeDiff, Nat.reduceEqDiff, Nat.reducePow, Int.reduceToNat, Int.reducePow, Int.reduceAdd, Int.reduceSub, Int.reduceMul, Int.reduceLT, Int.reduceLE, Int.reduceEq, Int.reduceNeg]); exact hj3
      refine wp_kJ (fun l g' => l = [.int .i64 G1] ∧ g' = g) (fun j144 hj144 => ?_) ?_
      · refine wp_kIf (fun z => ?_) (fun z => ?_)
        · rw [if_pos z] at hG1
          (try simp -dsimp (disch := omega) only [↓pre, sp, sp2, wp_some, Int.cast_ofNat_Int, Nat.reduceAdd, Nat.reduceMul, Nat.reduceSub, Nat.reduceLeDiff, Nat.reduceEqDiff, Nat.reducePow, Int.reduceToNat, Int.reducePow, Int.reduceAdd, Int.reduceSub, Int.reduceMul, Int.reduceLT, Int.reduceLE, Int.reduceEq, Int.reduceNeg, rav.at, enow])
          exact hj144 _ _ ⟨by rw [hG1], rfl⟩
        · rw [if_neg (by rw [z]; decide)] at hG1
          (try simp -dsimp (disch := omega) only [↓pre, sp, sp2, wp_some, Int.cast_ofNat_Int, Nat.reduceAdd, Nat.reduceMul, Nat.reduceSub, Nat.reduceLeDiff, Nat.reduceEqDiff, Nat.reducePow, Int.reduceToNat, Int.reducePow, Int.reduceAdd, Int.reduceSub, Int.reduceMul, Int.reduceLT, Int.reduceLE, Int.reduceEq, Int.reduceNeg])
          exact hj144 _ _ ⟨by rw [hG1], rfl⟩
      rintro _ g' ⟨rfl, e⟩
      subst e
      (try simp -dsimp (disch := omega) only [↓pre, sp, sp2, wp_some, Int.cast_ofNat_Int, Nat.reduceAdd, Nat.reduceMul, Nat.reduceSub, Nat.reduceLeDiff, Nat.reduceEqDiff, Nat.reducePow, Int.reduceToNat, Int.reducePow, Int.reduceAdd, Int.reduceSub, Int.reduceMul, Int.reduceLT, Int.reduceLE, Int.reduceEq, Int.reduceNeg])
      refine wp_kT (.bool (decide (pulse ≥ 0) && decide (nn - pulse ≥ p))) (fun j3 hj3 => ?_) ?_
      · by_cases z : pulse ≥ 0
        · rw [decide_eq_true z] at hj3
          (try simp -dsimp (disch := omega) only [↓pre, sp, sp2, wp_some, Int.cast_ofNat_Int, Nat.reduceAdd, Nat.reduceMul, Nat.reduceSub, Nat.reduceLeDiff, Nat.reduceEqDiff, Nat.reducePow, Int.reduceToNat, Int.reducePow, Int.reduceAdd, Int.reduceSub, Int.reduceMul, Int.reduceLT, Int.reduceLE, Int.reduceEq, Int.reduceNeg, z, rav.at, enow, wp1]); exact hj3
        · rw [decide_eq_false z] at hj3
          (try simp -dsimp (disch := omega) only [↓pre, sp, sp2, wp_some, Int.cast_ofNat_Int, Nat.reduceAdd, Nat.reduceMul, Nat.reduceSub, Nat.reduceLeDiff, Nat.reduceEqDiff, Nat.reducePow, Int.reduceToNat, Int.reducePow, Int.reduceAdd, Int.reduceSub, Int.reduceMul, Int.reduceLT, Int.reduceLE, Int.reduceEq, Int.reduceNeg, z]); exact hj3
      refine wp_kJ (fun l gg => l = [.int .i64 Q1] ∧ gg = g') (fun j160 hj160 => ?_) ?_
      · refine wp_kIf (fun z => ?_) (fun z => ?_)
        · have z' : pulse ≥ 0 ∧ nn - pulse ≥ p := by simpa using z
          rw [if_pos z'] at hQ1
          (try simp -dsimp (disch := omega) only [↓pre, sp, sp2, wp_some, Int.cast_ofNat_Int, Nat.reduceAdd, Nat.reduceMul, Nat.reduceSub, Nat.reduceLeDiff, Nat.reduceEqDiff, Nat.reducePow, Int.reduceToNat, Int.reducePow, Int.reduceAdd, Int.reduceSub, Int.reduceMul, Int.reduceLT, Int.reduceLE, Int.reduceEq, Int.reduceNeg])
          refine wp_kT (.bool (X && !was)) (fun j3 hj3 => ?_) ?_
          · clear hV1 hV2 hQ1 hQ2 hS1 hG1 D1j D2j D3j hj2 hX
            cases X
            · (try simp -dsimp (disch := omega) only [↓pre, sp, sp2, wp_some, Int.cast_ofNat_Int, Nat.reduceAdd, Nat.reduceMul, Nat.reduceSub, Nat.reduceLeDiff, Nat.reduceEqDiff, Nat.reducePow, Int.reduceToNat, Int.reducePow, Int.reduceAdd, Int.reduceSub, Int.reduceMul, Int.reduceLT, Int.reduceLE, Int.reduceEq, Int.reduceNeg]); exact hj3
            · (try simp -dsimp (disch := omega) only [↓pre, sp, sp2, wp_some, Int.cast_ofNat_Int, Nat.reduceAdd, Nat.reduceMul, Nat.reduceSub, Nat.reduceLeDiff, Nat.reduceEqDiff, Nat.reducePow, Int.reduceToNat, Int.reducePow, Int.reduceAdd, Int.reduceSub, Int.reduceMul, Int.reduceLT, Int.reduceLE, Int.reduceEq, Int.reduceNeg]); exact hj3
          refine wp_kJ (fun l gg => l = [.int .i64 Q1] ∧ gg = g') (fun j278 hj278 => ?_) ?_
          · refine wp_kIf (fun y => ?_) (fun y => ?_)
            · rw [if_pos y] at hQ1
              (try simp -dsimp (disch := omega) only [↓pre, sp, sp2, wp_some, Int.cast_ofNat_Int, Nat.reduceAdd, Nat.reduceMul, Nat.reduceSub, Nat.reduceLeDiff, Nat.reduceEqDiff, Nat.reducePow, Int.reduceToNat, Int.reducePow, Int.reduceAdd, Int.reduceSub, Int.reduceMul, Int.reduceLT, Int.reduceLE, Int.reduceEq, Int.reduceNeg])
              exact hj278 _ _ ⟨by rw [hQ1], rfl⟩
            · rw [if_neg (by rw [y]; decide)] at hQ1
              (try simp -dsimp (disch := omega) only [↓pre, sp, sp2, wp_some, Int.cast_ofNat_Int, Nat.reduceAdd, Nat.reduceMul, Nat.reduceSub, Nat.reduceLeDiff, Nat.reduceEqDiff, Nat.reducePow, Int.reduceToNat, Int.reducePow, Int.reduceAdd, Int.reduceSub, Int.reduceMul, Int.reduceLT, Int.reduceLE, Int.reduceEq, Int.reduceNeg])
              exact hj278 _ _ ⟨by rw [hQ1], rfl⟩
          · rintro _ g' ⟨rfl, e⟩
            (try simp -dsimp (disch := omega) only [↓pre, sp, sp2, wp_some, Int.cast_ofNat_Int, Nat.reduceAdd, Nat.reduceMul, Nat.reduceSub, Nat.reduceLeDiff, Nat.reduceEqDiff, Nat.reducePow, Int.reduceToNat, Int.reducePow, Int.reduceAdd, Int.reduceSub, Int.reduceMul, Int.reduceLT, Int.reduceLE, Int.reduceEq, Int.reduceNeg])
            exact hj160 _ _ ⟨rfl, e⟩
        · have z' : ¬ (pulse ≥ 0 ∧ nn - pulse ≥ p) := by
            intro y; simp [y.1, y.2] at z
          rw [if_neg z'] at hQ1
          (try simp -dsimp (disch := omega) only [↓pre, sp, sp2, wp_some, Int.cast_ofNat_Int, Nat.reduceAdd, Nat.reduceMul, Nat.reduceSub, Nat.reduceLeDiff, Nat.reduceEqDiff, Nat.reducePow, Int.reduceToNat, Int.reducePow, Int.reduceAdd, Int.reduceSub, Int.reduceMul, Int.reduceLT, Int.reduceLE, Int.reduceEq, Int.reduceNeg])
          exact hj160 _ _ ⟨by rw [hQ1], rfl⟩
      rintro _ g1' ⟨rfl, e⟩
      subst e
      (try simp -dsimp (disch := omega) only [↓pre, sp, sp2, wp_some, Int.cast_ofNat_Int, Nat.reduceAdd, Nat.reduceMul, Nat.reduceSub, Nat.reduceLeDiff, Nat.reduceEqDiff, Nat.reducePow, Int.reduceToNat, Int.reducePow, Int.reduceAdd, Int.reduceSub, Int.reduceMul, Int.reduceLT, Int.reduceLE, Int.reduceEq, Int.reduceNeg])
      refine wp_kT (.bool (decide (Q1 = -1) && (X && !was))) (fun j3 hj3 => ?_) ?_
      · clear hV1 hV2 hS1 hG1 D1j D2j D3j hj2 hX hQ2 hQ1
        by_cases z : Q1 = -1
        · rw [decide_eq_true z] at hj3
          cases X
          · (try simp -dsimp (disch := omega) only [↓pre, sp, sp2, wp_some, Int.cast_ofNat_Int, Nat.reduceAdd, Nat.reduceMul, Nat.reduceSub, Nat.reduceLeDiff, Nat.reduceEqDiff, Nat.reducePow, Int.reduceToNat, Int.reducePow, Int.reduceAdd, Int.reduceSub, Int.reduceMul, Int.reduceLT, Int.reduceLE, Int.reduceEq, Int.reduceNeg, z, decide_true]); exact hj3
          · (try simp -dsimp (disch := omega) only [↓pre, sp, sp2, wp_some, Int.cast_ofNat_Int, Nat.reduceAdd, Nat.reduceMul, Nat.reduceSub, Nat.reduceLeDiff, Nat.reduceEqDiff, Nat.reducePow, Int.reduceToNat, Int.reducePow, Int.reduceAdd, Int.reduceSub, Int.reduceMul, Int.reduceLT, Int.reduceLE, Int.reduceEq, Int.reduceNeg, z, decide_true]); exact hj3
        · rw [decide_eq_false z] at hj3
          (try simp -dsimp (disch := omega) only [↓pre, sp, sp2, wp_some, Int.cast_ofNat_Int, Nat.reduceAdd, Nat.reduceMul, Nat.reduceSub, Nat.reduceLeDiff, Nat.reduceEqDiff, Nat.reducePow, Int.reduceToNat, Int.reducePow, Int.reduceAdd, Int.reduceSub, Int.reduceMul, Int.reduceLT, Int.reduceLE, Int.reduceEq, Int.reduceNeg, z]); exact hj3
      refine wp_kJ (fun l gg => l = [.int .i64 Q2] ∧ gg = g1') (fun j173 hj173 => ?_) ?_
      · refine wp_kIf (fun z => ?_) (fun z => ?_)
        · have z' : Q1 = -1 ∧ (X && !was) = true := by simpa using z
          rw [if_pos z'] at hQ2
          (try simp -dsimp (disch := omega) only [↓pre, sp, sp2, wp_some, Int.cast_ofNat_Int, Nat.reduceAdd, Nat.reduceMul, Nat.reduceSub, Nat.reduceLeDiff, Nat.reduceEqDiff, Nat.reducePow, Int.reduceToNat, Int.reducePow, Int.reduceAdd, Int.reduceSub, Int.reduceMul, Int.reduceLT, Int.reduceLE, Int.reduceEq, Int.reduceNeg, rav.at, enow])
          exact hj173 _ _ ⟨by rw [hQ2], rfl⟩
        · have z' : ¬ (Q1 = -1 ∧ (X && !was) = true) := by
            intro y; rw [decide_eq_true y.1, y.2] at z; cases z
          rw [if_neg z'] at hQ2
          (try simp -dsimp (disch := omega) only [↓pre, sp, sp2, wp_some, Int.cast_ofNat_Int, Nat.reduceAdd, Nat.reduceMul, Nat.reduceSub, Nat.reduceLeDiff, Nat.reduceEqDiff, Nat.reducePow, Int.reduceToNat, Int.reducePow, Int.reduceAdd, Int.reduceSub, Int.reduceMul, Int.reduceLT, Int.reduceLE, Int.reduceEq, Int.reduceNeg])
          exact hj173 _ _ ⟨by rw [hQ2], rfl⟩
      rintro _ g'' ⟨rfl, e⟩
      subst e
      clear hQ1 hQ2 hS1 hG1
      (try simp -dsimp (disch := omega) only [↓pre, sp, sp2, wp_some, Int.cast_ofNat_Int, Nat.reduceAdd, Nat.reduceMul, Nat.reduceSub, Nat.reduceLeDiff, Nat.reduceEqDiff, Nat.reducePow, Int.reduceToNat, Int.reducePow, Int.reduceAdd, Int.reduceSub, Int.reduceMul, Int.reduceLT, Int.reduceLE, Int.reduceEq, Int.reduceNeg, r1, l1, rr1, d1])
      cases X
      · simp only [Bool.false_and, Bool.false_or] at hV1 hV2
        by_cases y0 : G1 ≥ 0
        · rw [decide_eq_true y0, Bool.true_and] at hV2
          (try simp -dsimp (disch := omega) only [↓pre, sp, sp2, wp_some, Int.cast_ofNat_Int, Nat.reduceAdd, Nat.reduceMul, Nat.reduceSub, Nat.reduceLeDiff, Nat.reduceEqDiff, Nat.reducePow, Int.reduceToNat, Int.reducePow, Int.reduceAdd, Int.reduceSub, Int.reduceMul, Int.reduceLT, Int.reduceLE, Int.reduceEq, Int.reduceNeg, hV1, beq_no, r2, l2, rr2, d2, y0, rav.at, enow, wg1, hV2])
          (try simp -dsimp (disch := omega) only [↓pre, sp, sp2, wp_some, Int.cast_ofNat_Int, Nat.reduceAdd, Nat.reduceMul, Nat.reduceSub, Nat.reduceLeDiff, Nat.reduceEqDiff, Nat.reducePow, Int.reduceToNat, Int.reducePow, Int.reduceAdd, Int.reduceSub, Int.reduceMul, Int.reduceLT, Int.reduceLE, Int.reduceEq, Int.reduceNeg])
          refine wp_kT (.bool false) (fun j3 hj3 => ?_) ?_
          · clear hj2 D1j D2j D3j
            by_cases z0 : Q2 ≥ 0
            · by_cases z1 : nn - Q2 < p
              · have z2 := D3a ⟨z0, z1⟩
                have z3 : ¬ Q2 = -1 := by omega
                (try simp -dsimp (disch := omega) only [↓pre, sp, sp2, wp_some, Int.cast_ofNat_Int, Nat.reduceAdd, Nat.reduceMul, Nat.reduceSub, Nat.reduceLeDiff, Nat.reduceEqDiff, Nat.reducePow, Int.reduceToNat, Int.reducePow, Int.reduceAdd, Int.reduceSub, Int.reduceMul, Int.reduceLT, Int.reduceLE, Int.reduceEq, Int.reduceNeg, z0, rav.at, enow, wq2, z1, r3, l3, rr3, d3, z2, z3, not_true, decide_false])
                exact hj3
              · have z3 : ¬ Q2 = -1 := by omega
                (try simp -dsimp (disch := omega) only [↓pre, sp, sp2, wp_some, Int.cast_ofNat_Int, Nat.reduceAdd, Nat.reduceMul, Nat.reduceSub, Nat.reduceLeDiff, Nat.reduceEqDiff, Nat.reducePow, Int.reduceToNat, Int.reducePow, Int.reduceAdd, Int.reduceSub, Int.reduceMul, Int.reduceLT, Int.reduceLE, Int.reduceEq, Int.reduceNeg, z0, rav.at, enow, wq2, z1, z3])
                exact hj3
            · by_cases z3 : Q2 = -1
              · have z4 := D3b z3
                (try simp -dsimp (disch := omega) only [↓pre, sp, sp2, wp_some, Int.cast_ofNat_Int, Nat.reduceAdd, Nat.reduceMul, Nat.reduceSub, Nat.reduceLeDiff, Nat.reduceEqDiff, Nat.reducePow, Int.reduceToNat, Int.reducePow, Int.reduceAdd, Int.reduceSub, Int.reduceMul, Int.reduceLT, Int.reduceLE, Int.reduceEq, Int.reduceNeg, z0])
                (try simp -dsimp (disch := omega) only [↓pre, sp, sp2, wp_some, Int.cast_ofNat_Int, Nat.reduceAdd, Nat.reduceMul, Nat.reduceSub, Nat.reduceLeDiff, Nat.reduceEqDiff, Nat.reducePow, Int.reduceToNat, Int.reducePow, Int.reduceAdd, Int.reduceSub, Int.reduceMul, Int.reduceLT, Int.reduceLE, Int.reduceEq, Int.reduceNeg, z3, r3, l3, rr3, d3, z4, not_true, decide_false, decide_true])
                exact hj3
              · (try simp -dsimp (disch := omega) only [↓pre, sp, sp2, wp_some, Int.cast_ofNat_Int, Nat.reduceAdd, Nat.reduceMul, Nat.reduceSub, Nat.reduceLeDiff, Nat.reduceEqDiff, Nat.reducePow, Int.reduceToNat, Int.reducePow, Int.reduceAdd, Int.reduceSub, Int.reduceMul, Int.reduceLT, Int.reduceLE, Int.reduceEq, Int.reduceNeg, z0, z3])
                exact hj3
          (try simp -dsimp (disch := omega) only [↓pre, sp, sp2, wp_some, Int.cast_ofNat_Int, Nat.reduceAdd, Nat.reduceMul, Nat.reduceSub, Nat.reduceLeDiff, Nat.reduceEqDiff, Nat.reducePow, Int.reduceToNat, Int.reducePow, Int.reduceAdd, Int.reduceSub, Int.reduceMul, Int.reduceLT, Int.reduceLE, Int.reduceEq, Int.reduceNeg])
          refine wp_ite (fun z5 => ?_) (fun z5 => ?_)
          · (try simp -dsimp (disch := omega) only [↓pre, sp, sp2, wp_some, Int.cast_ofNat_Int, Nat.reduceAdd, Nat.reduceMul, Nat.reduceSub, Nat.reduceLeDiff, Nat.reduceEqDiff, Nat.reducePow, Int.reduceToNat, Int.reducePow, Int.reduceAdd, Int.reduceSub, Int.reduceMul, Int.reduceLT, Int.reduceLE, Int.reduceEq, Int.reduceNeg])
          · (try simp -dsimp (disch := omega) only [↓pre, sp, sp2, wp_some, Int.cast_ofNat_Int, Nat.reduceAdd, Nat.reduceMul, Nat.reduceSub, Nat.reduceLeDiff, Nat.reduceEqDiff, Nat.reducePow, Int.reduceToNat, Int.reducePow, Int.reduceAdd, Int.reduceSub, Int.reduceMul, Int.reduceLT, Int.reduceLE, Int.reduceEq, Int.reduceNeg, ek])
            subst hnn
            exact hj2 (m2 - 1) _ _ (by omega) ⟨k + 1, S1, G1, Q2, false, rfl, by omega, rfl, D1j, D2j, D3j z5, by omega, by omega, by omega⟩
        · rw [decide_eq_false y0, Bool.false_and] at hV2
          (try simp -dsimp (disch := omega) only [↓pre, sp, sp2, wp_some, Int.cast_ofNat_Int, Nat.reduceAdd, Nat.reduceMul, Nat.reduceSub, Nat.reduceLeDiff, Nat.reduceEqDiff, Nat.reducePow, Int.reduceToNat, Int.reducePow, Int.reduceAdd, Int.reduceSub, Int.reduceMul, Int.reduceLT, Int.reduceLE, Int.reduceEq, Int.reduceNeg, hV1, beq_no, r2, l2, rr2, d2, y0, hV2])
          (try simp -dsimp (disch := omega) only [↓pre, sp, sp2, wp_some, Int.cast_ofNat_Int, Nat.reduceAdd, Nat.reduceMul, Nat.reduceSub, Nat.reduceLeDiff, Nat.reduceEqDiff, Nat.reducePow, Int.reduceToNat, Int.reducePow, Int.reduceAdd, Int.reduceSub, Int.reduceMul, Int.reduceLT, Int.reduceLE, Int.reduceEq, Int.reduceNeg])
          refine wp_kT (.bool false) (fun j3 hj3 => ?_) ?_
          · clear hj2 D1j D2j D3j
            by_cases z0 : Q2 ≥ 0
            · by_cases z1 : nn - Q2 < p
              · have z2 := D3a ⟨z0, z1⟩
                have z3 : ¬ Q2 = -1 := by omega
                (try simp -dsimp (disch := omega) only [↓pre, sp, sp2, wp_some, Int.cast_ofNat_Int, Nat.reduceAdd, Nat.reduceMul, Nat.reduceSub, Nat.reduceLeDiff, Nat.reduceEqDiff, Nat.reducePow, Int.reduceToNat, Int.reducePow, Int.reduceAdd, Int.reduceSub, Int.reduceMul, Int.reduceLT, Int.reduceLE, Int.reduceEq, Int.reduceNeg, z0, rav.at, enow, wq2, z1, r3, l3, rr3, d3, z2, z3, not_true, decide_false])
                exact hj3
              · have z3 : ¬ Q2 = -1 := by omega
                (try simp -dsimp (disch := omega) only [↓pre, sp, sp2, wp_some, Int.cast_ofNat_Int, Nat.reduceAdd, Nat.reduceMul, Nat.reduceSub, Nat.reduceLeDiff, Nat.reduceEqDiff, Nat.reducePow, Int.reduceToNat, Int.reducePow, Int.reduceAdd, Int.reduceSub, Int.reduceMul, Int.reduceLT, Int.reduceLE, Int.reduceEq, Int.reduceNeg, z0, rav.at, enow, wq2, z1, z3])
                exact hj3
            · by_cases z3 : Q2 = -1
              · have z4 := D3b z3
                (try simp -dsimp (disch := omega) only [↓pre, sp, sp2, wp_some, Int.cast_ofNat_Int, Nat.reduceAdd, Nat.reduceMul, Nat.reduceSub, Nat.reduceLeDiff, Nat.reduceEqDiff, Nat.reducePow, Int.reduceToNat, Int.reducePow, Int.reduceAdd, Int.reduceSub, Int.reduceMul, Int.reduceLT, Int.reduceLE, Int.reduceEq, Int.reduceNeg, z0])
                (try simp -dsimp (disch := omega) only [↓pre, sp, sp2, wp_some, Int.cast_ofNat_Int, Nat.reduceAdd, Nat.reduceMul, Nat.reduceSub, Nat.reduceLeDiff, Nat.reduceEqDiff, Nat.reducePow, Int.reduceToNat, Int.reducePow, Int.reduceAdd, Int.reduceSub, Int.reduceMul, Int.reduceLT, Int.reduceLE, Int.reduceEq, Int.reduceNeg, z3, r3, l3, rr3, d3, z4, not_true, decide_false, decide_true])
                exact hj3
              · (try simp -dsimp (disch := omega) only [↓pre, sp, sp2, wp_some, Int.cast_ofNat_Int, Nat.reduceAdd, Nat.reduceMul, Nat.reduceSub, Nat.reduceLeDiff, Nat.reduceEqDiff, Nat.reducePow, Int.reduceToNat, Int.reducePow, Int.reduceAdd, Int.reduceSub, Int.reduceMul, Int.reduceLT, Int.reduceLE, Int.reduceEq, Int.reduceNeg, z0, z3])
                exact hj3
          (try simp -dsimp (disch := omega) only [↓pre, sp, sp2, wp_some, Int.cast_ofNat_Int, Nat.reduceAdd, Nat.reduceMul, Nat.reduceSub, Nat.reduceLeDiff, Nat.reduceEqDiff, Nat.reducePow, Int.reduceToNat, Int.reducePow, Int.reduceAdd, Int.reduceSub, Int.reduceMul, Int.reduceLT, Int.reduceLE, Int.reduceEq, Int.reduceNeg])
          refine wp_ite (fun z5 => ?_) (fun z5 => ?_)
          · (try simp -dsimp (disch := omega) only [↓pre, sp, sp2, wp_some, Int.cast_ofNat_Int, Nat.reduceAdd, Nat.reduceMul, Nat.reduceSub, Nat.reduceLeDiff, Nat.reduceEqDiff, Nat.reducePow, Int.reduceToNat, Int.reducePow, Int.reduceAdd, Int.reduceSub, Int.reduceMul, Int.reduceLT, Int.reduceLE, Int.reduceEq, Int.reduceNeg])
          · (try simp -dsimp (disch := omega) only [↓pre, sp, sp2, wp_some, Int.cast_ofNat_Int, Nat.reduceAdd, Nat.reduceMul, Nat.reduceSub, Nat.reduceLeDiff, Nat.reduceEqDiff, Nat.reducePow, Int.reduceToNat, Int.reducePow, Int.reduceAdd, Int.reduceSub, Int.reduceMul, Int.reduceLT, Int.reduceLE, Int.reduceEq, Int.reduceNeg, ek])
            subst hnn
            exact hj2 (m2 - 1) _ _ (by omega) ⟨k + 1, S1, G1, Q2, false, rfl, by omega, rfl, D1j, D2j, D3j z5, by omega, by omega, by omega⟩
      · simp only [Bool.true_and, Bool.true_or] at hV1 hV2
        (try simp -dsimp (disch := omega) only [↓pre, sp, sp2, wp_some, Int.cast_ofNat_Int, Nat.reduceAdd, Nat.reduceMul, Nat.reduceSub, Nat.reduceLeDiff, Nat.reduceEqDiff, Nat.reducePow, Int.reduceToNat, Int.reducePow, Int.reduceAdd, Int.reduceSub, Int.reduceMul, Int.reduceLT, Int.reduceLE, Int.reduceEq, Int.reduceNeg, rav.at, enow, ws1, hV1, beq_no, r2, l2, rr2, d2, hV2])
        (try simp -dsimp (disch := omega) only [↓pre, sp, sp2, wp_some, Int.cast_ofNat_Int, Nat.reduceAdd, Nat.reduceMul, Nat.reduceSub, Nat.reduceLeDiff, Nat.reduceEqDiff, Nat.reducePow, Int.reduceToNat, Int.reducePow, Int.reduceAdd, Int.reduceSub, Int.reduceMul, Int.reduceLT, Int.reduceLE, Int.reduceEq, Int.reduceNeg])
        refine wp_kT (.bool false) (fun j3 hj3 => ?_) ?_
        · clear hj2 D1j D2j D3j
          by_cases z0 : Q2 ≥ 0
          · by_cases z1 : nn - Q2 < p
            · have z2 := D3a ⟨z0, z1⟩
              have z3 : ¬ Q2 = -1 := by omega
              (try simp -dsimp (disch := omega) only [↓pre, sp, sp2, wp_some, Int.cast_ofNat_Int, Nat.reduceAdd, Nat.reduceMul, Nat.reduceSub, Nat.reduceLeDiff, Nat.reduceEqDiff, Nat.reducePow, Int.reduceToNat, Int.reducePow, Int.reduceAdd, Int.reduceSub, Int.reduceMul, Int.reduceLT, Int.reduceLE, Int.reduceEq, Int.reduceNeg, z0, rav.at, enow, wq2, z1, r3, l3, rr3, d3, z2, z3, not_true, decide_false])
              exact hj3
            · have z3 : ¬ Q2 = -1 := by omega
              (try simp -dsimp (disch := omega) only [↓pre, sp, sp2, wp_some, Int.cast_ofNat_Int, Nat.reduceAdd, Nat.reduceMul, Nat.reduceSub, Nat.reduceLeDiff, Nat.reduceEqDiff, Nat.reducePow, Int.reduceToNat, Int.reducePow, Int.reduceAdd, Int.reduceSub, Int.reduceMul, Int.reduceLT, Int.reduceLE, Int.reduceEq, Int.reduceNeg, z0, rav.at, enow, wq2, z1, z3])
              exact hj3
          · by_cases z3 : Q2 = -1
            · have z4 := D3b z3
              (try simp -dsimp (disch := omega) only [↓pre, sp, sp2, wp_some, Int.cast_ofNat_Int, Nat.reduceAdd, Nat.reduceMul, Nat.reduceSub, Nat.reduceLeDiff, Nat.reduceEqDiff, Nat.reducePow, Int.reduceToNat, Int.reducePow, Int.reduceAdd, Int.reduceSub, Int.reduceMul, Int.reduceLT, Int.reduceLE, Int.reduceEq, Int.reduceNeg, z0])
              (try simp -dsimp (disch := omega) only [↓pre, sp, sp2, wp_some, Int.cast_ofNat_Int, Nat.reduceAdd, Nat.reduceMul, Nat.reduceSub, Nat.reduceLeDiff, Nat.reduceEqDiff, Nat.reducePow, Int.reduceToNat, Int.reducePow, Int.reduceAdd, Int.reduceSub, Int.reduceMul, Int.reduceLT, Int.reduceLE, Int.reduceEq, Int.reduceNeg, z3, r3, l3, rr3, d3, z4, not_true, decide_false, decide_true])
              exact hj3
            · (try simp -dsimp (disch := omega) only [↓pre, sp, sp2, wp_some, Int.cast_ofNat_Int, Nat.reduceAdd, Nat.reduceMul, Nat.reduceSub, Nat.reduceLeDiff, Nat.reduceEqDiff, Nat.reducePow, Int.reduceToNat, Int.reducePow, Int.reduceAdd, Int.reduceSub, Int.reduceMul, Int.reduceLT, Int.reduceLE, Int.reduceEq, Int.reduceNeg, z0, z3])
              exact hj3
        (try simp -dsimp (disch := omega) only [↓pre, sp, sp2, wp_some, Int.cast_ofNat_Int, Nat.reduceAdd, Nat.reduceMul, Nat.reduceSub, Nat.reduceLeDiff, Nat.reduceEqDiff, Nat.reducePow, Int.reduceToNat, Int.reducePow, Int.reduceAdd, Int.reduceSub, Int.reduceMul, Int.reduceLT, Int.reduceLE, Int.reduceEq, Int.reduceNeg])
        refine wp_ite (fun z5 => ?_) (fun z5 => ?_)
        · (try simp -dsimp (disch := omega) only [↓pre, sp, sp2, wp_some, Int.cast_ofNat_Int, Nat.reduceAdd, Nat.reduceMul, Nat.reduceSub, Nat.reduceLeDiff, Nat.reduceEqDiff, Nat.reducePow, Int.reduceToNat, Int.reducePow, Int.reduceAdd, Int.reduceSub, Int.reduceMul, Int.reduceLT, Int.reduceLE, Int.reduceEq, Int.reduceNeg])
        · (try simp -dsimp (disch := omega) only [↓pre, sp, sp2, wp_some, Int.cast_ofNat_Int, Nat.reduceAdd, Nat.reduceMul, Nat.reduceSub, Nat.reduceLeDiff, Nat.reduceEqDiff, Nat.reducePow, Int.reduceToNat, Int.reducePow, Int.reduceAdd, Int.reduceSub, Int.reduceMul, Int.reduceLT, Int.reduceLE, Int.reduceEq, Int.reduceNeg, ek])
          subst hnn
          exact hj2 (m2 - 1) _ _ (by omega) ⟨k + 1, S1, G1, Q2, true, rfl, by omega, rfl, D1j, D2j, D3j z5, by omega, by omega, by omega⟩
    · (try simp -dsimp (disch := omega) only [↓pre, sp, sp2, wp_some, Int.cast_ofNat_Int, Nat.reduceAdd, Nat.reduceMul, Nat.reduceSub, Nat.reduceLeDiff, Nat.reduceEqDiff, Nat.reducePow, Int.reduceToNat, Int.reducePow, Int.reduceAdd, Int.reduceSub, Int.reduceMul, Int.reduceLT, Int.reduceLE, Int.reduceEq, Int.reduceNeg])
end Go.Proofs.YtindiedfioiejaaDoor.AI
