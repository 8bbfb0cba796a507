/- Chapter 17: timers count their own time. -/
import Derived.Test.YtindiedfioiejaaDoorFl9
namespace Go.Proofs.YtindiedfioiejaaDoor.AI
open Go
set_option linter.unusedSimpArgs false
set_option linter.unusedVariables false
variable {ov : AOver} {h : AH}
theorem sts_same' {b : Bl} (hb : isTm b) (L : List (List Int)) {A B : List Int} {x y : Int} {M : Nat} (h0 : ∀ i, i < M → (A.getD i 0 - x - (B.getD i 0 - y)) % 4294967296 = 0) : ∀ i, i ≤ M → SameT b (sts b L A i) (sts b L B i) (if i = 0 then x else A.getD (i - 1) 0) (if i = 0 then y else B.getD (i - 1) 0)
  | 0, _ => ⟨rfl, rfl, rfl, fun h => by cases b <;> simp [liveT, sts, noTold, w4_0] at h⟩
  | i + 1, hi => by
    have ih := sts_same' hb L h0 i (by omega)
    have := same_step hb (x' := A.getD i 0) (y' := B.getD i 0) ih (L.getD i []) (by
      have e1 := h0 i (by omega)
      by_cases hi0 : i = 0
      · simp only [hi0, if_true] at *; exact e1
      · have e2 := h0 (i - 1) (by omega)
        simp only [hi0, if_false]; omega)
    simpa [sts] using this
/-- A clock that goes round. -/
def clk (S : List Int) (x : Int) : Nat → Int
  | 0 => x
  | i + 1 => wrapM 4 (clk S x i + S.getD i 0)
theorem clk_same (S : List Int) (x y : Int) : ∀ i, (clk S x i - x - (clk S y i - y)) % 4294967296 = 0
  | 0 => by simp [clk]
  | i + 1 => by
    have := clk_same S x y i
    simp only [clk, w4]
    omega
def clks (S : List Int) (x : Int) (i : Nat) : List Int := (List.range i).map fun k => clk S x (k + 1)
theorem clks_succ (S : List Int) (x : Int) (i : Nat) : clks S x (i + 1) = clks S x i ++ [clk S x (i + 1)] := by simp [clks, List.range_succ]
theorem clks_len (S : List Int) (x : Int) (i : Nat) : (clks S x i).length = i := by simp [clks]
theorem clks_at (S : List Int) (x : Int) {i k : Nat} (hk : k < i) : (clks S x i).getD k 0 = clk S x (k + 1) := by simp [clks, hk]
theorem clk_I {x : Int} (hx : I64 x) (S : List Int) : ∀ i, I64 (clk S x i)
  | 0 => hx
  | i + 1 => wrapM_I64 4 _
theorem clks_I {x : Int} (hx : I64 x) (S : List Int) (i : Nat) : I64s (clks S x i) := fun z hz => by
  simp only [clks, List.mem_map] at hz
  obtain ⟨k, _, rfl⟩ := hz
  exact clk_I hx S _
theorem lives_same {b : Bl} (hb : isTm b) (on : Nat → Bool) (pt : Int) (S : List Int) (x y : Int) (M : Nat) : livesM b (onL on pt M) (clks S x M) = livesM b (onL on pt M) (clks S y M) := by
  have h := sts_same' hb (onL on pt M) (A := clks S x M) (B := clks S y M) (x := x) (y := y) (M := M) (fun i hi => by
    rw [clks_at S x hi, clks_at S y hi]; exact clk_same S x y (i + 1))
  unfold livesM
  rw [onL_len, clks_len, clks_len]
  apply List.map_congr_left
  intro i hi
  simp only [List.mem_range] at hi
  exact (h (i + 1) (by omega)).o
def R32 (x : Int) : Prop := -2147483648 ≤ x ∧ x ≤ 2147483647
theorem w4_R (x : Int) : R32 (wrapM 4 x) := by unfold R32; rw [w4]; omega
theorem clk_R {x : Int} (hx : R32 x) (S : List Int) : ∀ i, R32 (clk S x i)
  | 0 => hx
  | i + 1 => w4_R _
/-- What holds at the head of the first loop. -/
def TmI (h : AH) (B : Nat) (on : Nat → Bool) (pt : Int) (S : List Int) (x y : Int) (M : Nat) (m : Nat) (l : List AVal) (g : AH) : Prop :=
  ∃ (i : Nat) (lv av bv : AVal), l = [lv, av, bv, .int .i64 (clk S x i), .int .i64 (clk S y i), .int .i64 i] ∧ i + m = M ∧ Kp h g ∧ B ≤ g.n ∧ Ol g B (fun j => isBk av j ∨ isBk bv j) lv (onL on pt i) ∧ Oi g av (clks S x i) ∧ Oi g bv (clks S y i) ∧
    (∀ j, isBk av j → B ≤ j ∧ ¬ isBk bv j) ∧ (∀ j, isBk bv j → B ≤ j)
theorem fbTimers (H : Plain ov) (hov : ov N_runglaw17_known = none) (n : Nat) (w : Wf h) (tb : Tb h) {which pt0 from0 other : Int} {xo xs : AVal} {os : List Bool} {S : List Int} (hw : I64 which) (ho : Sz h xo 1 os.length (os.map AVal.bool) .ro)
    (hs : Sz h xs 1 S.length (S.map (AVal.int .u16)) .ro) (hS : ∀ z ∈ S, 0 ≤ z ∧ z ≤ 65535) (hp : I64 pt0) (hf : I64 from0) (hO : I64 other) :
    Wp (kc ov (n + 9) N_runglaw17_FbTimers [.int .i64 which, xo, xs, .int .i64 pt0, .int .i64 from0, .int .i64 other] h) fun r _ => r = .bool true := by
  rw [C_runglaw17_FbTimers H]; unfold F_runglaw17_FbTimers
  (try simp -dsimp (disch := omega) only [↓pre, sp, sp2, wp_some, Int.cast_ofNat_Int, Nat.reduceAdd, Nat.reduceMul, Nat.reduceSub, Nat.reduceLeDiff, Nat.reduceEqDiff, Nat.reducePow, Int.reduceToNat, Int.reducePow, Int.reduceAdd, Int.reduceSub, Int.reduceMul, Int.reduceLT, Int.reduceLE, Int.reduceEq, Int.reduceNeg])
  refine Wp.bind (known_spec H hov (n + 1) w tb) fun v h1 ⟨K1, ev⟩ => ?_
  subst ev
  (try simp -dsimp (disch := omega) only [↓pre, sp, sp2, wp_some, Int.cast_ofNat_Int, Nat.reduceAdd, Nat.reduceMul, Nat.reduceSub, Nat.reduceLeDiff, Nat.reduceEqDiff, Nat.reducePow, Int.reduceToNat, Int.reducePow, Int.reduceAdd, Int.reduceSub, Int.reduceMul, Int.reduceLT, Int.reduceLE, Int.reduceEq, Int.reduceNeg, ho.len])
  refine wp_kT (.bool (decide (60 < os.length) || decide (60 < S.length))) (fun j hj => ?_) ?_
  · by_cases c2 : 60 < os.length
    · have c2' : (60 : Int) < os.length := by omega
      rw [decide_eq_true c2] at hj
      (try simp -dsimp (disch := omega) only [↓pre, sp, sp2, wp_some, Int.cast_ofNat_Int, Nat.reduceAdd, Nat.reduceMul, Nat.reduceSub, Nat.reduceLeDiff, Nat.reduceEqDiff, Nat.reducePow, Int.reduceToNat, Int.reducePow, Int.reduceAdd, Int.reduceSub, Int.reduceMul, Int.reduceLT, Int.reduceLE, Int.reduceEq, Int.reduceNeg, c2']); exact hj
    · have c2' : ¬ (60 : Int) < os.length := by omega
      rw [decide_eq_false c2] at hj
      by_cases c3 : 60 < S.length
      · have c3' : (60 : Int) < S.length := by omega
        rw [decide_eq_true c3] at hj
        (try simp -dsimp (disch := omega) only [↓pre, sp, sp2, wp_some, Int.cast_ofNat_Int, Nat.reduceAdd, Nat.reduceMul, Nat.reduceSub, Nat.reduceLeDiff, Nat.reduceEqDiff, Nat.reducePow, Int.reduceToNat, Int.reducePow, Int.reduceAdd, Int.reduceSub, Int.reduceMul, Int.reduceLT, Int.reduceLE, Int.reduceEq, Int.reduceNeg, c2', hs.len, c3']); exact hj
      · have c3' : ¬ (60 : Int) < S.length := by omega
        rw [decide_eq_false c3] at hj
        (try simp -dsimp (disch := omega) only [↓pre, sp, sp2, wp_some, Int.cast_ofNat_Int, Nat.reduceAdd, Nat.reduceMul, Nat.reduceSub, Nat.reduceLeDiff, Nat.reduceEqDiff, Nat.reducePow, Int.reduceToNat, Int.reducePow, Int.reduceAdd, Int.reduceSub, Int.reduceMul, Int.reduceLT, Int.reduceLE, Int.reduceEq, Int.reduceNeg, c2', hs.len, c3']); exact hj
  refine wp_kIf (fun c => ?_) (fun c => ?_)
  · (try simp -dsimp (disch := omega) only [↓pre, sp, sp2, wp_some, Int.cast_ofNat_Int, Nat.reduceAdd, Nat.reduceMul, Nat.reduceSub, Nat.reduceLeDiff, Nat.reduceEqDiff, Nat.reducePow, Int.reduceToNat, Int.reducePow, Int.reduceAdd, Int.reduceSub, Int.reduceMul, Int.reduceLT, Int.reduceLE, Int.reduceEq, Int.reduceNeg])
  simp only [Bool.or_eq_false_iff, decide_eq_false_iff_not, Nat.not_lt] at c
  obtain ⟨c2, c3⟩ := c
  (try simp -dsimp (disch := omega) only [↓pre, sp, sp2, wp_some, Int.cast_ofNat_Int, Nat.reduceAdd, Nat.reduceMul, Nat.reduceSub, Nat.reduceLeDiff, Nat.reduceEqDiff, Nat.reducePow, Int.reduceToNat, Int.reducePow, Int.reduceAdd, Int.reduceSub, Int.reduceMul, Int.reduceLT, Int.reduceLE, Int.reduceEq, Int.reduceNeg])
  refine Wp.bind (bnames_spec H (n + 7) K1.w') fun v h2 ⟨K2, o2⟩ => ?_
  obtain ⟨pl, hpl, ep, _⟩ := place_spec (h := h2) H (n + 7) (k := which) (m := 3) hw (by omega) (by omega)
  have ep' : kc ov (n + 8) N_runghelp_Place [.int .i64 which, .int .i64 3] h2 = some (.int .i64 pl, h2) := ep
  have r2 : Sz h2 v 1 10 (strs (allBl.map Bl.nm)) .rw := Ow.rd o2
  (try simp -dsimp (disch := omega) only [↓pre, sp, sp2, wp_some, Int.cast_ofNat_Int, Nat.reduceAdd, Nat.reduceMul, Nat.reduceSub, Nat.reduceLeDiff, Nat.reduceEqDiff, Nat.reducePow, Int.reduceToNat, Int.reducePow, Int.reduceAdd, Int.reduceSub, Int.reduceMul, Int.reduceLT, Int.reduceLE, Int.reduceEq, Int.reduceNeg, ep', r2.at, names_at o2 (show pl < 10 by omega)])
  have hbt : isTm (blAt pl) := by
    rcases (by omega : pl = 0 ∨ pl = 1 ∨ pl = 2) with rfl | rfl | rfl <;> exact trivial
  generalize blAt pl = b at *
  refine Wp.bind (rwrap_spec H (n + 4) K2.w' 11 pt0 hp) fun v h3 ⟨K3, ev⟩ => ?_
  subst ev
  have ptI := wrapM_I64 11 pt0
  generalize wrapM 11 pt0 = pt at *
  (try simp -dsimp (disch := omega) only [↓pre, sp, sp2, wp_some, Int.cast_ofNat_Int, Nat.reduceAdd, Nat.reduceMul, Nat.reduceSub, Nat.reduceLeDiff, Nat.reduceEqDiff, Nat.reducePow, Int.reduceToNat, Int.reducePow, Int.reduceAdd, Int.reduceSub, Int.reduceMul, Int.reduceLT, Int.reduceLE, Int.reduceEq, Int.reduceNeg])
  refine Wp.bind (rwrap_spec H (n + 4) K3.w' 4 from0 hf) fun v h4 ⟨K4, ev⟩ => ?_
  subst ev
  have xI := wrapM_I64 4 from0
  have xR := w4_R from0
  generalize wrapM 4 from0 = x at *
  (try simp -dsimp (disch := omega) only [↓pre, sp, sp2, wp_some, Int.cast_ofNat_Int, Nat.reduceAdd, Nat.reduceMul, Nat.reduceSub, Nat.reduceLeDiff, Nat.reduceEqDiff, Nat.reducePow, Int.reduceToNat, Int.reducePow, Int.reduceAdd, Int.reduceSub, Int.reduceMul, Int.reduceLT, Int.reduceLE, Int.reduceEq, Int.reduceNeg])
  refine Wp.bind (rwrap_spec H (n + 4) K4.w' 4 other hO) fun v h5 ⟨K5, ev⟩ => ?_
  subst ev
  have yI := wrapM_I64 4 other
  have yR := w4_R other
  generalize wrapM 4 other = y at *
  have k05 : Kp h h5 := ((K1.trans K2).trans K3).trans (K4.trans K5)
  (try simp -dsimp (disch := omega) only [↓pre, sp, sp2, wp_some, Int.cast_ofNat_Int, Nat.reduceAdd, Nat.reduceMul, Nat.reduceSub, Nat.reduceLeDiff, Nat.reduceEqDiff, Nat.reducePow, Int.reduceToNat, Int.reducePow, Int.reduceAdd, Int.reduceSub, Int.reduceMul, Int.reduceLT, Int.reduceLE, Int.reduceEq, Int.reduceNeg])
  obtain ⟨on, hon⟩ : ∃ on : Nat → Bool, ∀ i, i < os.length → (os.map AVal.bool)[i]? = some (.bool (on i)) := ⟨fun i => os.getD i false, fun i hi => by simp [hi]⟩
  refine wp_loop (TmI h h5.n on pt S x y (min os.length S.length)) (min os.length S.length) (by omega) ⟨0, _, _, _, rfl, by omega, k05, Nat.le_refl _, Ol.nil _ _, Ow.nil _ _ _ (by omega), Ow.nil _ _ _ (by omega), fun j hj => hj.elim, fun j hj => hj.elim⟩ ?_
  generalize hB : h5.n = B
  have hBn : h.n ≤ B := by have := k05.n; omega
  rintro m _ g0 j ⟨i, lv, av, bv, rfl, him, kg, hBg, ol, oa, ob, fa, fb⟩ hj
  unfold L_runglaw17_FbTimers_1
  have o0 := ho.kp kg
  have s0 := hs.kp kg
  (try simp -dsimp (disch := omega) only [↓pre, sp, sp2, wp_some, Int.cast_ofNat_Int, Nat.reduceAdd, Nat.reduceMul, Nat.reduceSub, Nat.reduceLeDiff, Nat.reduceEqDiff, Nat.reducePow, Int.reduceToNat, Int.reducePow, Int.reduceAdd, Int.reduceSub, Int.reduceMul, Int.reduceLT, Int.reduceLE, Int.reduceEq, Int.reduceNeg, o0.len])
  refine wp_kT (.bool (decide (i < os.length) && decide (i < S.length))) (fun j3 hj3 => ?_) ?_
  · by_cases d1 : i < os.length
    · have d1' : (i : Int) < os.length := by omega
      rw [decide_eq_true d1] at hj3
      by_cases d2 : i < S.length
      · have d2' : (i : Int) < S.length := by omega
        rw [decide_eq_true d2] at hj3
        (try simp -dsimp (disch := omega) only [↓pre, sp, sp2, wp_some, Int.cast_ofNat_Int, Nat.reduceAdd, Nat.reduceMul, Nat.reduceSub, Nat.reduceLeDiff, Nat.reduceEqDiff, Nat.reducePow, Int.reduceToNat, Int.reducePow, Int.reduceAdd, Int.reduceSub, Int.reduceMul, Int.reduceLT, Int.reduceLE, Int.reduceEq, Int.reduceNeg, d1', d2', s0.len]); exact hj3
      · have d2' : ¬ (i : Int) < S.length := by omega
        rw [decide_eq_false d2] at hj3
        (try simp -dsimp (disch := omega) only [↓pre, sp, sp2, wp_some, Int.cast_ofNat_Int, Nat.reduceAdd, Nat.reduceMul, Nat.reduceSub, Nat.reduceLeDiff, Nat.reduceEqDiff, Nat.reducePow, Int.reduceToNat, Int.reducePow, Int.reduceAdd, Int.reduceSub, Int.reduceMul, Int.reduceLT, Int.reduceLE, Int.reduceEq, Int.reduceNeg, d1', d2', s0.len]); exact hj3
    · have d1' : ¬ (i : Int) < os.length := by omega
      rw [decide_eq_false d1] at hj3
      (try simp -dsimp (disch := omega) only [↓pre, sp, sp2, wp_some, Int.cast_ofNat_Int, Nat.reduceAdd, Nat.reduceMul, Nat.reduceSub, Nat.reduceLeDiff, Nat.reduceEqDiff, Nat.reducePow, Int.reduceToNat, Int.reducePow, Int.reduceAdd, Int.reduceSub, Int.reduceMul, Int.reduceLT, Int.reduceLE, Int.reduceEq, Int.reduceNeg, d1']); exact hj3
  refine wp_kIf (fun d => ?_) (fun d => ?_)
  · simp only [Bool.and_eq_true, decide_eq_true_eq] at d
    obtain ⟨d1, d2⟩ := d
    have ei : IntKind.wrap .i64 ((i : Int) + 1) = ((i + 1 : Nat) : Int) := by rw [wr_i64 (by omega) (by omega)]; omega
    have e1 : rLoad (ea xo i) g0 = some (.bool (on i)) := by rw [o0.ld (by simpa using d1)]; exact hon i d1
    have e2 : ∀ g, Kp g0 g → rLoad (ea xs i) g = some (.int .u16 (S.getD i 0)) := fun g k => by rw [(s0.kp k).ld (by simpa using d2)]; simp [d2]
    have hz := hS (S.getD i 0) (by simp [d2])
    have ec : rConvI .i64 (.int .u16 (S.getD i 0)) = some (.int .i64 (S.getD i 0)) := by
      show some (AVal.int .i64 (IntKind.wrap .i64 (S.getD i 0))) = _
      rw [wr_i64 (by omega) (by omega)]
    have cx := clk_I xI S i
    have cy := clk_I yI S i
    have ax : clk S x (i + 1) = wrapM 4 (clk S x i + S.getD i 0) := rfl
    have ay : clk S y (i + 1) = wrapM 4 (clk S y i + S.getD i 0) := rfl
    have sx := clks_succ S x i
    have sy := clks_succ S y i
    have sl := onL_succ on pt i
    have lx := clks_len S x i
    have ly := clks_len S y i
    have ll := onL_len on pt i
    have rx := clk_R xR S i
    have ry := clk_R yR S i
    generalize hcx1 : clk S x (i + 1) = cx1 at *
    generalize hcy1 : clk S y (i + 1) = cy1 at *
    generalize hcx : clk S x i = cxi at *
    generalize hcy : clk S y i = cyi at *
    unfold R32 at rx ry
    have wx : IntKind.wrap .i64 (cxi + S.getD i 0) = cxi + S.getD i 0 := wr_i64 (by omega) (by omega)
    have wy : IntKind.wrap .i64 (cyi + S.getD i 0) = cyi + S.getD i 0 := wr_i64 (by omega) (by omega)
    (try simp -dsimp (disch := omega) only [↓pre, sp, sp2, wp_some, Int.cast_ofNat_Int, Nat.reduceAdd, Nat.reduceMul, Nat.reduceSub, Nat.reduceLeDiff, Nat.reduceEqDiff, Nat.reducePow, Int.reduceToNat, Int.reducePow, Int.reduceAdd, Int.reduceSub, Int.reduceMul, Int.reduceLT, Int.reduceLE, Int.reduceEq, Int.reduceNeg, o0.at, e1])
    refine wp_kJ (fun l g => l = [.int .i64 (tr (on i))] ∧ g = g0) (fun j54 hj54 => ?_) ?_
    · refine wp_kIf (fun ca => ?_) (fun ca => ?_)
      · (try simp -dsimp (disch := omega) only [↓pre, sp, sp2, wp_some, Int.cast_ofNat_Int, Nat.reduceAdd, Nat.reduceMul, Nat.reduceSub, Nat.reduceLeDiff, Nat.reduceEqDiff, Nat.reducePow, Int.reduceToNat, Int.reducePow, Int.reduceAdd, Int.reduceSub, Int.reduceMul, Int.reduceLT, Int.reduceLE, Int.reduceEq, Int.reduceNeg])
        exact hj54 _ _ ⟨by rw [ca]; rfl, rfl⟩
      · (try simp -dsimp (disch := omega) only [↓pre, sp, sp2, wp_some, Int.cast_ofNat_Int, Nat.reduceAdd, Nat.reduceMul, Nat.reduceSub, Nat.reduceLeDiff, Nat.reduceEqDiff, Nat.reducePow, Int.reduceToNat, Int.reducePow, Int.reduceAdd, Int.reduceSub, Int.reduceMul, Int.reduceLT, Int.reduceLE, Int.reduceEq, Int.reduceNeg])
        exact hj54 _ _ ⟨by rw [ca]; rfl, rfl⟩
    · rintro _ g ⟨rfl, e⟩
      subst e
      (try simp -dsimp (disch := omega) only [↓pre, sp, sp2, wp_some, Int.cast_ofNat_Int, Nat.reduceAdd, Nat.reduceMul, Nat.reduceSub, Nat.reduceLeDiff, Nat.reduceEqDiff, Nat.reducePow, Int.reduceToNat, Int.reducePow, Int.reduceAdd, Int.reduceSub, Int.reduceMul, Int.reduceLT, Int.reduceLE, Int.reduceEq, Int.reduceNeg, s0.at, e2 g (Ke.refl kg.w'), ec, wx, wy])
      refine Wp.bind (rwrap_spec H (n + 4) kg.w' 4 (cxi + S.getD i 0) (by unfold I64; omega)) fun v g1 ⟨KG1, ev⟩ => ?_
      subst ev
      (try simp -dsimp (disch := omega) only [↓pre, sp, sp2, wp_some, Int.cast_ofNat_Int, Nat.reduceAdd, Nat.reduceMul, Nat.reduceSub, Nat.reduceLeDiff, Nat.reduceEqDiff, Nat.reducePow, Int.reduceToNat, Int.reducePow, Int.reduceAdd, Int.reduceSub, Int.reduceMul, Int.reduceLT, Int.reduceLE, Int.reduceEq, Int.reduceNeg, e2 g1 KG1])
      refine Wp.bind (rwrap_spec H (n + 4) KG1.w' 4 (cyi + S.getD i 0) (by unfold I64; omega)) fun v g2 ⟨KG2, ev⟩ => ?_
      subst ev
      rw [← ax, ← ay]
      have k02 : Kp g g2 := KG1.trans KG2
      (try simp -dsimp (disch := omega) only [↓pre, sp, sp2, wp_some, Int.cast_ofNat_Int, Nat.reduceAdd, Nat.reduceMul, Nat.reduceSub, Nat.reduceLeDiff, Nat.reduceEqDiff, Nat.reducePow, Int.reduceToNat, Int.reducePow, Int.reduceAdd, Int.reduceSub, Int.reduceMul, Int.reduceLT, Int.reduceLE, Int.reduceEq, Int.reduceNeg])
      refine wp_nums KG2.w' [tr (on i), pt] rfl rfl (by omega) fun q g3 hq KG3 n3 os3 => ?_
      have k03 : Kp g g3 := k02.trans KG3
      have oa3 := oik oa k03
      have ob3 := oik ob k03
      have ol3 := ol.kp k03
      have hbn : ∀ j, isBk lv j → ¬ (isBk av j ∨ isBk bv j) := fun j hj => by obtain ⟨_, _, bb, _⟩ := ol; exact (bb j hj).2
      have hbB : ∀ j, isBk lv j → B ≤ j := fun j hj => by obtain ⟨_, _, bb, _⟩ := ol; exact (bb j hj).1
      have hng2 := k02.n
      have hng3 := KG3.n
      have ltA : ∀ j, isBk av j → j < g.n := fun j hj => ow_lt oa kg.w' hj
      have ltB : ∀ j, isBk bv j → j < g.n := fun j hj => ow_lt ob kg.w' hj
      have ltL : ∀ j, isBk lv j → j < g.n := fun j hj => ol.lt kg.w' hj
      refine wp_snoc KG3.w' ol3 os3 (fun j hj => ⟨by simp only [isBk] at hj; omega, fun e => by simp only [isBk] at hj; rcases e with e | e; (have := ltA j e; omega); (have := ltB j e; omega), fun e => by simp only [isBk] at hj; have := ltL j e; omega⟩) (by omega) (fun j hj => by rcases hj with e | e; (have := ltA j e; omega); (have := ltB j e; omega)) (by omega) fun lv' g4 KG4 ol4 fx => ?_
      rw [← sl] at ol4
      have oa4 : Oi g4 av (clks S x i) := Ow.ke oa3 KG4 fun j hj e => hbn j e (.inl hj)
      have ob4 : Oi g4 bv (clks S y i) := Ow.ke ob3 KG4 fun j hj e => hbn j e (.inr hj)
      have hn4 := KG4.n
      (try simp -dsimp (disch := omega) only [↓pre, sp, sp2, wp_some, Int.cast_ofNat_Int, Nat.reduceAdd, Nat.reduceMul, Nat.reduceSub, Nat.reduceLeDiff, Nat.reduceEqDiff, Nat.reducePow, Int.reduceToNat, Int.reducePow, Int.reduceAdd, Int.reduceSub, Int.reduceMul, Int.reduceLT, Int.reduceLE, Int.reduceEq, Int.reduceNeg])
      refine wp_isnoc KG4.w' oa4 cx1 (by omega) fun av' g5 KG5 oa5 fxa => ?_
      rw [← sx] at oa5
      have ob5 : Oi g5 bv (clks S y i) := Ow.ke ob4 KG5 fun j hj e => (fa j e).2 hj
      have hn5 := KG5.n
      have fa5 : ∀ j, isBk av' j → B ≤ j ∧ ¬ isBk bv j := fun j hj => by
        rcases fxa j hj with h | h
        · exact fa j h
        · exact ⟨by omega, fun e => by have := ltB j e; omega⟩
      have ol5 : Ol g5 B (fun j => isBk av' j ∨ isBk bv j) lv' (onL on pt (i + 1)) := by
        have a1 : Ol g4 B (fun j => (isBk av j ∨ isBk bv j) ∨ isBk av' j) lv' (onL on pt (i + 1)) := ol4.reN KG4.w' fun j hj => by
          rcases hj with h | h
          · exact .inl h
          · rcases fxa j h with h | h
            · exact .inl (.inl h)
            · exact .inr h
        exact (a1.ke KG5 fun j hj => .inl (.inl (.inl hj))).weak (Nat.le_refl _) fun j hj => by
          rcases hj with h | h
          · exact .inr h
          · exact .inl (.inr h)
      (try simp -dsimp (disch := omega) only [↓pre, sp, sp2, wp_some, Int.cast_ofNat_Int, Nat.reduceAdd, Nat.reduceMul, Nat.reduceSub, Nat.reduceLeDiff, Nat.reduceEqDiff, Nat.reducePow, Int.reduceToNat, Int.reducePow, Int.reduceAdd, Int.reduceSub, Int.reduceMul, Int.reduceLT, Int.reduceLE, Int.reduceEq, Int.reduceNeg])
      refine wp_isnoc KG5.w' ob5 cy1 (by omega) fun bv' g6 KG6 ob6 fxb => ?_
      rw [← sy] at ob6
      have oa6 : Oi g6 av' (clks S x (i + 1)) := Ow.ke oa5 KG6 fun j hj e => (fa5 j hj).2 e
      have hn6 := KG6.n
      have fa6 : ∀ j, isBk av' j → B ≤ j ∧ ¬ isBk bv' j := fun j hj => ⟨(fa5 j hj).1, fun e => by
        rcases fxb j e with h | h
        · exact (fa5 j hj).2 h
        · have := ow_lt oa5 KG5.w' hj; omega⟩
      have fb6 : ∀ j, isBk bv' j → B ≤ j := fun j hj => by
        rcases fxb j hj with h | h
        · exact fb j h
        · omega
      have ol6 : Ol g6 B (fun j => isBk av' j ∨ isBk bv' j) lv' (onL on pt (i + 1)) := by
        have a1 : Ol g5 B (fun j => (isBk av' j ∨ isBk bv j) ∨ isBk bv' j) lv' (onL on pt (i + 1)) := ol5.reN KG5.w' fun j hj => by
          rcases hj with h | h
          · exact .inl h
          · rcases fxb j h with h | h
            · exact .inl (.inr h)
            · exact .inr h
        exact (a1.ke KG6 fun j hj => .inl (.inl (.inr hj))).weak (Nat.le_refl _) fun j hj => by
          rcases hj with h | h
          · exact .inl (.inl h)
          · exact .inr h
      (try simp -dsimp (disch := omega) only [↓pre, sp, sp2, wp_some, Int.cast_ofNat_Int, Nat.reduceAdd, Nat.reduceMul, Nat.reduceSub, Nat.reduceLeDiff, Nat.reduceEqDiff, Nat.reducePow, Int.reduceToNat, Int.reducePow, Int.reduceAdd, Int.reduceSub, Int.reduceMul, Int.reduceLT, Int.reduceLE, Int.reduceEq, Int.reduceNeg, ei])
      have k3 : Kp h g3 := kg.trans k03
      have k4 : Kp h g4 := Ke.new_p k3 KG4 fun j hj => by have := hbB j hj; omega
      have k5 : Kp h g5 := Ke.new_p k4 KG5 fun j hj => by have := (fa j hj).1; omega
      have k6 : Kp h g6 := Ke.new_p k5 KG6 fun j hj => by have := fb j hj; omega
      subst hcx1 hcy1
      exact hj (m - 1) _ _ (by omega) ⟨i + 1, lv', av', bv', rfl, by omega, k6, by omega, ol6, oa6, ob6, fa6, fb6⟩
  · have hi : i = min os.length S.length := by
      simp only [Bool.and_eq_false_iff, decide_eq_false_iff_not] at d
      omega
    clear hj
    have ls := lives_same hbt on pt S x y i
    have lx := clks_len S x i
    have ly := clks_len S y i
    have ll := onL_len on pt i
    have lI := onL_I on ptI i
    have aI := clks_I xI S i
    have bI := clks_I yI S i
    (try simp -dsimp (disch := omega) only [↓pre, sp, sp2, wp_some, Int.cast_ofNat_Int, Nat.reduceAdd, Nat.reduceMul, Nat.reduceSub, Nat.reduceLeDiff, Nat.reduceEqDiff, Nat.reducePow, Int.reduceToNat, Int.reducePow, Int.reduceAdd, Int.reduceSub, Int.reduceMul, Int.reduceLT, Int.reduceLE, Int.reduceEq, Int.reduceNeg])
    refine Wp.bind (lives_spec H n kg.w' (tb.ke kg) b ol oa.si (by omega) (by omega) lI aI) fun v g1 ⟨KG1, p1, ev, op1⟩ => ?_
    subst ev
    (try simp -dsimp (disch := omega) only [↓pre, sp, sp2, wp_some, Int.cast_ofNat_Int, Nat.reduceAdd, Nat.reduceMul, Nat.reduceSub, Nat.reduceLeDiff, Nat.reduceEqDiff, Nat.reducePow, Int.reduceToNat, Int.reducePow, Int.reduceAdd, Int.reduceSub, Int.reduceMul, Int.reduceLT, Int.reduceLE, Int.reduceEq, Int.reduceNeg])
    refine Wp.bind (lives_spec H n KG1.w' (tb.ke (kg.trans KG1)) b (ol.kp KG1) (oik ob KG1).si (by omega) (by omega) lI bI) fun v g2 ⟨KG2, p2, ev, op2⟩ => ?_
    subst ev
    rw [← ls] at op2
    have op1' := op1.kp KG2
    have hLl : (livesM b (onL on pt i) (clks S x i)).length = i := by rw [livesM_len, ll, lx]; omega
    have hLs : ∀ k, k < i → ((livesM b (onL on pt i) (clks S x i)).getD k []).length ≤ 100 := fun k hk => by
      rw [livesM_at _ _ _ (by rw [ll, lx]; omega)]; exact sts_len _ _ _ _
    generalize livesM b (onL on pt i) (clks S x i) = LV at *
    (try simp -dsimp (disch := omega) only [↓pre, sp, sp2, wp_some, Int.cast_ofNat_Int, Nat.reduceAdd, Nat.reduceMul, Nat.reduceSub, Nat.reduceLeDiff, Nat.reduceEqDiff, Nat.reducePow, Int.reduceToNat, Int.reducePow, Int.reduceAdd, Int.reduceSub, Int.reduceMul, Int.reduceLT, Int.reduceLE, Int.reduceEq, Int.reduceNeg])
    refine wp_kT (.bool false) (fun j3 hj3 => ?_) ?_
    · (try simp -dsimp (disch := omega) only [↓pre, sp, sp2, wp_some, Int.cast_ofNat_Int, Nat.reduceAdd, Nat.reduceMul, Nat.reduceSub, Nat.reduceLeDiff, Nat.reduceEqDiff, Nat.reducePow, Int.reduceToNat, Int.reducePow, Int.reduceAdd, Int.reduceSub, Int.reduceMul, Int.reduceLT, Int.reduceLE, Int.reduceEq, Int.reduceNeg, op1'.len, op2.len, not_true, decide_false])
      exact hj3
    (try simp -dsimp (disch := omega) only [↓pre, sp, sp2, wp_some, Int.cast_ofNat_Int, Nat.reduceAdd, Nat.reduceMul, Nat.reduceSub, Nat.reduceLeDiff, Nat.reduceEqDiff, Nat.reducePow, Int.reduceToNat, Int.reducePow, Int.reduceAdd, Int.reduceSub, Int.reduceMul, Int.reduceLT, Int.reduceLE, Int.reduceEq, Int.reduceNeg])
    refine wp_loop (fun m l g => ∃ k : Nat, l = [.int .i64 k] ∧ k + m = i ∧ g = g2) i (by omega) ⟨0, rfl, by omega, rfl⟩ ?_
    rintro m2 _ g j2 ⟨k, rfl, hkm, e⟩ hj2
    subst e
    unfold L_runglaw17_FbTimers_0
    (try simp -dsimp (disch := omega) only [↓pre, sp, sp2, wp_some, Int.cast_ofNat_Int, Nat.reduceAdd, Nat.reduceMul, Nat.reduceSub, Nat.reduceLeDiff, Nat.reduceEqDiff, Nat.reducePow, Int.reduceToNat, Int.reducePow, Int.reduceAdd, Int.reduceSub, Int.reduceMul, Int.reduceLT, Int.reduceLE, Int.reduceEq, Int.reduceNeg, op1'.len])
    refine wp_ite (fun c4 => ?_) (fun c4 => ?_)
    · have hk : k < LV.length := by omega
      have ek : IntKind.wrap .i64 ((k : Int) + 1) = ((k + 1 : Nat) : Int) := by rw [wr_i64 (by omega) (by omega)]; omega
      obtain ⟨s1, l1, os1⟩ := op1'.ld hk
      obtain ⟨s2, l2, os2⟩ := op2.ld hk
      have e1 := nums_spec H (n + 7) os1.si os2.si (by have := hLs k (by omega); omega)
      (try simp -dsimp (disch := omega) only [↓pre, sp, sp2, wp_some, Int.cast_ofNat_Int, Nat.reduceAdd, Nat.reduceMul, Nat.reduceSub, Nat.reduceLeDiff, Nat.reduceEqDiff, Nat.reducePow, Int.reduceToNat, Int.reducePow, Int.reduceAdd, Int.reduceSub, Int.reduceMul, Int.reduceLT, Int.reduceLE, Int.reduceEq, Int.reduceNeg, op1'.at, l1, op2.at, l2, e1, ek])
      exact hj2 (m2 - 1) _ _ (by omega) ⟨k + 1, rfl, by omega, rfl⟩
    · (try simp -dsimp (disch := omega) only [↓pre, sp, sp2, wp_some, Int.cast_ofNat_Int, Nat.reduceAdd, Nat.reduceMul, Nat.reduceSub, Nat.reduceLeDiff, Nat.reduceEqDiff, Nat.reducePow, Int.reduceToNat, Int.reducePow, Int.reduceAdd, Int.reduceSub, Int.reduceMul, Int.reduceLT, Int.reduceLE, Int.reduceEq, Int.reduceNeg])
end Go.Proofs.YtindiedfioiejaaDoor.AI
