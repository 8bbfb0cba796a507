/- Chapter 17: a step of any name; the chapter's example; lives. -/
import Derived.Test.YtindiedfioiejaaDoorFr3
import Derived.Test.YtindiedfioiejaaDoorHelpP
namespace Go.Proofs.YtindiedfioiejaaDoor.AI
open Go
set_option linter.unusedSimpArgs false
set_option linter.unusedVariables false
variable {ov : AOver} {h : AH}
theorem stepA_spec (H : Plain ov) (n : Nat) (w : Wf h) (tb : Tb h) (nm : Nm) {x y : AVal} {li lo : List Int} {md md' : AMode} {k0 k1 k2 now : Int}
    (hx : Si h x li md) (hy : Si h y lo md') (hl : li.length ≤ 2 ^ 40) (hl' : lo.length ≤ 2 ^ 40) (hi : I64s li) (ho : I64s lo) (i0 : I64 k0) (i1 : I64 k1) (i2 : I64 k2) (hn : I64 now) :
    Wp (kc ov (n + 6) N_fb_Step [.str nm, x, .agg (k3 k0 k1 k2), y, .int .i64 now] h) (ToldQ h (toldS nm li lo k0 k1 k2 now)) := by
  cases e : bl? nm with
  | some b =>
    obtain rfl := bl?_some e
    rw [toldS_nm, ← prog_ref]
    exact step_spec H n w tb b hx hy hl hl' hi ho i0 i1 i2 hn
  | none =>
    have et : toldS nm li lo k0 k1 k2 now = ⟨[], 0, 0, 0⟩ := by unfold toldS; rw [e]; rfl
    rw [et, C_fb_Step H]; unfold F_fb_Step
    refine wp_box w rfl rfl fun q0 h1 e0 K1 n1 g0 => ?_
    refine wp_box K1.w' rfl rfl fun q1 h2 e1 K2 n2 g1 => ?_
    (try simp -dsimp (disch := omega) only [↓pre, sp, sp2, wp_some, Int.cast_ofNat_Int, Nat.reduceAdd, Nat.reduceMul, Nat.reduceSub, Nat.reduceLeDiff, Nat.reduceEqDiff, Nat.reducePow, Int.reduceToNat, Int.reducePow, Int.reduceAdd, Int.reduceSub, Int.reduceMul, Int.reduceLT, Int.reduceLE, Int.reduceEq, Int.reduceNeg])
    refine wp_box K2.w' rfl rfl fun q3 h3 e3 K3 n3 g3 => ?_
    have k13 : Kp h1 h3 := K2.trans K3
    have eo : kc ov (n + 5) N_fb_of [.str nm] h3 = some (.nilIface, h3) := by
      rw [C_fb_of H]; unfold F_fb_of
      have no : ∀ b : Bl, decide ((none : Option Bl) = some b) = false := fun b => rfl
      refine Wp.eq ?_
      (try simp -dsimp (disch := omega) only [↓pre, sp, sp2, wp_some, Int.cast_ofNat_Int, Nat.reduceAdd, Nat.reduceMul, Nat.reduceSub, Nat.reduceLeDiff, Nat.reduceEqDiff, Nat.reducePow, Int.reduceToNat, Int.reducePow, Int.reduceAdd, Int.reduceSub, Int.reduceMul, Int.reduceLT, Int.reduceLE, Int.reduceEq, Int.reduceNeg, ↓eqT nm true, e, no])
    have eb : rBuildA [(.int .i64 0), (.int .i64 0), (.int .i64 0)] 1 [] = some (.agg (k3 0 0 0)) := rfl
    (try simp -dsimp (disch := omega) only [↓pre, sp, sp2, wp_some, Int.cast_ofNat_Int, Nat.reduceAdd, Nat.reduceMul, Nat.reduceSub, Nat.reduceLeDiff, Nat.reduceEqDiff, Nat.reducePow, Int.reduceToNat, Int.reducePow, Int.reduceAdd, Int.reduceSub, Int.reduceMul, Int.reduceLT, Int.reduceLE, Int.reduceEq, Int.reduceNeg, row_rw (k13.gt g0), eo, sp5, eb])
    have k03 : Kp h h3 := (K1.trans K2).trans K3
    refine wp_store (vs := k3 0 0 0) K3.w' g3 rfl rfl (by simp [k3]) rfl fun h4 e4 n4 g4 => ?_
    have el : rLoadA 3 (.ptr (some (q3, 0))) h4 = some (.agg (k3 0 0 0)) := by rw [rLoadA_ptr, row_rw g4]; rfl
    (try simp -dsimp (disch := omega) only [↓pre, sp, sp2, wp_some, Int.cast_ofNat_Int, Nat.reduceAdd, Nat.reduceMul, Nat.reduceSub, Nat.reduceLeDiff, Nat.reduceEqDiff, Nat.reducePow, Int.reduceToNat, Int.reducePow, Int.reduceAdd, Int.reduceSub, Int.reduceMul, Int.reduceLT, Int.reduceLE, Int.reduceEq, Int.reduceNeg, el])
    have := K1.n
    have := K2.n
    exact ⟨Ke.new_p k03 e4 fun j hj => by omega, _, rfl, Ow.nil _ _ _ (by omega), fun i hi => hi.elim⟩
theorem oik {v : AVal} {l : List Int} {h' : AH} (o : Oi h v l) (k : Kp h h') : Oi h' v l := Ow.kp o k
theorem sik {v : AVal} {l : List Int} {md : AMode} {h' : AH} (o : Si h v l md) (k : Kp h h') : Si h' v l md := Sz.kp o k
/-- A box with three numbers. -/
def Kb (h : AH) (q : Nat) (t : Told) : Prop := h.get q = some ⟨.row (k3 t.k0 t.k1 t.k2) T__3_int64 false, .rw, []⟩
theorem Kb.ke {S : Nat → Prop} {h' : AH} {q : Nat} {t : Told} (b : Kb h q t) (k : Ke S h h') (hS : ¬ S q) : Kb h' q t := k.gt b hS
theorem Kb.kp {h' : AH} {q : Nat} {t : Told} (b : Kb h q t) (k : Kp h h') : Kb h' q t := k.gt b
theorem Kb.ld {q : Nat} {t : Told} (b : Kb h q t) : rLoadA 3 (.ptr (some (q, 0))) h = some (.agg (k3 t.k0 t.k1 t.k2)) := by
  rw [rLoadA_ptr, row_rw b]; rfl
theorem wp_kb {q : Nat} {t : Told} (w : Wf h) (b : Kb h q t) {Q : AVal → AH → Prop} {K : AVal → AH → Ans} (u : Told)
    (c : ∀ h1, Ke (· = q) h h1 → h1.n = h.n → Kb h1 q u → Wp (K (.tuple []) h1) Q) :
    Wp (ke ((rStore 3 (.ptr (some (q, 0))) (.agg (k3 u.k0 u.k1 u.k2)) h).map fun h' => (.tuple [], h')) K) Q := by
  refine wp_store (vs := k3 u.k0 u.k1 u.k2) w b rfl rfl (by simp [k3]) rfl fun h1 e1 n1 g1 => c h1 e1 n1 ?_
  unfold Kb; rw [g1]; rfl
/-- Boxed and set. -/
theorem wp_kbox (w : Wf h) {Q : AVal → AH → Prop} {K : AVal → AH → Ans}
    (c : ∀ (q : Nat) (h1 : AH), q = h.n → Kp h h1 → h1.n = h.n + 1 → Kb h1 q noTold → Wp (K (.ptr (some (q, 0))) h1) Q) :
    Wp (km (pBox T__3_int64 (.agg [(.int .i64 0), (.int .i64 0), (.int .i64 0)])) h K) Q := wp_box w rfl rfl c
theorem agg0 : rBuildA [(.int .i64 0), (.int .i64 0), (.int .i64 0)] 1 [] = some (.agg (k3 0 0 0)) := rfl
theorem k3_neq (c : Bool) (a b d : Int) : rBin .neq (.ints 3) c (.agg (k3 a b d)) (.agg (k3 a b d)) = some (.bool false) := by
  simp [rBin, rEq, k3, eqInts]
theorem si_new {q n : Nat} {L : List Int} (g : h.get q = some ⟨.row (i64s L) T_int64 false, .rw, []⟩) (hn : L.length = n) : Oi h (.slice (some (q, 0, 1)) n n) L := by
  subst hn; exact Ow.new g (by omega) _ (by simp [i64s]) (i64s_cells L)
/-- A slice of numbers, built. -/
theorem wp_nums (w : Wf h) {Q : AVal → AH → Prop} {K : AVal → AH → Ans} {n : Nat} {p : List (Nat × AVal)} (L : List Int) (e1 : aFill (fun i => some (i * 1, 1)) (manyT n [.int .i64 0]) p = some (i64s L)) (hn : L.length = n) (hl : n ≤ 100)
    (c : ∀ (q : Nat) (h1 : AH), q = h.n → Kp h h1 → h1.n = h.n + 1 → Oi h1 (.slice (some (q, 0, 1)) n n) L → Wp (K (.slice (some (q, 0, 1)) n n) h1) Q) :
    Wp (km (mBuildSl T_int64 1 [(.int .i64 0)] n p) h K) Q :=
  wp_buildSl w (by simp; omega) e1 (i64s_cells L) fun q h1 hq k1 n1 g1 => c q h1 hq k1 n1 (si_new g1 hn)
/-- All that is told fits. -/
structure ToldI (t : Told) : Prop where
  o : I64s t.out
  k0 : I64 t.k0
  k1 : I64 t.k1
  k2 : I64 t.k2
theorem told_I (nm : Nm) (li lo : List Int) (k0 k1 k2 now : Int) : ToldI (toldS nm li lo k0 k1 k2 now) := by
  unfold toldS
  cases e : bl? nm with
  | none => exact ⟨fun x hx => by simp [noTold] at hx, tr_I false, tr_I false, tr_I false⟩
  | some b =>
    simp only
    rw [← prog_ref]
    have g := gd_step b (gd_start b li lo k0 k1 k2 now)
    refine ⟨fun x hx => ?_, g.k0, g.k1, g.k2⟩
    simp only [progM, List.mem_map] at hx
    obtain ⟨k, _, rfl⟩ := hx
    exact wrapM_I64 _ _
theorem ref_I (b : Bl) (li lo : List Int) (k0 k1 k2 now : Int) : ToldI (refM b li lo k0 k1 k2 now) := by rw [← toldS_nm]; exact told_I _ _ _ _ _ _ _
theorem ref_len (b : Bl) (li lo : List Int) (k0 k1 k2 now : Int) : (refM b li lo k0 k1 k2 now).out.length = b.outs.length := by rw [← prog_ref]; simp [progM]
theorem i64s_of {l : List Int} (h : (l.all fun x => decide (I64 x)) = true) : I64s l := fun x hx => of_decide_eq_true (List.all_eq_true.1 h x hx)
theorem nil_I : I64s [] := fun x hx => by simp at hx
theorem sts_I (b : Bl) (L : List (List Int)) (T : List Int) : ∀ i, ToldI (sts b L T i)
  | 0 => ⟨nil_I, tr_I false, tr_I false, tr_I false⟩
  | i + 1 => ref_I _ _ _ _ _ _ _
theorem tr_out {v : AVal} {l l' : List Int} {h : AH} (o : Oi h v l) (e : l = l') : Oi h v l' := e ▸ o
theorem known_t1 : refM .ton [1, 10] [] 0 0 0 5 = ⟨[0, 0], 1, 5, 0⟩ := rfl
theorem known_t2 : refM .ton [1, 10] [0, 0] 1 5 0 15 = ⟨[1, 10], 1, 5, 1⟩ := rfl
theorem known_t3 : refM .ctu [1, 0, 1] [] 0 0 0 0 = ⟨[1, 1], 1, 0, 0⟩ := rfl
theorem known_t4 : refM .ctu [1, 0, 1] [1, 1] 1 0 0 0 = ⟨[1, 1], 1, 0, 0⟩ := rfl
/-- A step of a known block. -/
theorem stepB_spec (H : Plain ov) (n : Nat) (w : Wf h) (tb : Tb h) (b : Bl) {x y : AVal} {li lo : List Int} {md md' : AMode} {k0 k1 k2 now : Int}
    (hx : Si h x li md) (hy : Si h y lo md') (hl : li.length ≤ 2 ^ 40) (hl' : lo.length ≤ 2 ^ 40) (hi : I64s li) (ho : I64s lo) (i0 : I64 k0) (i1 : I64 k1) (i2 : I64 k2) (hn : I64 now) :
    Wp (kc ov (n + 6) N_fb_Step [.str b.nm, x, .agg (k3 k0 k1 k2), y, .int .i64 now] h) (ToldQ h (refM b li lo k0 k1 k2 now)) := by
  rw [← prog_ref]; exact step_spec H n w tb b hx hy hl hl' hi ho i0 i1 i2 hn
theorem known_spec (H : Plain ov) (hov : ov N_runglaw17_known = none) (n : Nat) (w : Wf h) (tb : Tb h) : Wp (kc ov (n + 7) N_runglaw17_known [] h) fun r h' => Kp h h' ∧ r = .bool true := by
  have hk : kc ov (n + 7) N_runglaw17_known [] h = F_runglaw17_known (kc ov (n + 6)) (kd ov (n + 6)) h := by
    unfold kc kd; rw [C_runglaw17_known hov]
  have nil : ∀ h, Si h (.slice none 0 0) [] .rw := fun h => Sz.nil h 1 (by omega) .rw
  have t0 := tr_I false
  have t1 := tr_I true
  rw [hk]; unfold F_runglaw17_known
  (try simp -dsimp (disch := omega) only [↓pre, sp, sp2, wp_some, Int.cast_ofNat_Int, Nat.reduceAdd, Nat.reduceMul, Nat.reduceSub, Nat.reduceLeDiff, Nat.reduceEqDiff, Nat.reducePow, Int.reduceToNat, Int.reducePow, Int.reduceAdd, Int.reduceSub, Int.reduceMul, Int.reduceLT, Int.reduceLE, Int.reduceEq, Int.reduceNeg])
  refine wp_nums w [1, 10] rfl rfl (by omega) fun q1 h1 e1 K1 n1 o1 => ?_
  (try simp -dsimp (disch := omega) only [↓pre, sp, sp2, wp_some, Int.cast_ofNat_Int, Nat.reduceAdd, Nat.reduceMul, Nat.reduceSub, Nat.reduceLeDiff, Nat.reduceEqDiff, Nat.reducePow, Int.reduceToNat, Int.reducePow, Int.reduceAdd, Int.reduceSub, Int.reduceMul, Int.reduceLT, Int.reduceLE, Int.reduceEq, Int.reduceNeg])
  have s1 := stepB_spec H n K1.w' (tb.ke K1) .ton (now := 5) (k0 := 0) (k1 := 0) (k2 := 0) o1.si (nil h1) (by decide) (by decide) (i64s_of (by decide)) nil_I t0 t0 t0 (by decide)
  rw [known_t1] at s1
  refine Wp.bind s1 fun v h2 ⟨K2, x2, ev, o2, f2⟩ => ?_
  subst ev
  (try simp -dsimp (disch := omega) only [↓pre, sp, sp2, wp_some, Int.cast_ofNat_Int, Nat.reduceAdd, Nat.reduceMul, Nat.reduceSub, Nat.reduceLeDiff, Nat.reduceEqDiff, Nat.reducePow, Int.reduceToNat, Int.reducePow, Int.reduceAdd, Int.reduceSub, Int.reduceMul, Int.reduceLT, Int.reduceLE, Int.reduceEq, Int.reduceNeg])
  refine wp_kbox K2.w' fun q3 h3 e3 K3 n3 b3 => ?_
  (try simp -dsimp (disch := omega) only [↓pre, sp, sp2, wp_some, Int.cast_ofNat_Int, Nat.reduceAdd, Nat.reduceMul, Nat.reduceSub, Nat.reduceLeDiff, Nat.reduceEqDiff, Nat.reducePow, Int.reduceToNat, Int.reducePow, Int.reduceAdd, Int.reduceSub, Int.reduceMul, Int.reduceLT, Int.reduceLE, Int.reduceEq, Int.reduceNeg])
  refine wp_kb K3.w' b3 ⟨[0, 0], 1, 5, 0⟩ fun h4 K4 n4 b4 => ?_
  (try simp -dsimp (disch := omega) only [↓pre, sp, sp2, wp_some, Int.cast_ofNat_Int, Nat.reduceAdd, Nat.reduceMul, Nat.reduceSub, Nat.reduceLeDiff, Nat.reduceEqDiff, Nat.reducePow, Int.reduceToNat, Int.reducePow, Int.reduceAdd, Int.reduceSub, Int.reduceMul, Int.reduceLT, Int.reduceLE, Int.reduceEq, Int.reduceNeg])
  refine wp_nums K4.w' [1, 10] rfl rfl (by omega) fun q5 h5 e5 K5 n5 o5 => ?_
  (try simp -dsimp (disch := omega) only [↓pre, sp, sp2, wp_some, Int.cast_ofNat_Int, Nat.reduceAdd, Nat.reduceMul, Nat.reduceSub, Nat.reduceLeDiff, Nat.reduceEqDiff, Nat.reducePow, Int.reduceToNat, Int.reducePow, Int.reduceAdd, Int.reduceSub, Int.reduceMul, Int.reduceLT, Int.reduceLE, Int.reduceEq, Int.reduceNeg, (b4.kp K5).ld])
  have k14 : Kp h1 h4 := Ke.new_p (K2.trans K3) K4 fun i hi => by have := K2.n; omega
  have k24 : Kp h2 h4 := Ke.new_p K3 K4 fun i hi => by omega
  have k25 : Kp h2 h5 := k24.trans K5
  have o2' : Oi h5 x2 [0, 0] := o2.kp k25
  have tb5 := tb.ke ((K1.trans k14).trans K5)
  have s2 := stepB_spec H n K5.w' tb5 .ton (now := 15) (k0 := 1) (k1 := 5) (k2 := 0) o5.si o2'.si (by decide) (by decide) (i64s_of (by decide)) (i64s_of (by decide)) t1 (by decide) t0 (by decide)
  rw [known_t2] at s2
  refine Wp.bind s2 fun v h6 ⟨K6, x6, ev, o6, f6⟩ => ?_
  subst ev
  (try simp -dsimp (disch := omega) only [↓pre, sp, sp2, wp_some, Int.cast_ofNat_Int, Nat.reduceAdd, Nat.reduceMul, Nat.reduceSub, Nat.reduceLeDiff, Nat.reduceEqDiff, Nat.reducePow, Int.reduceToNat, Int.reducePow, Int.reduceAdd, Int.reduceSub, Int.reduceMul, Int.reduceLT, Int.reduceLE, Int.reduceEq, Int.reduceNeg])
  refine wp_kbox K6.w' fun q7 h7 e7 K7 n7 b7 => ?_
  (try simp -dsimp (disch := omega) only [↓pre, sp, sp2, wp_some, Int.cast_ofNat_Int, Nat.reduceAdd, Nat.reduceMul, Nat.reduceSub, Nat.reduceLeDiff, Nat.reduceEqDiff, Nat.reducePow, Int.reduceToNat, Int.reducePow, Int.reduceAdd, Int.reduceSub, Int.reduceMul, Int.reduceLT, Int.reduceLE, Int.reduceEq, Int.reduceNeg])
  refine wp_kb K7.w' b7 ⟨[1, 10], 1, 5, 1⟩ fun h8 K8 n8 b8 => ?_
  (try simp -dsimp (disch := omega) only [↓pre, sp, sp2, wp_some, Int.cast_ofNat_Int, Nat.reduceAdd, Nat.reduceMul, Nat.reduceSub, Nat.reduceLeDiff, Nat.reduceEqDiff, Nat.reducePow, Int.reduceToNat, Int.reducePow, Int.reduceAdd, Int.reduceSub, Int.reduceMul, Int.reduceLT, Int.reduceLE, Int.reduceEq, Int.reduceNeg])
  have k68 : Kp h6 h8 := Ke.new_p K7 K8 fun i hi => by omega
  refine wp_nums K8.w' [1, 0, 1] rfl rfl (by omega) fun q9 h9 e9 K9 n9 o9 => ?_
  (try simp -dsimp (disch := omega) only [↓pre, sp, sp2, wp_some, Int.cast_ofNat_Int, Nat.reduceAdd, Nat.reduceMul, Nat.reduceSub, Nat.reduceLeDiff, Nat.reduceEqDiff, Nat.reducePow, Int.reduceToNat, Int.reducePow, Int.reduceAdd, Int.reduceSub, Int.reduceMul, Int.reduceLT, Int.reduceLE, Int.reduceEq, Int.reduceNeg])
  have k59 : Kp h5 h9 := (K6.trans k68).trans K9
  have s3 := stepB_spec H n K9.w' (tb5.ke k59) .ctu (now := 0) (k0 := 0) (k1 := 0) (k2 := 0) o9.si (nil h9) (by decide) (by decide) (i64s_of (by decide)) nil_I t0 t0 t0 t0
  rw [known_t3] at s3
  refine Wp.bind s3 fun v ha ⟨Ka, xa, ev, oa, fa⟩ => ?_
  subst ev
  (try simp -dsimp (disch := omega) only [↓pre, sp, sp2, wp_some, Int.cast_ofNat_Int, Nat.reduceAdd, Nat.reduceMul, Nat.reduceSub, Nat.reduceLeDiff, Nat.reduceEqDiff, Nat.reducePow, Int.reduceToNat, Int.reducePow, Int.reduceAdd, Int.reduceSub, Int.reduceMul, Int.reduceLT, Int.reduceLE, Int.reduceEq, Int.reduceNeg])
  refine wp_kbox Ka.w' fun qb hb eb Kb' nb bb => ?_
  (try simp -dsimp (disch := omega) only [↓pre, sp, sp2, wp_some, Int.cast_ofNat_Int, Nat.reduceAdd, Nat.reduceMul, Nat.reduceSub, Nat.reduceLeDiff, Nat.reduceEqDiff, Nat.reducePow, Int.reduceToNat, Int.reducePow, Int.reduceAdd, Int.reduceSub, Int.reduceMul, Int.reduceLT, Int.reduceLE, Int.reduceEq, Int.reduceNeg])
  refine wp_kb Kb'.w' bb ⟨[1, 1], 1, 0, 0⟩ fun hc Kc nc bc => ?_
  have kac : Kp ha hc := Ke.new_p Kb' Kc fun i hi => by omega
  (try simp -dsimp (disch := omega) only [↓pre, sp, sp2, wp_some, Int.cast_ofNat_Int, Nat.reduceAdd, Nat.reduceMul, Nat.reduceSub, Nat.reduceLeDiff, Nat.reduceEqDiff, Nat.reducePow, Int.reduceToNat, Int.reducePow, Int.reduceAdd, Int.reduceSub, Int.reduceMul, Int.reduceLT, Int.reduceLE, Int.reduceEq, Int.reduceNeg])
  refine wp_nums kac.w' [1, 0, 1] rfl rfl (by omega) fun qd hd ed Kd nd od => ?_
  (try simp -dsimp (disch := omega) only [↓pre, sp, sp2, wp_some, Int.cast_ofNat_Int, Nat.reduceAdd, Nat.reduceMul, Nat.reduceSub, Nat.reduceLeDiff, Nat.reduceEqDiff, Nat.reducePow, Int.reduceToNat, Int.reducePow, Int.reduceAdd, Int.reduceSub, Int.reduceMul, Int.reduceLT, Int.reduceLE, Int.reduceEq, Int.reduceNeg, (bc.kp Kd).ld])
  have oa' : Oi hd xa [1, 1] := oa.kp (kac.trans Kd)
  have k9d : Kp h9 hd := (Ka.trans kac).trans Kd
  have s4 := stepB_spec H n Kd.w' ((tb5.ke k59).ke k9d) .ctu (now := 0) (k0 := 1) (k1 := 0) (k2 := 0) od.si oa'.si (by decide) (by decide) (i64s_of (by decide)) (i64s_of (by decide)) t1 t0 t0 t0
  rw [known_t4] at s4
  refine Wp.bind s4 fun v he ⟨Ke', xe, ev, oe, fe⟩ => ?_
  subst ev
  (try simp -dsimp (disch := omega) only [↓pre, sp, sp2, wp_some, Int.cast_ofNat_Int, Nat.reduceAdd, Nat.reduceMul, Nat.reduceSub, Nat.reduceLeDiff, Nat.reduceEqDiff, Nat.reducePow, Int.reduceToNat, Int.reducePow, Int.reduceAdd, Int.reduceSub, Int.reduceMul, Int.reduceLT, Int.reduceLE, Int.reduceEq, Int.reduceNeg])
  refine wp_kbox Ke'.w' fun qf hf ef Kf nf bf => ?_
  (try simp -dsimp (disch := omega) only [↓pre, sp, sp2, wp_some, Int.cast_ofNat_Int, Nat.reduceAdd, Nat.reduceMul, Nat.reduceSub, Nat.reduceLeDiff, Nat.reduceEqDiff, Nat.reducePow, Int.reduceToNat, Int.reducePow, Int.reduceAdd, Int.reduceSub, Int.reduceMul, Int.reduceLT, Int.reduceLE, Int.reduceEq, Int.reduceNeg])
  refine wp_kb Kf.w' bf ⟨[1, 1], 1, 0, 0⟩ fun hg Kg ng bg => ?_
  have keg : Kp he hg := Ke.new_p Kf Kg fun i hi => by omega
  (try simp -dsimp (disch := omega) only [↓pre, sp, sp2, wp_some, Int.cast_ofNat_Int, Nat.reduceAdd, Nat.reduceMul, Nat.reduceSub, Nat.reduceLeDiff, Nat.reduceEqDiff, Nat.reducePow, Int.reduceToNat, Int.reducePow, Int.reduceAdd, Int.reduceSub, Int.reduceMul, Int.reduceLT, Int.reduceLE, Int.reduceEq, Int.reduceNeg])
  refine wp_nums keg.w' [0, 0] rfl rfl (by omega) fun qi hi ei Ki ni oi => ?_
  have kdi : Kp hd hi := (Ke'.trans keg).trans Ki
  have o2i : Oi hi x2 [0, 0] := o2'.kp (k59.trans (k9d.trans kdi))
  have e1 := nums_spec H (n + 5) o2i.si oi.si (by decide)
  (try simp -dsimp (disch := omega) only [↓pre, sp, sp2, wp_some, Int.cast_ofNat_Int, Nat.reduceAdd, Nat.reduceMul, Nat.reduceSub, Nat.reduceLeDiff, Nat.reduceEqDiff, Nat.reducePow, Int.reduceToNat, Int.reducePow, Int.reduceAdd, Int.reduceSub, Int.reduceMul, Int.reduceLT, Int.reduceLE, Int.reduceEq, Int.reduceNeg, e1])
  have o6i : Oi hi x6 [1, 10] := o6.kp ((k68.trans K9).trans (k9d.trans kdi))
  have oai : Oi hi xa [1, 1] := oa'.kp kdi
  have oei : Oi hi xe [1, 1] := oe.kp (keg.trans Ki)
  have k0i : Kp h hi := ((K1.trans k14).trans K5).trans (k59.trans (k9d.trans kdi))
  refine wp_kTh (fun v h' => v = .bool true ∧ Kp h h') (fun j hj => ?_) ?_
  · (try simp -dsimp (disch := omega) only [↓pre, sp, sp2, wp_some, Int.cast_ofNat_Int, Nat.reduceAdd, Nat.reduceMul, Nat.reduceSub, Nat.reduceLeDiff, Nat.reduceEqDiff, Nat.reducePow, Int.reduceToNat, Int.reducePow, Int.reduceAdd, Int.reduceSub, Int.reduceMul, Int.reduceLT, Int.reduceLE, Int.reduceEq, Int.reduceNeg])
    refine wp_nums k0i.w' [1, 10] rfl rfl (by omega) fun qj hj' ej Kj nj oj => ?_
    have e2 := nums_spec H (n + 5) (oik o6i Kj).si oj.si (by decide)
    (try simp -dsimp (disch := omega) only [↓pre, sp, sp2, wp_some, Int.cast_ofNat_Int, Nat.reduceAdd, Nat.reduceMul, Nat.reduceSub, Nat.reduceLeDiff, Nat.reduceEqDiff, Nat.reducePow, Int.reduceToNat, Int.reducePow, Int.reduceAdd, Int.reduceSub, Int.reduceMul, Int.reduceLT, Int.reduceLE, Int.reduceEq, Int.reduceNeg, e2])
    refine wp_nums Kj.w' [1, 1] rfl rfl (by omega) fun qk hk' ek Kk nk ok => ?_
    have e3 := nums_spec H (n + 5) (oik oai (Kj.trans Kk)).si ok.si (by decide)
    (try simp -dsimp (disch := omega) only [↓pre, sp, sp2, wp_some, Int.cast_ofNat_Int, Nat.reduceAdd, Nat.reduceMul, Nat.reduceSub, Nat.reduceLeDiff, Nat.reduceEqDiff, Nat.reducePow, Int.reduceToNat, Int.reducePow, Int.reduceAdd, Int.reduceSub, Int.reduceMul, Int.reduceLT, Int.reduceLE, Int.reduceEq, Int.reduceNeg, e3])
    refine wp_nums Kk.w' [1, 1] rfl rfl (by omega) fun ql hl' el Kl nl ol => ?_
    have e4 := nums_spec H (n + 5) (oik oei ((Kj.trans Kk).trans Kl)).si ol.si (by decide)
    (try simp -dsimp (disch := omega) only [↓pre, sp, sp2, wp_some, Int.cast_ofNat_Int, Nat.reduceAdd, Nat.reduceMul, Nat.reduceSub, Nat.reduceLeDiff, Nat.reduceEqDiff, Nat.reducePow, Int.reduceToNat, Int.reducePow, Int.reduceAdd, Int.reduceSub, Int.reduceMul, Int.reduceLT, Int.reduceLE, Int.reduceEq, Int.reduceNeg, e4])
    exact hj _ _ ⟨rfl, k0i.trans ((Kj.trans Kk).trans Kl)⟩
  · rintro _ h' ⟨rfl, k⟩
    (try simp -dsimp (disch := omega) only [↓pre, sp, sp2, wp_some, Int.cast_ofNat_Int, Nat.reduceAdd, Nat.reduceMul, Nat.reduceSub, Nat.reduceLeDiff, Nat.reduceEqDiff, Nat.reducePow, Int.reduceToNat, Int.reducePow, Int.reduceAdd, Int.reduceSub, Int.reduceMul, Int.reduceLT, Int.reduceLE, Int.reduceEq, Int.reduceNeg])
    exact k
end Go.Proofs.YtindiedfioiejaaDoor.AI
