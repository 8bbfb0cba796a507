/- Chapter 17: the document's step. -/
import Derived.Test.YtindiedfioiejaaDoorFr2
namespace Go.Proofs.YtindiedfioiejaaDoor.AI
open Go
set_option linter.unusedSimpArgs false
set_option linter.unusedVariables false
variable {ov : AOver} {h h0 : AH} {q0 q2 : Nat} {k0 k1 k2 : Int} {pin po : AVal} {LI LO : List Int}
theorem wp_kAll (s : KSt h0 h q0 q2 k0 k1 k2) {Q : AVal → AH → Prop} {K : AVal → AH → Ans} (a b d : Int)
    (c : ∀ h1, Ke (· = q0) h h1 → h1.n = h.n → KSt h0 h1 q0 q2 a b d → Wp (K (.tuple []) h1) Q) :
    Wp (ke ((rStore 3 (.ptr (some (q0, 0))) (.agg (k3 a b d)) h).map fun h' => (.tuple [], h')) K) Q := by
  refine wp_store (vs := k3 a b d) s.w s.g0 rfl rfl (by simp [k3]) rfl fun h1 e1 n1 g1 => c h1 e1 n1 ⟨Ke.new_p s.kp e1 fun j hj => by subst hj; exact s.n0, ?_, e1.gt s.g2 s.ne, s.n0, s.n2, s.ne⟩
  rw [g1]; rfl
/-- .. and its padded numbers. -/
structure RSt (h0 h : AH) (q0 q2 : Nat) (pin po : AVal) (LI LO : List Int) (k0 k1 k2 : Int) : Prop extends KSt h0 h q0 q2 k0 k1 k2 where
  oi : Oi h pin LI
  oo : Oi h po LO
  fi : ∀ i, isBk pin i → h0.n ≤ i ∧ i ≠ q0 ∧ i ≠ q2
  fo : ∀ i, isBk po i → h0.n ≤ i ∧ i ≠ q0 ∧ i ≠ q2
  d : ∀ i, isBk po i → ¬ isBk pin i
theorem RSt.to' {h' : AH} (s : RSt h0 h q0 q2 pin po LI LO k0 k1 k2) (k : Kp h h') : RSt h0 h' q0 q2 pin po LI LO k0 k1 k2 := ⟨s.toKSt.to k, s.oi.kp k, s.oo.kp k, s.fi, s.fo, s.d⟩
theorem wp_r (s : RSt h0 h q0 q2 pin po LI LO k0 k1 k2) {Q : AVal → AH → Prop} {K : AVal → AH → Ans} (i : Nat) (hi : i < 3) (x : Int)
    (c : ∀ h1, RSt h0 h1 q0 q2 pin po LI LO (if i = 0 then x else k0) (if i = 1 then x else k1) (if i = 2 then x else k2) → Wp (K (.tuple []) h1) Q) :
    Wp (ke ((rStore 1 (.ptr (some (q0, i))) (.int .i64 x) h).map fun h' => (.tuple [], h')) K) Q :=
  wp_k s.toKSt i hi x fun h1 e1 n1 s1 => c h1 ⟨s1, s.oi.ke e1 fun j hj e => (s.fi j hj).2.1 e, s.oo.ke e1 fun j hj e => (s.fo j hj).2.1 e, s.fi, s.fo, s.d⟩
theorem wp_r0 (s : RSt h0 h q0 q2 pin po LI LO k0 k1 k2) {Q : AVal → AH → Prop} {K : AVal → AH → Ans} (x : Int) (c : ∀ h1, RSt h0 h1 q0 q2 pin po LI LO x k1 k2 → Wp (K (.tuple []) h1) Q) :
    Wp (ke ((rStore 1 (.ptr (some (q0, 0))) (.int .i64 x) h).map fun h' => (.tuple [], h')) K) Q := wp_r s 0 (by omega) x c
theorem wp_r1 (s : RSt h0 h q0 q2 pin po LI LO k0 k1 k2) {Q : AVal → AH → Prop} {K : AVal → AH → Ans} (x : Int) (c : ∀ h1, RSt h0 h1 q0 q2 pin po LI LO k0 x k2 → Wp (K (.tuple []) h1) Q) :
    Wp (ke ((rStore 1 (.ptr (some (q0, 1))) (.int .i64 x) h).map fun h' => (.tuple [], h')) K) Q := wp_r s 1 (by omega) x c
theorem wp_rAll (s : RSt h0 h q0 q2 pin po LI LO k0 k1 k2) {Q : AVal → AH → Prop} {K : AVal → AH → Ans} (a b d : Int) (c : ∀ h1, Ke (· = q0) h h1 → RSt h0 h1 q0 q2 pin po LI LO a b d → Wp (K (.tuple []) h1) Q) :
    Wp (ke ((rStore 3 (.ptr (some (q0, 0))) (.agg (k3 a b d)) h).map fun h' => (.tuple [], h')) K) Q :=
  wp_kAll s.toKSt a b d fun h1 e1 n1 s1 => c h1 e1 ⟨s1, s.oi.ke e1 fun j hj e => (s.fi j hj).2.1 e, s.oo.ke e1 fun j hj e => (s.fo j hj).2.1 e, s.fi, s.fo, s.d⟩
/-- The one output is set. -/
theorem wp_ro {o0 : Int} (s : RSt h0 h q0 q2 pin po LI [o0] k0 k1 k2) {Q : AVal → AH → Prop} {K : AVal → AH → Ans} (x : Int) (c : ∀ h1, RSt h0 h1 q0 q2 pin po LI [x] k0 k1 k2 → Wp (K (.tuple []) h1) Q) :
    Wp (ke ((rStore 1 (ea po 0) (.int .i64 x) h).map fun h' => (.tuple [], h')) K) Q := by
  refine wp_storeOw (vs := [.int .i64 x]) s.w s.oo rfl rfl rfl (by simp [i64s]) (by simp [i64s]) rfl fun h1 o1 e1 n1 => c h1 ?_
  have nb : ∀ q, (∀ i, isBk po i → i ≠ q) → ¬ isBk po q := fun q h hq => h q hq rfl
  exact ⟨⟨Ke.new_p s.kp e1 fun j hj => (s.fo j hj).1, e1.gt s.g0 (nb _ fun i hi => (s.fo i hi).2.1), e1.gt s.g2 (nb _ fun i hi => (s.fo i hi).2.2), s.n0, s.n2, s.ne⟩,
    s.oi.ke e1 fun j hj e => s.d j e hj, o1, s.fi, s.fo, s.d⟩
theorem RSt.li (s : RSt h0 h q0 q2 pin po LI LO k0 k1 k2) {j : Nat} (hj : j < LI.length) : rLoad (ea pin j) h = some (.int .i64 (LI.getD j 0)) := s.oi.si.ldI hj
theorem RSt.lo (s : RSt h0 h q0 q2 pin po LI LO k0 k1 k2) {j : Nat} (hj : j < LO.length) : rLoad (ea po j) h = some (.int .i64 (LO.getD j 0)) := s.oo.si.ldI hj
/-- What holds when a case is done. -/
def RE (h0 : AH) (q0 q2 : Nat) (t : Told) (l : List AVal) (h' : AH) : Prop :=
  ∃ (v : AVal), l = [v] ∧ KSt h0 h' q0 q2 t.k0 t.k1 t.k2 ∧ Oi h' v t.out ∧ Fresh h0 v ∧ ¬ isBk v q2
theorem RSt.done {t : Told} (s : RSt h0 h q0 q2 pin po LI LO k0 k1 k2) (ht : t = ⟨LO, k0, k1, k2⟩) : RE h0 q0 q2 t [po] h := by
  subst ht
  exact ⟨po, rfl, s.toKSt, s.oo, fun i hi => (s.fo i hi).1, fun hi => (s.fo _ hi).2.2 rfl⟩
theorem RE.new {t : Told} {q n : Nat} {h1 : AH} (s : KSt h0 h q0 q2 k0 k1 k2) (hq : q = h.n) (k : Kp h h1) (g : h1.get q = some ⟨.row (i64s LO) T_int64 false, .rw, []⟩) (hn : LO.length = n) (ht : t = ⟨LO, k0, k1, k2⟩) : RE h0 q0 q2 t [.slice (some (q, 0, 1)) n n] h1 := by
  subst ht hn
  have := s.w.lt _ _ s.g2
  have := s.kp.n
  exact ⟨_, rfl, s.to k, Ow.new g (by omega) _ (by simp [i64s]) (i64s_cells _), fun i hi => by simp only [isBk] at hi; omega, fun hi => by simp only [isBk] at hi; omega⟩
theorem keepsR (f : Int → Int) (k0 k1 k2 : Int) (i : Nat) (hi : i < 3) :
    (if i = 0 then f (if i = 0 then k0 else if i = 1 then k1 else k2) else if 0 < i then f k0 else k0) = (if 0 < i + 1 then f k0 else k0) ∧
    (if i = 1 then f (if i = 0 then k0 else if i = 1 then k1 else k2) else if 1 < i then f k1 else k1) = (if 1 < i + 1 then f k1 else k1) ∧
    (if i = 2 then f (if i = 0 then k0 else if i = 1 then k1 else k2) else if 2 < i then f k2 else k2) = (if 2 < i + 1 then f k2 else k2) := by
  rcases (by omega : i = 0 ∨ i = 1 ∨ i = 2) with rfl | rfl | rfl <;> exact ⟨rfl, rfl, rfl⟩
theorem KSt.at {f : Int → Int} {i : Nat} (s : KSt h0 h q0 q2 (if 0 < i then f k0 else k0) (if 1 < i then f k1 else k1) (if 2 < i then f k2 else k2)) (hi : i < 3) : rLoad (.ptr (some (q0, i))) h = some (.int .i64 (if i = 0 then k0 else if i = 1 then k1 else k2)) := by
  rcases (by omega : i = 0 ∨ i = 1 ∨ i = 2) with rfl | rfl | rfl
  · exact s.ld.1
  · exact s.ld.2.1
  · exact s.ld.2.2.1
/-- What holds at the head of the loop that wraps what was kept. -/
def RK (h0 : AH) (q0 q2 : Nat) (pin po : AVal) (LI LO : List Int) (k0 k1 k2 : Int) (k : Nat) (l : List AVal) (h1 : AH) : Prop :=
  ∃ i : Nat, l = [.int .i64 i] ∧ i + k = 3 ∧ RSt h0 h1 q0 q2 pin po LI LO (if 0 < i then wrapM 4 k0 else k0) (if 1 < i then wrapM 4 k1 else k1) (if 2 < i then wrapM 4 k2 else k2)
theorem kI (k0 k1 k2 : Int) (i : Nat) (i0 : I64 k0) (i1 : I64 k1) (i2 : I64 k2) : I64 (if i = 0 then k0 else if i = 1 then k1 else k2) := by
  split
  · assumption
  · split <;> assumption
theorem rstep_spec (H : Plain ov) (n : Nat) (w : Wf h) (nm : Nm) {x y : AVal} {li lo : List Int} {md md' : AMode} {k0 k1 k2 now : Int}
    (hx : Si h x li md) (hy : Si h y lo md') (hi : I64s li) (ho : I64s lo) (i0 : I64 k0) (i1 : I64 k1) (i2 : I64 k2) (hn : I64 now) :
    Wp (kc ov (n + 7) N_rungref17_Step [.str nm, x, .agg (k3 k0 k1 k2), y, .int .i64 now] h) (ToldQ h (toldS nm li lo k0 k1 k2 now)) := by
  rw [C_rungref17_Step H]; unfold F_rungref17_Step
  refine wp_box w rfl rfl fun q0 h1 e0 K1 n1 g0 => ?_
  (try simp -dsimp (disch := omega) only [↓pre, sp, sp2, wp_some, Int.cast_ofNat_Int, Nat.reduceAdd, Nat.reduceMul, Nat.reduceSub, Nat.reduceLeDiff, Nat.reduceEqDiff, Nat.reducePow, Int.reduceToNat, Int.reducePow, Int.reduceAdd, Int.reduceSub, Int.reduceMul, Int.reduceLT, Int.reduceLE, Int.reduceEq, Int.reduceNeg])
  refine wp_box K1.w' rfl rfl fun q2 h2 e2 K2 n2 g2 => ?_
  have s2 : KSt h h2 q0 q2 k0 k1 k2 := ⟨K1.trans K2, K2.gt g0, g2, by omega, by omega, by omega⟩
  (try simp -dsimp (disch := omega) only [↓pre, sp, sp2, wp_some, Int.cast_ofNat_Int, Nat.reduceAdd, Nat.reduceMul, Nat.reduceSub, Nat.reduceLeDiff, Nat.reduceEqDiff, Nat.reducePow, Int.reduceToNat, Int.reducePow, Int.reduceAdd, Int.reduceSub, Int.reduceMul, Int.reduceLT, Int.reduceLE, Int.reduceEq, Int.reduceNeg])
  refine Wp.bind (rpins_spec H (n + 5) s2.w nm) fun v h3 ⟨K3, xi, xo, ev, oi, oo, fi, fo⟩ => ?_
  subst ev
  have s3 := s2.to K3
  (try simp -dsimp (disch := omega) only [↓pre, sp, sp2, wp_some, Int.cast_ofNat_Int, Nat.reduceAdd, Nat.reduceMul, Nat.reduceSub, Nat.reduceLeDiff, Nat.reduceEqDiff, Nat.reducePow, Int.reduceToNat, Int.reducePow, Int.reduceAdd, Int.reduceSub, Int.reduceMul, Int.reduceLT, Int.reduceLE, Int.reduceEq, Int.reduceNeg, (Ow.rd oi).len])
  refine wp_ite (fun c => ?_) (fun c => ?_)
  · have e : bl? nm = none := by
      cases e : bl? nm with
      | none => rfl
      | some b => rw [e] at c; cases b <;> simp [insO, Bl.ins] at c
    have et : toldS nm li lo k0 k1 k2 now = ⟨[], 0, 0, 0⟩ := by unfold toldS; rw [e]; rfl
    have eb : rBuildA [(.int .i64 0), (.int .i64 0), (.int .i64 0)] 1 [] = some (.agg (k3 0 0 0)) := rfl
    (try simp -dsimp (disch := omega) only [↓pre, sp, sp2, wp_some, Int.cast_ofNat_Int, Nat.reduceAdd, Nat.reduceMul, Nat.reduceSub, Nat.reduceLeDiff, Nat.reduceEqDiff, Nat.reducePow, Int.reduceToNat, Int.reducePow, Int.reduceAdd, Int.reduceSub, Int.reduceMul, Int.reduceLT, Int.reduceLE, Int.reduceEq, Int.reduceNeg, eb])
    have s3' : KSt h h3 q0 q2 k0 k1 k2 := s3
    refine wp_store (vs := k3 0 0 0) s3.w s3.g2 rfl rfl (by simp [k3]) rfl fun h4 e4 n4 g4 => ?_
    have el : rLoadA 3 (.ptr (some (q2, 0))) h4 = some (.agg (k3 0 0 0)) := by rw [rLoadA_ptr, row_rw g4]; rfl
    (try simp -dsimp (disch := omega) only [↓pre, sp, sp2, wp_some, Int.cast_ofNat_Int, Nat.reduceAdd, Nat.reduceMul, Nat.reduceSub, Nat.reduceLeDiff, Nat.reduceEqDiff, Nat.reducePow, Int.reduceToNat, Int.reducePow, Int.reduceAdd, Int.reduceSub, Int.reduceMul, Int.reduceLT, Int.reduceLE, Int.reduceEq, Int.reduceNeg, el])
    rw [et]
    exact ⟨Ke.new_p s3.kp e4 fun j hj => by subst hj; exact s3.n2, _, rfl, Ow.nil _ _ _ (by omega), fun i hi => hi.elim⟩
  · obtain ⟨b, eb⟩ : ∃ b, bl? nm = some b := by
      cases e : bl? nm with
      | none => rw [e] at c; exact absurd rfl c
      | some b => exact ⟨b, rfl⟩
    have et : toldS nm li lo k0 k1 k2 now = refM b li lo k0 k1 k2 now := by unfold toldS; rw [eb]
    rw [et]
    rw [eb] at oi oo
    simp only [insO, outsO] at oi oo
    clear c et
    obtain ⟨t, ht⟩ : ∃ t, t = refM b li lo k0 k1 k2 now := ⟨_, rfl⟩
    rw [← ht]
    (try simp -dsimp (disch := omega) only [↓pre, sp, sp2, wp_some, Int.cast_ofNat_Int, Nat.reduceAdd, Nat.reduceMul, Nat.reduceSub, Nat.reduceLeDiff, Nat.reduceEqDiff, Nat.reducePow, Int.reduceToNat, Int.reducePow, Int.reduceAdd, Int.reduceSub, Int.reduceMul, Int.reduceLT, Int.reduceLE, Int.reduceEq, Int.reduceNeg, (Ow.rd oi).len, eb, insO])
    refine Wp.bind (pad_spec H (n + 5) s3.w (hx.kp s3.kp) (bl_len b).1) fun pin h4 ⟨K4, pi, pf⟩ => ?_
    have oo4 := oo.kp K4
    (try simp -dsimp (disch := omega) only [↓pre, sp, sp2, wp_some, Int.cast_ofNat_Int, Nat.reduceAdd, Nat.reduceMul, Nat.reduceSub, Nat.reduceLeDiff, Nat.reduceEqDiff, Nat.reducePow, Int.reduceToNat, Int.reducePow, Int.reduceAdd, Int.reduceSub, Int.reduceMul, Int.reduceLT, Int.reduceLE, Int.reduceEq, Int.reduceNeg, (Ow.rd oo4).len])
    refine Wp.bind (pad_spec H (n + 5) K4.w' (hy.kp (s3.kp.trans K4)) (bl_len b).2) fun po h5 ⟨K5, qi, qf⟩ => ?_
    (try simp -dsimp (disch := omega) only [↓pre, sp, sp2, wp_some, Int.cast_ofNat_Int, Nat.reduceAdd, Nat.reduceMul, Nat.reduceSub, Nat.reduceLeDiff, Nat.reduceEqDiff, Nat.reducePow, Int.reduceToNat, Int.reducePow, Int.reduceAdd, Int.reduceSub, Int.reduceMul, Int.reduceLT, Int.reduceLE, Int.reduceEq, Int.reduceNeg])
    refine Wp.bind (rwrap_spec H (n + 2) K5.w' 4 now hn) fun v h6 ⟨K6, ev⟩ => ?_
    subst ev
    have K46 : Kp h4 h6 := K5.trans K6
    have hq2 := s3.w.lt _ _ s3.g2
    have hq0 := s3.w.lt _ _ s3.g0
    have s6 : RSt h h6 q0 q2 pin po (padL li b.ins.length) (padL lo b.outs.length) k0 k1 k2 := ⟨s3.to (K4.trans K46), pi.kp K46, qi.kp K6,
      fun i hi => by have := pf i hi; have := s3.kp.n; omega, fun i hi => by have := qf i hi; have := s3.kp.n; have := K4.n; omega,
      fun i hi hp => by
        have h1 := qf i hi
        have h2 : i < h4.n := by
          rcases pi.2.2.2 with ⟨rfl, _⟩ | ⟨j, off, cs, opn, par, rfl, g, _⟩
          · exact hp.elim
          · simp only [isBk] at hp; subst hp; exact K4.w'.lt _ _ g
        omega⟩
    (try simp -dsimp (disch := omega) only [↓pre, sp, sp2, wp_some, Int.cast_ofNat_Int, Nat.reduceAdd, Nat.reduceMul, Nat.reduceSub, Nat.reduceLeDiff, Nat.reduceEqDiff, Nat.reducePow, Int.reduceToNat, Int.reducePow, Int.reduceAdd, Int.reduceSub, Int.reduceMul, Int.reduceLT, Int.reduceLE, Int.reduceEq, Int.reduceNeg])
    refine wp_loop (RK h q0 q2 pin po (padL li b.ins.length) (padL lo b.outs.length) k0 k1 k2) 3 (by omega) ⟨0, rfl, rfl, s6⟩ ?_
    rintro k _ h7 j ⟨i, rfl, hik, s7⟩ hj
    unfold L_rungref17_Step_0
    (try simp -dsimp (disch := omega) only [↓pre, sp, sp2, wp_some, Int.cast_ofNat_Int, Nat.reduceAdd, Nat.reduceMul, Nat.reduceSub, Nat.reduceLeDiff, Nat.reduceEqDiff, Nat.reducePow, Int.reduceToNat, Int.reducePow, Int.reduceAdd, Int.reduceSub, Int.reduceMul, Int.reduceLT, Int.reduceLE, Int.reduceEq, Int.reduceNeg])
    refine wp_ite (fun c => ?_) (fun c => ?_)
    · have hi3 : i < 3 := by omega
      have ei : IntKind.wrap .i64 ((i : Int) + 1) = ((i + 1 : Nat) : Int) := by rw [wr_i64 (by omega) (by omega)]; omega
      have eA : rAtArr 3 1 (.ptr (some (q0, 0))) (.int .i64 (i : Int)) = some (.ptr (some (q0, i))) := by
        rw [rAtArr_ptr (by omega) (by omega)]; simp
      have el := s7.toKSt.at (f := wrapM 4) hi3
      obtain ⟨r0, r1, r2⟩ := keepsR (wrapM 4) k0 k1 k2 i hi3
      have hI := kI k0 k1 k2 i i0 i1 i2
      generalize (if i = 0 then k0 else if i = 1 then k1 else k2) = kk at *
      (try simp -dsimp (disch := omega) only [↓pre, sp, sp2, wp_some, Int.cast_ofNat_Int, Nat.reduceAdd, Nat.reduceMul, Nat.reduceSub, Nat.reduceLeDiff, Nat.reduceEqDiff, Nat.reducePow, Int.reduceToNat, Int.reducePow, Int.reduceAdd, Int.reduceSub, Int.reduceMul, Int.reduceLT, Int.reduceLE, Int.reduceEq, Int.reduceNeg, eA, el])
      refine Wp.bind (rwrap_spec H (n + 2) s7.w 4 kk hI) fun v h8 ⟨K8, ev⟩ => ?_
      subst ev
      (try simp -dsimp (disch := omega) only [↓pre, sp, sp2, wp_some, Int.cast_ofNat_Int, Nat.reduceAdd, Nat.reduceMul, Nat.reduceSub, Nat.reduceLeDiff, Nat.reduceEqDiff, Nat.reducePow, Int.reduceToNat, Int.reducePow, Int.reduceAdd, Int.reduceSub, Int.reduceMul, Int.reduceLT, Int.reduceLE, Int.reduceEq, Int.reduceNeg, eA])
      refine wp_r (s7.to' K8) i hi3 _ fun h9 s9 => ?_
      rw [r0, r1, r2] at s9
      (try simp -dsimp (disch := omega) only [↓pre, sp, sp2, wp_some, Int.cast_ofNat_Int, Nat.reduceAdd, Nat.reduceMul, Nat.reduceSub, Nat.reduceLeDiff, Nat.reduceEqDiff, Nat.reducePow, Int.reduceToNat, Int.reducePow, Int.reduceAdd, Int.reduceSub, Int.reduceMul, Int.reduceLT, Int.reduceLE, Int.reduceEq, Int.reduceNeg, ei])
      exact hj (k - 1) _ _ (by omega) ⟨i + 1, rfl, by omega, s9⟩
    · have hi3 : i = 3 := by omega
      subst hi3
      clear hj
      simp only [show (0 : Nat) < 3 by omega, show (1 : Nat) < 3 by omega, show (2 : Nat) < 3 by omega, if_true] at s7
      have hL : ∀ {h' : AH} {LO' : List Int} {a b' c : Int} {j : Nat}, RSt h h' q0 q2 pin po (padL li b.ins.length) LO' a b' c → j < b.ins.length → rLoad (ea pin j) h' = some (.int .i64 (gi li j)) := fun s hj => by
        rw [s.li (by rw [padL_len]; exact hj), padL_at _ hj]
      have hO : ∀ {h' : AH} {a b' c : Int} {j : Nat}, RSt h h' q0 q2 pin po (padL li b.ins.length) (padL lo b.outs.length) a b' c → j < b.outs.length → rLoad (ea po j) h' = some (.int .i64 (gi lo j)) := fun s hj => by
        rw [s.lo (by rw [padL_len]; exact hj), padL_at _ hj]
      have pi7 : Sz h7 pin 1 b.ins.length (i64s (padL li b.ins.length)) .rw := (Ow.rd s7.oi).to rfl (padL_len _ _)
      have qo7 : Sz h7 po 1 b.outs.length (i64s (padL lo b.outs.length)) .rw := (Ow.rd s7.oo).to rfl (padL_len _ _)
      have p0 : 0 < b.ins.length := by cases b <;> decide
      have p0' : 0 < b.outs.length := by cases b <;> decide
      have et1 := fun h b => rtruth_spec (h := h) H (n + 5) b
      have ea0 : rAtArr 3 1 (.ptr (some (q0, 0))) (.int .i64 0) = some (.ptr (some (q0, 0))) := rfl
      have ea1 : rAtArr 3 1 (.ptr (some (q0, 0))) (.int .i64 1) = some (.ptr (some (q0, 1))) := rfl
      (try simp -dsimp (disch := omega) only [↓pre, sp, sp2, wp_some, Int.cast_ofNat_Int, Nat.reduceAdd, Nat.reduceMul, Nat.reduceSub, Nat.reduceLeDiff, Nat.reduceEqDiff, Nat.reducePow, Int.reduceToNat, Int.reducePow, Int.reduceAdd, Int.reduceSub, Int.reduceMul, Int.reduceLT, Int.reduceLE, Int.reduceEq, Int.reduceNeg, pi7.at, hL s7 p0, pi7.len])
      generalize ha' : decide (¬ gi li 0 = 0) = a
      have ha : decide (gi li 0 ≠ 0) = a := ha'
      clear ha'
      obtain ⟨bv, hbv⟩ : ∃ bv, bv = (decide (1 < b.ins.length) && decide (gi li 1 ≠ 0)) := ⟨_, rfl⟩
      refine wp_kJ (fun l h8 => l = [.bool bv] ∧ h8 = h7) (fun j55 hj55 => ?_) ?_
      · (try simp -dsimp (disch := omega) only [↓pre, sp, sp2, wp_some, Int.cast_ofNat_Int, Nat.reduceAdd, Nat.reduceMul, Nat.reduceSub, Nat.reduceLeDiff, Nat.reduceEqDiff, Nat.reducePow, Int.reduceToNat, Int.reducePow, Int.reduceAdd, Int.reduceSub, Int.reduceMul, Int.reduceLT, Int.reduceLE, Int.reduceEq, Int.reduceNeg])
        refine wp_ite (fun c => ?_) (fun c => ?_)
        · have p1 : 1 < b.ins.length := by omega
          rw [decide_eq_true p1, Bool.true_and] at hbv
          (try simp -dsimp (disch := omega) only [↓pre, sp, sp2, wp_some, Int.cast_ofNat_Int, Nat.reduceAdd, Nat.reduceMul, Nat.reduceSub, Nat.reduceLeDiff, Nat.reduceEqDiff, Nat.reducePow, Int.reduceToNat, Int.reducePow, Int.reduceAdd, Int.reduceSub, Int.reduceMul, Int.reduceLT, Int.reduceLE, Int.reduceEq, Int.reduceNeg, pi7.at, hL s7 p1])
          exact hj55 _ _ ⟨by rw [hbv], rfl⟩
        · have p1 : ¬ 1 < b.ins.length := by omega
          rw [decide_eq_false p1, Bool.false_and] at hbv
          (try simp -dsimp (disch := omega) only [↓pre, sp, sp2, wp_some, Int.cast_ofNat_Int, Nat.reduceAdd, Nat.reduceMul, Nat.reduceSub, Nat.reduceLeDiff, Nat.reduceEqDiff, Nat.reducePow, Int.reduceToNat, Int.reducePow, Int.reduceAdd, Int.reduceSub, Int.reduceMul, Int.reduceLT, Int.reduceLE, Int.reduceEq, Int.reduceNeg])
          exact hj55 _ _ ⟨by rw [hbv], rfl⟩
      · rintro _ h8 ⟨rfl, e⟩
        subst e
        (try simp -dsimp (disch := omega) only [↓pre, sp, sp2, wp_some, Int.cast_ofNat_Int, Nat.reduceAdd, Nat.reduceMul, Nat.reduceSub, Nat.reduceLeDiff, Nat.reduceEqDiff, Nat.reducePow, Int.reduceToNat, Int.reducePow, Int.reduceAdd, Int.reduceSub, Int.reduceMul, Int.reduceLT, Int.reduceLE, Int.reduceEq, Int.reduceNeg, ↓eqT nm true, eb, Option.some.injEq])
        refine wp_kJ (RE h q0 q2 t) (fun j60 hj60 => ?_) ?_
        · (try simp -dsimp (disch := omega) only [↓pre, sp, sp2, wp_some, Int.cast_ofNat_Int, Nat.reduceAdd, Nat.reduceMul, Nat.reduceSub, Nat.reduceLeDiff, Nat.reduceEqDiff, Nat.reducePow, Int.reduceToNat, Int.reducePow, Int.reduceAdd, Int.reduceSub, Int.reduceMul, Int.reduceLT, Int.reduceLE, Int.reduceEq, Int.reduceNeg, ↓eqT nm true, eb, Option.some.injEq])
          refine wp_ite (fun c => ?_) (fun c => ?_)
          · subst c
            simp only [refM, ha] at ht
            have s7' : RSt h h8 q0 q2 pin po (padL li Bl.rt.ins.length) [gi lo 0] (wrapM 4 k0) (wrapM 4 k1) (wrapM 4 k2) := s7
            generalize wrapM 4 k0 = K0 at *
            generalize wrapM 4 k1 = K1 at *
            generalize wrapM 4 k2 = K2 at *
            (try simp -dsimp (disch := omega) only [↓pre, sp, sp2, wp_some, Int.cast_ofNat_Int, Nat.reduceAdd, Nat.reduceMul, Nat.reduceSub, Nat.reduceLeDiff, Nat.reduceEqDiff, Nat.reducePow, Int.reduceToNat, Int.reducePow, Int.reduceAdd, Int.reduceSub, Int.reduceMul, Int.reduceLT, Int.reduceLE, Int.reduceEq, Int.reduceNeg])
            refine wp_kT (.bool (a && decide (K0 = 0))) (fun j hj => ?_) ?_
            · cases a
              · (try simp -dsimp (disch := omega) only [↓pre, sp, sp2, wp_some, Int.cast_ofNat_Int, Nat.reduceAdd, Nat.reduceMul, Nat.reduceSub, Nat.reduceLeDiff, Nat.reduceEqDiff, Nat.reducePow, Int.reduceToNat, Int.reducePow, Int.reduceAdd, Int.reduceSub, Int.reduceMul, Int.reduceLT, Int.reduceLE, Int.reduceEq, Int.reduceNeg, sp5]); exact hj
              · (try simp -dsimp (disch := omega) only [↓pre, sp, sp2, wp_some, Int.cast_ofNat_Int, Nat.reduceAdd, Nat.reduceMul, Nat.reduceSub, Nat.reduceLeDiff, Nat.reduceEqDiff, Nat.reducePow, Int.reduceToNat, Int.reducePow, Int.reduceAdd, Int.reduceSub, Int.reduceMul, Int.reduceLT, Int.reduceLE, Int.reduceEq, Int.reduceNeg, sp5, s7.ld]); exact hj
            (try simp -dsimp (disch := omega) only [↓pre, sp, sp2, wp_some, Int.cast_ofNat_Int, Nat.reduceAdd, Nat.reduceMul, Nat.reduceSub, Nat.reduceLeDiff, Nat.reduceEqDiff, Nat.reducePow, Int.reduceToNat, Int.reducePow, Int.reduceAdd, Int.reduceSub, Int.reduceMul, Int.reduceLT, Int.reduceLE, Int.reduceEq, Int.reduceNeg, et1, qo7.at])
            refine wp_ro s7' _ fun h9 s9 => ?_
            (try simp -dsimp (disch := omega) only [↓pre, sp, sp2, wp_some, Int.cast_ofNat_Int, Nat.reduceAdd, Nat.reduceMul, Nat.reduceSub, Nat.reduceLeDiff, Nat.reduceEqDiff, Nat.reducePow, Int.reduceToNat, Int.reducePow, Int.reduceAdd, Int.reduceSub, Int.reduceMul, Int.reduceLT, Int.reduceLE, Int.reduceEq, Int.reduceNeg, et1, ea0])
            refine wp_r0 s9 (tr a) fun h10 s10 => ?_
            (try simp -dsimp (disch := omega) only [↓pre, sp, sp2, wp_some, Int.cast_ofNat_Int, Nat.reduceAdd, Nat.reduceMul, Nat.reduceSub, Nat.reduceLeDiff, Nat.reduceEqDiff, Nat.reducePow, Int.reduceToNat, Int.reducePow, Int.reduceAdd, Int.reduceSub, Int.reduceMul, Int.reduceLT, Int.reduceLE, Int.reduceEq, Int.reduceNeg])
            exact hj60 _ _ (s10.done ht)
          (try simp -dsimp (disch := omega) only [↓pre, sp, sp2, wp_some, Int.cast_ofNat_Int, Nat.reduceAdd, Nat.reduceMul, Nat.reduceSub, Nat.reduceLeDiff, Nat.reduceEqDiff, Nat.reducePow, Int.reduceToNat, Int.reducePow, Int.reduceAdd, Int.reduceSub, Int.reduceMul, Int.reduceLT, Int.reduceLE, Int.reduceEq, Int.reduceNeg, ↓eqT nm true, eb, Option.some.injEq])
          refine wp_kJ (RE h q0 q2 t) (fun j85 hj85 => ?_) ?_
          · (try simp -dsimp (disch := omega) only [↓pre, sp, sp2, wp_some, Int.cast_ofNat_Int, Nat.reduceAdd, Nat.reduceMul, Nat.reduceSub, Nat.reduceLeDiff, Nat.reduceEqDiff, Nat.reducePow, Int.reduceToNat, Int.reducePow, Int.reduceAdd, Int.reduceSub, Int.reduceMul, Int.reduceLT, Int.reduceLE, Int.reduceEq, Int.reduceNeg, ↓eqT nm true, eb, Option.some.injEq])
            refine wp_ite (fun c => ?_) (fun c => ?_)
            · subst c
              simp only [refM, ha] at ht
              have s7' : RSt h h8 q0 q2 pin po (padL li Bl.ft.ins.length) [gi lo 0] (wrapM 4 k0) (wrapM 4 k1) (wrapM 4 k2) := s7
              generalize wrapM 4 k0 = K0 at *
              generalize wrapM 4 k1 = K1 at *
              generalize wrapM 4 k2 = K2 at *
              (try simp -dsimp (disch := omega) only [↓pre, sp, sp2, wp_some, Int.cast_ofNat_Int, Nat.reduceAdd, Nat.reduceMul, Nat.reduceSub, Nat.reduceLeDiff, Nat.reduceEqDiff, Nat.reducePow, Int.reduceToNat, Int.reducePow, Int.reduceAdd, Int.reduceSub, Int.reduceMul, Int.reduceLT, Int.reduceLE, Int.reduceEq, Int.reduceNeg])
              refine wp_kT (.bool (!a && decide (K0 ≠ 0))) (fun j hj => ?_) ?_
              · cases a
                · (try simp -dsimp (disch := omega) only [↓pre, sp, sp2, wp_some, Int.cast_ofNat_Int, Nat.reduceAdd, Nat.reduceMul, Nat.reduceSub, Nat.reduceLeDiff, Nat.reduceEqDiff, Nat.reducePow, Int.reduceToNat, Int.reducePow, Int.reduceAdd, Int.reduceSub, Int.reduceMul, Int.reduceLT, Int.reduceLE, Int.reduceEq, Int.reduceNeg, sp5, s7.ld]); exact hj
                · (try simp -dsimp (disch := omega) only [↓pre, sp, sp2, wp_some, Int.cast_ofNat_Int, Nat.reduceAdd, Nat.reduceMul, Nat.reduceSub, Nat.reduceLeDiff, Nat.reduceEqDiff, Nat.reducePow, Int.reduceToNat, Int.reducePow, Int.reduceAdd, Int.reduceSub, Int.reduceMul, Int.reduceLT, Int.reduceLE, Int.reduceEq, Int.reduceNeg, sp5]); exact hj
              (try simp -dsimp (disch := omega) only [↓pre, sp, sp2, wp_some, Int.cast_ofNat_Int, Nat.reduceAdd, Nat.reduceMul, Nat.reduceSub, Nat.reduceLeDiff, Nat.reduceEqDiff, Nat.reducePow, Int.reduceToNat, Int.reducePow, Int.reduceAdd, Int.reduceSub, Int.reduceMul, Int.reduceLT, Int.reduceLE, Int.reduceEq, Int.reduceNeg, et1, qo7.at])
              refine wp_ro s7' _ fun h9 s9 => ?_
              (try simp -dsimp (disch := omega) only [↓pre, sp, sp2, wp_some, Int.cast_ofNat_Int, Nat.reduceAdd, Nat.reduceMul, Nat.reduceSub, Nat.reduceLeDiff, Nat.reduceEqDiff, Nat.reducePow, Int.reduceToNat, Int.reducePow, Int.reduceAdd, Int.reduceSub, Int.reduceMul, Int.reduceLT, Int.reduceLE, Int.reduceEq, Int.reduceNeg, et1, ea0])
              refine wp_r0 s9 (tr a) fun h10 s10 => ?_
              (try simp -dsimp (disch := omega) only [↓pre, sp, sp2, wp_some, Int.cast_ofNat_Int, Nat.reduceAdd, Nat.reduceMul, Nat.reduceSub, Nat.reduceLeDiff, Nat.reduceEqDiff, Nat.reducePow, Int.reduceToNat, Int.reducePow, Int.reduceAdd, Int.reduceSub, Int.reduceMul, Int.reduceLT, Int.reduceLE, Int.reduceEq, Int.reduceNeg])
              exact hj85 _ _ (s10.done ht)
            (try simp -dsimp (disch := omega) only [↓pre, sp, sp2, wp_some, Int.cast_ofNat_Int, Nat.reduceAdd, Nat.reduceMul, Nat.reduceSub, Nat.reduceLeDiff, Nat.reduceEqDiff, Nat.reducePow, Int.reduceToNat, Int.reducePow, Int.reduceAdd, Int.reduceSub, Int.reduceMul, Int.reduceLT, Int.reduceLE, Int.reduceEq, Int.reduceNeg, ↓eqT nm true, eb, Option.some.injEq])
            refine wp_kJ (RE h q0 q2 t) (fun j106 hj106 => ?_) ?_
            · (try simp -dsimp (disch := omega) only [↓pre, sp, sp2, wp_some, Int.cast_ofNat_Int, Nat.reduceAdd, Nat.reduceMul, Nat.reduceSub, Nat.reduceLeDiff, Nat.reduceEqDiff, Nat.reducePow, Int.reduceToNat, Int.reducePow, Int.reduceAdd, Int.reduceSub, Int.reduceMul, Int.reduceLT, Int.reduceLE, Int.reduceEq, Int.reduceNeg, ↓eqT nm true, eb, Option.some.injEq])
              refine wp_ite (fun c => ?_) (fun c => ?_)
              · subst c
                have hb1 : decide (gi li 1 ≠ 0) = bv := by rw [hbv, show decide (1 < Bl.sr.ins.length) = true from rfl, Bool.true_and]
                simp only [refM, ha, hb1] at ht
                have s7' : RSt h h8 q0 q2 pin po (padL li Bl.sr.ins.length) [gi lo 0] (wrapM 4 k0) (wrapM 4 k1) (wrapM 4 k2) := s7
                have lo0 := hO s7 p0'
                (try simp -dsimp (disch := omega) only [↓pre, sp, sp2, wp_some, Int.cast_ofNat_Int, Nat.reduceAdd, Nat.reduceMul, Nat.reduceSub, Nat.reduceLeDiff, Nat.reduceEqDiff, Nat.reducePow, Int.reduceToNat, Int.reducePow, Int.reduceAdd, Int.reduceSub, Int.reduceMul, Int.reduceLT, Int.reduceLE, Int.reduceEq, Int.reduceNeg])
                refine wp_kT (.bool (a || decide (gi lo 0 ≠ 0) && !bv)) (fun j hj => ?_) ?_
                · clear hbv hb1 ht ha
                  cases a
                  · (try simp -dsimp (disch := omega) only [↓pre, sp, sp2, wp_some, Int.cast_ofNat_Int, Nat.reduceAdd, Nat.reduceMul, Nat.reduceSub, Nat.reduceLeDiff, Nat.reduceEqDiff, Nat.reducePow, Int.reduceToNat, Int.reducePow, Int.reduceAdd, Int.reduceSub, Int.reduceMul, Int.reduceLT, Int.reduceLE, Int.reduceEq, Int.reduceNeg, sp5, qo7.at, lo0])
                    generalize decide (gi lo 0 ≠ 0) = z at hj ⊢
                    cases z
                    · (try simp -dsimp (disch := omega) only [↓pre, sp, sp2, wp_some, Int.cast_ofNat_Int, Nat.reduceAdd, Nat.reduceMul, Nat.reduceSub, Nat.reduceLeDiff, Nat.reduceEqDiff, Nat.reducePow, Int.reduceToNat, Int.reducePow, Int.reduceAdd, Int.reduceSub, Int.reduceMul, Int.reduceLT, Int.reduceLE, Int.reduceEq, Int.reduceNeg]); exact hj
                    · (try simp -dsimp (disch := omega) only [↓pre, sp, sp2, wp_some, Int.cast_ofNat_Int, Nat.reduceAdd, Nat.reduceMul, Nat.reduceSub, Nat.reduceLeDiff, Nat.reduceEqDiff, Nat.reducePow, Int.reduceToNat, Int.reducePow, Int.reduceAdd, Int.reduceSub, Int.reduceMul, Int.reduceLT, Int.reduceLE, Int.reduceEq, Int.reduceNeg]); exact hj
                  · (try simp -dsimp (disch := omega) only [↓pre, sp, sp2, wp_some, Int.cast_ofNat_Int, Nat.reduceAdd, Nat.reduceMul, Nat.reduceSub, Nat.reduceLeDiff, Nat.reduceEqDiff, Nat.reducePow, Int.reduceToNat, Int.reducePow, Int.reduceAdd, Int.reduceSub, Int.reduceMul, Int.reduceLT, Int.reduceLE, Int.reduceEq, Int.reduceNeg]); exact hj
                (try simp -dsimp (disch := omega) only [↓pre, sp, sp2, wp_some, Int.cast_ofNat_Int, Nat.reduceAdd, Nat.reduceMul, Nat.reduceSub, Nat.reduceLeDiff, Nat.reduceEqDiff, Nat.reducePow, Int.reduceToNat, Int.reducePow, Int.reduceAdd, Int.reduceSub, Int.reduceMul, Int.reduceLT, Int.reduceLE, Int.reduceEq, Int.reduceNeg, et1, qo7.at])
                refine wp_ro s7' _ fun h9 s9 => ?_
                (try simp -dsimp (disch := omega) only [↓pre, sp, sp2, wp_some, Int.cast_ofNat_Int, Nat.reduceAdd, Nat.reduceMul, Nat.reduceSub, Nat.reduceLeDiff, Nat.reduceEqDiff, Nat.reducePow, Int.reduceToNat, Int.reducePow, Int.reduceAdd, Int.reduceSub, Int.reduceMul, Int.reduceLT, Int.reduceLE, Int.reduceEq, Int.reduceNeg])
                exact hj106 _ _ (s9.done ht)
              (try simp -dsimp (disch := omega) only [↓pre, sp, sp2, wp_some, Int.cast_ofNat_Int, Nat.reduceAdd, Nat.reduceMul, Nat.reduceSub, Nat.reduceLeDiff, Nat.reduceEqDiff, Nat.reducePow, Int.reduceToNat, Int.reducePow, Int.reduceAdd, Int.reduceSub, Int.reduceMul, Int.reduceLT, Int.reduceLE, Int.reduceEq, Int.reduceNeg, ↓eqT nm true, eb, Option.some.injEq])
              refine wp_kJ (RE h q0 q2 t) (fun j127 hj127 => ?_) ?_
              · (try simp -dsimp (disch := omega) only [↓pre, sp, sp2, wp_some, Int.cast_ofNat_Int, Nat.reduceAdd, Nat.reduceMul, Nat.reduceSub, Nat.reduceLeDiff, Nat.reduceEqDiff, Nat.reducePow, Int.reduceToNat, Int.reducePow, Int.reduceAdd, Int.reduceSub, Int.reduceMul, Int.reduceLT, Int.reduceLE, Int.reduceEq, Int.reduceNeg, ↓eqT nm true, eb, Option.some.injEq])
                refine wp_ite (fun c => ?_) (fun c => ?_)
                · subst c
                  have hb1 : decide (gi li 1 ≠ 0) = bv := by rw [hbv, show decide (1 < Bl.rs.ins.length) = true from rfl, Bool.true_and]
                  simp only [refM, ha, hb1] at ht
                  have s7' : RSt h h8 q0 q2 pin po (padL li Bl.rs.ins.length) [gi lo 0] (wrapM 4 k0) (wrapM 4 k1) (wrapM 4 k2) := s7
                  have lo0 := hO s7 p0'
                  (try simp -dsimp (disch := omega) only [↓pre, sp, sp2, wp_some, Int.cast_ofNat_Int, Nat.reduceAdd, Nat.reduceMul, Nat.reduceSub, Nat.reduceLeDiff, Nat.reduceEqDiff, Nat.reducePow, Int.reduceToNat, Int.reducePow, Int.reduceAdd, Int.reduceSub, Int.reduceMul, Int.reduceLT, Int.reduceLE, Int.reduceEq, Int.reduceNeg])
                  refine wp_kT (.bool (!bv && (a || decide (gi lo 0 ≠ 0)))) (fun j hj => ?_) ?_
                  · clear hbv hb1 ht ha
                    cases bv
                    · cases a
                      · (try simp -dsimp (disch := omega) only [↓pre, sp, sp2, wp_some, Int.cast_ofNat_Int, Nat.reduceAdd, Nat.reduceMul, Nat.reduceSub, Nat.reduceLeDiff, Nat.reduceEqDiff, Nat.reducePow, Int.reduceToNat, Int.reducePow, Int.reduceAdd, Int.reduceSub, Int.reduceMul, Int.reduceLT, Int.reduceLE, Int.reduceEq, Int.reduceNeg, sp5, qo7.at, lo0]); exact hj
                      · (try simp -dsimp (disch := omega) only [↓pre, sp, sp2, wp_some, Int.cast_ofNat_Int, Nat.reduceAdd, Nat.reduceMul, Nat.reduceSub, Nat.reduceLeDiff, Nat.reduceEqDiff, Nat.reducePow, Int.reduceToNat, Int.reducePow, Int.reduceAdd, Int.reduceSub, Int.reduceMul, Int.reduceLT, Int.reduceLE, Int.reduceEq, Int.reduceNeg]); exact hj
                    · (try simp -dsimp (disch := omega) only [↓pre, sp, sp2, wp_some, Int.cast_ofNat_Int, Nat.reduceAdd, Nat.reduceMul, Nat.reduceSub, Nat.reduceLeDiff, Nat.reduceEqDiff, Nat.reducePow, Int.reduceToNat, Int.reducePow, Int.reduceAdd, Int.reduceSub, Int.reduceMul, Int.reduceLT, Int.reduceLE, Int.reduceEq, Int.reduceNeg]); exact hj
                  (try simp -dsimp (disch := omega) only [↓pre, sp, sp2, wp_some, Int.cast_ofNat_Int, Nat.reduceAdd, Nat.reduceMul, Nat.reduceSub, Nat.reduceLeDiff, Nat.reduceEqDiff, Nat.reducePow, Int.reduceToNat, Int.reducePow, Int.reduceAdd, Int.reduceSub, Int.reduceMul, Int.reduceLT, Int.reduceLE, Int.reduceEq, Int.reduceNeg, et1, qo7.at])
                  refine wp_ro s7' _ fun h9 s9 => ?_
                  (try simp -dsimp (disch := omega) only [↓pre, sp, sp2, wp_some, Int.cast_ofNat_Int, Nat.reduceAdd, Nat.reduceMul, Nat.reduceSub, Nat.reduceLeDiff, Nat.reduceEqDiff, Nat.reducePow, Int.reduceToNat, Int.reducePow, Int.reduceAdd, Int.reduceSub, Int.reduceMul, Int.reduceLT, Int.reduceLE, Int.reduceEq, Int.reduceNeg])
                  exact hj127 _ _ (s9.done ht)
                (try simp -dsimp (disch := omega) only [↓pre, sp, sp2, wp_some, Int.cast_ofNat_Int, Nat.reduceAdd, Nat.reduceMul, Nat.reduceSub, Nat.reduceLeDiff, Nat.reduceEqDiff, Nat.reducePow, Int.reduceToNat, Int.reducePow, Int.reduceAdd, Int.reduceSub, Int.reduceMul, Int.reduceLT, Int.reduceLE, Int.reduceEq, Int.reduceNeg, ↓eqT nm true, eb, Option.some.injEq])
                refine wp_kJ (RE h q0 q2 t) (fun j148 hj148 => ?_) ?_
                · (try simp -dsimp (disch := omega) only [↓pre, sp, sp2, wp_some, Int.cast_ofNat_Int, Nat.reduceAdd, Nat.reduceMul, Nat.reduceSub, Nat.reduceLeDiff, Nat.reduceEqDiff, Nat.reducePow, Int.reduceToNat, Int.reducePow, Int.reduceAdd, Int.reduceSub, Int.reduceMul, Int.reduceLT, Int.reduceLE, Int.reduceEq, Int.reduceNeg, ↓eqT nm true, eb, Option.some.injEq])
                  refine wp_ite (fun c => ?_) (fun c => ?_)
                  · subst c
                    have hb1 : decide (gi li 1 ≠ 0) = bv := by rw [hbv, show decide (1 < Bl.ctu.ins.length) = true from rfl, Bool.true_and]
                    simp only [refM, ha, hb1] at ht
                    have p2 : 2 < Bl.ctu.ins.length := by decide
                    have p1' : 1 < Bl.ctu.outs.length := by decide
                    have li2 := fun h' (s : RSt h h' q0 q2 pin po (padL li Bl.ctu.ins.length) (padL lo Bl.ctu.outs.length) (wrapM 4 k0) (wrapM 4 k1) (wrapM 4 k2)) => hL s p2
                    have lo1 := fun h' (s : RSt h h' q0 q2 pin po (padL li Bl.ctu.ins.length) (padL lo Bl.ctu.outs.length) (wrapM 4 k0) (wrapM 4 k1) (wrapM 4 k2)) => hO s p1'
                    have iI : I64 (gi li 2) := hi.at 2
                    have iO : I64 (gi lo 1) := ho.at 1
                    clear hL hO
                    generalize wrapM 4 k0 = K0 at *
                    generalize wrapM 4 k1 = K1 at *
                    generalize wrapM 4 k2 = K2 at *
                    (try simp -dsimp (disch := omega) only [↓pre, sp, sp2, wp_some, Int.cast_ofNat_Int, Nat.reduceAdd, Nat.reduceMul, Nat.reduceSub, Nat.reduceLeDiff, Nat.reduceEqDiff, Nat.reducePow, Int.reduceToNat, Int.reducePow, Int.reduceAdd, Int.reduceSub, Int.reduceMul, Int.reduceLT, Int.reduceLE, Int.reduceEq, Int.reduceNeg, pi7.at, li2 h8 s7, qo7.at, lo1 h8 s7])
                    refine Wp.bind (rwrap_spec H (n + 2) s7.w 3 _ iI) fun v h9 ⟨K9, ev⟩ => ?_
                    subst ev
                    have s9 := s7.to' K9
                    (try simp -dsimp (disch := omega) only [↓pre, sp, sp2, wp_some, Int.cast_ofNat_Int, Nat.reduceAdd, Nat.reduceMul, Nat.reduceSub, Nat.reduceLeDiff, Nat.reduceEqDiff, Nat.reducePow, Int.reduceToNat, Int.reducePow, Int.reduceAdd, Int.reduceSub, Int.reduceMul, Int.reduceLT, Int.reduceLE, Int.reduceEq, Int.reduceNeg, lo1 h9 s9])
                    refine Wp.bind (rwrap_spec H (n + 2) s9.w 3 _ iO) fun v h10 ⟨K10, ev⟩ => ?_
                    subst ev
                    have s10 := s9.to' K10
                    clear li2 lo1
                    generalize wrapM 3 (gi li 2) = pv at *
                    generalize wrapM 3 (gi lo 1) = cv at *
                    (try simp -dsimp (disch := omega) only [↓pre, sp, sp2, wp_some, Int.cast_ofNat_Int, Nat.reduceAdd, Nat.reduceMul, Nat.reduceSub, Nat.reduceLeDiff, Nat.reduceEqDiff, Nat.reducePow, Int.reduceToNat, Int.reducePow, Int.reduceAdd, Int.reduceSub, Int.reduceMul, Int.reduceLT, Int.reduceLE, Int.reduceEq, Int.reduceNeg])
                    obtain ⟨c, hc⟩ : ∃ c, c = (if bv = true then 0 else if (a && decide (K0 = 0) && decide (cv < 32767)) = true then IntKind.wrap .i64 (cv + 1) else cv) := ⟨_, rfl⟩
                    rw [← hc] at ht
                    refine wp_kJ (fun l h11 => l = [.int .i64 c] ∧ h11 = h10) (fun j161 hj161 => ?_) ?_
                    · refine wp_kIf (fun cb => ?_) (fun cb => ?_)
                      · rw [if_pos cb] at hc
                        (try simp -dsimp (disch := omega) only [↓pre, sp, sp2, wp_some, Int.cast_ofNat_Int, Nat.reduceAdd, Nat.reduceMul, Nat.reduceSub, Nat.reduceLeDiff, Nat.reduceEqDiff, Nat.reducePow, Int.reduceToNat, Int.reducePow, Int.reduceAdd, Int.reduceSub, Int.reduceMul, Int.reduceLT, Int.reduceLE, Int.reduceEq, Int.reduceNeg])
                        exact hj161 _ _ ⟨by rw [hc], rfl⟩
                      · rw [if_neg (by rw [cb]; decide)] at hc
                        (try simp -dsimp (disch := omega) only [↓pre, sp, sp2, wp_some, Int.cast_ofNat_Int, Nat.reduceAdd, Nat.reduceMul, Nat.reduceSub, Nat.reduceLeDiff, Nat.reduceEqDiff, Nat.reducePow, Int.reduceToNat, Int.reducePow, Int.reduceAdd, Int.reduceSub, Int.reduceMul, Int.reduceLT, Int.reduceLE, Int.reduceEq, Int.reduceNeg])
                        refine wp_kT (.bool (a && decide (K0 = 0) && decide (cv < 32767))) (fun j hj => ?_) ?_
                        · clear hc ht ha hb1 hbv
                          cases a
                          · (try simp -dsimp (disch := omega) only [↓pre, sp, sp2, wp_some, Int.cast_ofNat_Int, Nat.reduceAdd, Nat.reduceMul, Nat.reduceSub, Nat.reduceLeDiff, Nat.reduceEqDiff, Nat.reducePow, Int.reduceToNat, Int.reducePow, Int.reduceAdd, Int.reduceSub, Int.reduceMul, Int.reduceLT, Int.reduceLE, Int.reduceEq, Int.reduceNeg, sp5]); exact hj
                          · (try simp -dsimp (disch := omega) only [↓pre, sp, sp2, wp_some, Int.cast_ofNat_Int, Nat.reduceAdd, Nat.reduceMul, Nat.reduceSub, Nat.reduceLeDiff, Nat.reduceEqDiff, Nat.reducePow, Int.reduceToNat, Int.reducePow, Int.reduceAdd, Int.reduceSub, Int.reduceMul, Int.reduceLT, Int.reduceLE, Int.reduceEq, Int.reduceNeg, sp5, s10.ld])
                            generalize decide (K0 = 0) = z at hj ⊢
                            cases z
                            · (try simp -dsimp (disch := omega) only [↓pre, sp, sp2, wp_some, Int.cast_ofNat_Int, Nat.reduceAdd, Nat.reduceMul, Nat.reduceSub, Nat.reduceLeDiff, Nat.reduceEqDiff, Nat.reducePow, Int.reduceToNat, Int.reducePow, Int.reduceAdd, Int.reduceSub, Int.reduceMul, Int.reduceLT, Int.reduceLE, Int.reduceEq, Int.reduceNeg]); exact hj
                            · (try simp -dsimp (disch := omega) only [↓pre, sp, sp2, wp_some, Int.cast_ofNat_Int, Nat.reduceAdd, Nat.reduceMul, Nat.reduceSub, Nat.reduceLeDiff, Nat.reduceEqDiff, Nat.reducePow, Int.reduceToNat, Int.reducePow, Int.reduceAdd, Int.reduceSub, Int.reduceMul, Int.reduceLT, Int.reduceLE, Int.reduceEq, Int.reduceNeg]); exact hj
                        (try simp -dsimp (disch := omega) only [↓pre, sp, sp2, wp_some, Int.cast_ofNat_Int, Nat.reduceAdd, Nat.reduceMul, Nat.reduceSub, Nat.reduceLeDiff, Nat.reduceEqDiff, Nat.reducePow, Int.reduceToNat, Int.reducePow, Int.reduceAdd, Int.reduceSub, Int.reduceMul, Int.reduceLT, Int.reduceLE, Int.reduceEq, Int.reduceNeg])
                        refine wp_kJ (fun l h11 => l = [.int .i64 c] ∧ h11 = h10) (fun j187 hj187 => ?_) ?_
                        · refine wp_kIf (fun g => ?_) (fun g => ?_)
                          · rw [if_pos g] at hc
                            (try simp -dsimp (disch := omega) only [↓pre, sp, sp2, wp_some, Int.cast_ofNat_Int, Nat.reduceAdd, Nat.reduceMul, Nat.reduceSub, Nat.reduceLeDiff, Nat.reduceEqDiff, Nat.reducePow, Int.reduceToNat, Int.reducePow, Int.reduceAdd, Int.reduceSub, Int.reduceMul, Int.reduceLT, Int.reduceLE, Int.reduceEq, Int.reduceNeg])
                            exact hj187 _ _ ⟨by rw [hc], rfl⟩
                          · rw [if_neg (by rw [g]; decide)] at hc
                            (try simp -dsimp (disch := omega) only [↓pre, sp, sp2, wp_some, Int.cast_ofNat_Int, Nat.reduceAdd, Nat.reduceMul, Nat.reduceSub, Nat.reduceLeDiff, Nat.reduceEqDiff, Nat.reducePow, Int.reduceToNat, Int.reducePow, Int.reduceAdd, Int.reduceSub, Int.reduceMul, Int.reduceLT, Int.reduceLE, Int.reduceEq, Int.reduceNeg])
                            exact hj187 _ _ ⟨by rw [hc], rfl⟩
                        · rintro _ h11 ⟨rfl, e⟩
                          (try simp -dsimp (disch := omega) only [↓pre, sp, sp2, wp_some, Int.cast_ofNat_Int, Nat.reduceAdd, Nat.reduceMul, Nat.reduceSub, Nat.reduceLeDiff, Nat.reduceEqDiff, Nat.reducePow, Int.reduceToNat, Int.reducePow, Int.reduceAdd, Int.reduceSub, Int.reduceMul, Int.reduceLT, Int.reduceLE, Int.reduceEq, Int.reduceNeg])
                          exact hj161 _ _ ⟨rfl, e⟩
                    · rintro _ h11 ⟨rfl, e⟩
                      subst e
                      clear hc
                      (try simp -dsimp (disch := omega) only [↓pre, sp, sp2, wp_some, Int.cast_ofNat_Int, Nat.reduceAdd, Nat.reduceMul, Nat.reduceSub, Nat.reduceLeDiff, Nat.reduceEqDiff, Nat.reducePow, Int.reduceToNat, Int.reducePow, Int.reduceAdd, Int.reduceSub, Int.reduceMul, Int.reduceLT, Int.reduceLE, Int.reduceEq, Int.reduceNeg, et1, ea0])
                      refine wp_r0 s10 (tr a) fun h12 s12 => ?_
                      (try simp -dsimp (disch := omega) only [↓pre, sp, sp2, wp_some, Int.cast_ofNat_Int, Nat.reduceAdd, Nat.reduceMul, Nat.reduceSub, Nat.reduceLeDiff, Nat.reduceEqDiff, Nat.reducePow, Int.reduceToNat, Int.reducePow, Int.reduceAdd, Int.reduceSub, Int.reduceMul, Int.reduceLT, Int.reduceLE, Int.reduceEq, Int.reduceNeg, et1])
                      refine wp_buildSl s12.w (by simp) rfl rfl fun q4 h13 hq4 k13 n13 g13 => ?_
                      (try simp -dsimp (disch := omega) only [↓pre, sp, sp2, wp_some, Int.cast_ofNat_Int, Nat.reduceAdd, Nat.reduceMul, Nat.reduceSub, Nat.reduceLeDiff, Nat.reduceEqDiff, Nat.reducePow, Int.reduceToNat, Int.reducePow, Int.reduceAdd, Int.reduceSub, Int.reduceMul, Int.reduceLT, Int.reduceLE, Int.reduceEq, Int.reduceNeg])
                      exact hj148 _ _ (RE.new (LO := [tr (decide (c ≥ pv)), c]) s12.toKSt hq4 k13 g13 rfl ht)
                  (try simp -dsimp (disch := omega) only [↓pre, sp, sp2, wp_some, Int.cast_ofNat_Int, Nat.reduceAdd, Nat.reduceMul, Nat.reduceSub, Nat.reduceLeDiff, Nat.reduceEqDiff, Nat.reducePow, Int.reduceToNat, Int.reducePow, Int.reduceAdd, Int.reduceSub, Int.reduceMul, Int.reduceLT, Int.reduceLE, Int.reduceEq, Int.reduceNeg, ↓eqT nm true, eb, Option.some.injEq])
                  refine wp_kJ (RE h q0 q2 t) (fun j194 hj194 => ?_) ?_
                  · (try simp -dsimp (disch := omega) only [↓pre, sp, sp2, wp_some, Int.cast_ofNat_Int, Nat.reduceAdd, Nat.reduceMul, Nat.reduceSub, Nat.reduceLeDiff, Nat.reduceEqDiff, Nat.reducePow, Int.reduceToNat, Int.reducePow, Int.reduceAdd, Int.reduceSub, Int.reduceMul, Int.reduceLT, Int.reduceLE, Int.reduceEq, Int.reduceNeg, ↓eqT nm true, eb, Option.some.injEq])
                    refine wp_ite (fun c => ?_) (fun c => ?_)
                    · subst c
                      have hb1 : decide (gi li 1 ≠ 0) = bv := by rw [hbv, show decide (1 < Bl.ctd.ins.length) = true from rfl, Bool.true_and]
                      simp only [refM, ha, hb1] at ht
                      have p2 : 2 < Bl.ctd.ins.length := by decide
                      have p1' : 1 < Bl.ctd.outs.length := by decide
                      have li2 := fun h' (s : RSt h h' q0 q2 pin po (padL li Bl.ctd.ins.length) (padL lo Bl.ctd.outs.length) (wrapM 4 k0) (wrapM 4 k1) (wrapM 4 k2)) => hL s p2
                      have lo1 := fun h' (s : RSt h h' q0 q2 pin po (padL li Bl.ctd.ins.length) (padL lo Bl.ctd.outs.length) (wrapM 4 k0) (wrapM 4 k1) (wrapM 4 k2)) => hO s p1'
                      have iI : I64 (gi li 2) := hi.at 2
                      have iO : I64 (gi lo 1) := ho.at 1
                      clear hL hO
                      generalize wrapM 4 k0 = K0 at *
                      generalize wrapM 4 k1 = K1 at *
                      generalize wrapM 4 k2 = K2 at *
                      (try simp -dsimp (disch := omega) only [↓pre, sp, sp2, wp_some, Int.cast_ofNat_Int, Nat.reduceAdd, Nat.reduceMul, Nat.reduceSub, Nat.reduceLeDiff, Nat.reduceEqDiff, Nat.reducePow, Int.reduceToNat, Int.reducePow, Int.reduceAdd, Int.reduceSub, Int.reduceMul, Int.reduceLT, Int.reduceLE, Int.reduceEq, Int.reduceNeg, pi7.at, li2 h8 s7, qo7.at, lo1 h8 s7])
                      refine Wp.bind (rwrap_spec H (n + 2) s7.w 3 _ iI) fun v h9 ⟨K9, ev⟩ => ?_
                      subst ev
                      have s9 := s7.to' K9
                      (try simp -dsimp (disch := omega) only [↓pre, sp, sp2, wp_some, Int.cast_ofNat_Int, Nat.reduceAdd, Nat.reduceMul, Nat.reduceSub, Nat.reduceLeDiff, Nat.reduceEqDiff, Nat.reducePow, Int.reduceToNat, Int.reducePow, Int.reduceAdd, Int.reduceSub, Int.reduceMul, Int.reduceLT, Int.reduceLE, Int.reduceEq, Int.reduceNeg, lo1 h9 s9])
                      refine Wp.bind (rwrap_spec H (n + 2) s9.w 3 _ iO) fun v h10 ⟨K10, ev⟩ => ?_
                      subst ev
                      have s10 := s9.to' K10
                      clear li2 lo1
                      generalize wrapM 3 (gi li 2) = pv at *
                      generalize wrapM 3 (gi lo 1) = cv at *
                      (try simp -dsimp (disch := omega) only [↓pre, sp, sp2, wp_some, Int.cast_ofNat_Int, Nat.reduceAdd, Nat.reduceMul, Nat.reduceSub, Nat.reduceLeDiff, Nat.reduceEqDiff, Nat.reducePow, Int.reduceToNat, Int.reducePow, Int.reduceAdd, Int.reduceSub, Int.reduceMul, Int.reduceLT, Int.reduceLE, Int.reduceEq, Int.reduceNeg])
                      obtain ⟨c, hc⟩ : ∃ c, c = (if bv = true then pv else if (a && decide (K0 = 0) && decide (cv > -32768)) = true then IntKind.wrap .i64 (cv - 1) else cv) := ⟨_, rfl⟩
                      rw [← hc] at ht
                      refine wp_kJ (fun l h11 => l = [.int .i64 c] ∧ h11 = h10) (fun j161 hj161 => ?_) ?_
                      · refine wp_kIf (fun cb => ?_) (fun cb => ?_)
                        · rw [if_pos cb] at hc
                          (try simp -dsimp (disch := omega) only [↓pre, sp, sp2, wp_some, Int.cast_ofNat_Int, Nat.reduceAdd, Nat.reduceMul, Nat.reduceSub, Nat.reduceLeDiff, Nat.reduceEqDiff, Nat.reducePow, Int.reduceToNat, Int.reducePow, Int.reduceAdd, Int.reduceSub, Int.reduceMul, Int.reduceLT, Int.reduceLE, Int.reduceEq, Int.reduceNeg])
                          exact hj161 _ _ ⟨by rw [hc], rfl⟩
                        · rw [if_neg (by rw [cb]; decide)] at hc
                          (try simp -dsimp (disch := omega) only [↓pre, sp, sp2, wp_some, Int.cast_ofNat_Int, Nat.reduceAdd, Nat.reduceMul, Nat.reduceSub, Nat.reduceLeDiff, Nat.reduceEqDiff, Nat.reducePow, Int.reduceToNat, Int.reducePow, Int.reduceAdd, Int.reduceSub, Int.reduceMul, Int.reduceLT, Int.reduceLE, Int.reduceEq, Int.reduceNeg])
                          refine wp_kT (.bool (a && decide (K0 = 0) && decide (cv > -32768))) (fun j hj => ?_) ?_
                          · clear hc ht ha hb1 hbv
                            cases a
                            · (try simp -dsimp (disch := omega) only [↓pre, sp, sp2, wp_some, Int.cast_ofNat_Int, Nat.reduceAdd, Nat.reduceMul, Nat.reduceSub, Nat.reduceLeDiff, Nat.reduceEqDiff, Nat.reducePow, Int.reduceToNat, Int.reducePow, Int.reduceAdd, Int.reduceSub, Int.reduceMul, Int.reduceLT, Int.reduceLE, Int.reduceEq, Int.reduceNeg, sp5]); exact hj
                            · (try simp -dsimp (disch := omega) only [↓pre, sp, sp2, wp_some, Int.cast_ofNat_Int, Nat.reduceAdd, Nat.reduceMul, Nat.reduceSub, Nat.reduceLeDiff, Nat.reduceEqDiff, Nat.reducePow, Int.reduceToNat, Int.reducePow, Int.reduceAdd, Int.reduceSub, Int.reduceMul, Int.reduceLT, Int.reduceLE, Int.reduceEq, Int.reduceNeg, sp5, s10.ld])
                              generalize decide (K0 = 0) = z at hj ⊢
                              cases z
                              · (try simp -dsimp (disch := omega) only [↓pre, sp, sp2, wp_some, Int.cast_ofNat_Int, Nat.reduceAdd, Nat.reduceMul, Nat.reduceSub, Nat.reduceLeDiff, Nat.reduceEqDiff, Nat.reducePow, Int.reduceToNat, Int.reducePow, Int.reduceAdd, Int.reduceSub, Int.reduceMul, Int.reduceLT, Int.reduceLE, Int.reduceEq, Int.reduceNeg]); exact hj
                              · (try simp -dsimp (disch := omega) only [↓pre, sp, sp2, wp_some, Int.cast_ofNat_Int, Nat.reduceAdd, Nat.reduceMul, Nat.reduceSub, Nat.reduceLeDiff, Nat.reduceEqDiff, Nat.reducePow, Int.reduceToNat, Int.reducePow, Int.reduceAdd, Int.reduceSub, Int.reduceMul, Int.reduceLT, Int.reduceLE, Int.reduceEq, Int.reduceNeg]); exact hj
                          (try simp -dsimp (disch := omega) only [↓pre, sp, sp2, wp_some, Int.cast_ofNat_Int, Nat.reduceAdd, Nat.reduceMul, Nat.reduceSub, Nat.reduceLeDiff, Nat.reduceEqDiff, Nat.reducePow, Int.reduceToNat, Int.reducePow, Int.reduceAdd, Int.reduceSub, Int.reduceMul, Int.reduceLT, Int.reduceLE, Int.reduceEq, Int.reduceNeg])
                          refine wp_kJ (fun l h11 => l = [.int .i64 c] ∧ h11 = h10) (fun j187 hj187 => ?_) ?_
                          · refine wp_kIf (fun g => ?_) (fun g => ?_)
                            · rw [if_pos g] at hc
                              (try simp -dsimp (disch := omega) only [↓pre, sp, sp2, wp_some, Int.cast_ofNat_Int, Nat.reduceAdd, Nat.reduceMul, Nat.reduceSub, Nat.reduceLeDiff, Nat.reduceEqDiff, Nat.reducePow, Int.reduceToNat, Int.reducePow, Int.reduceAdd, Int.reduceSub, Int.reduceMul, Int.reduceLT, Int.reduceLE, Int.reduceEq, Int.reduceNeg])
                              exact hj187 _ _ ⟨by rw [hc], rfl⟩
                            · rw [if_neg (by rw [g]; decide)] at hc
                              (try simp -dsimp (disch := omega) only [↓pre, sp, sp2, wp_some, Int.cast_ofNat_Int, Nat.reduceAdd, Nat.reduceMul, Nat.reduceSub, Nat.reduceLeDiff, Nat.reduceEqDiff, Nat.reducePow, Int.reduceToNat, Int.reducePow, Int.reduceAdd, Int.reduceSub, Int.reduceMul, Int.reduceLT, Int.reduceLE, Int.reduceEq, Int.reduceNeg])
                              exact hj187 _ _ ⟨by rw [hc], rfl⟩
                          · rintro _ h11 ⟨rfl, e⟩
                            (try simp -dsimp (disch := omega) only [↓pre, sp, sp2, wp_some, Int.cast_ofNat_Int, Nat.reduceAdd, Nat.reduceMul, Nat.reduceSub, Nat.reduceLeDiff, Nat.reduceEqDiff, Nat.reducePow, Int.reduceToNat, Int.reducePow, Int.reduceAdd, Int.reduceSub, Int.reduceMul, Int.reduceLT, Int.reduceLE, Int.reduceEq, Int.reduceNeg])
                            exact hj161 _ _ ⟨rfl, e⟩
                      · rintro _ h11 ⟨rfl, e⟩
                        subst e
                        clear hc
                        (try simp -dsimp (disch := omega) only [↓pre, sp, sp2, wp_some, Int.cast_ofNat_Int, Nat.reduceAdd, Nat.reduceMul, Nat.reduceSub, Nat.reduceLeDiff, Nat.reduceEqDiff, Nat.reducePow, Int.reduceToNat, Int.reducePow, Int.reduceAdd, Int.reduceSub, Int.reduceMul, Int.reduceLT, Int.reduceLE, Int.reduceEq, Int.reduceNeg, et1, ea0])
                        refine wp_r0 s10 (tr a) fun h12 s12 => ?_
                        (try simp -dsimp (disch := omega) only [↓pre, sp, sp2, wp_some, Int.cast_ofNat_Int, Nat.reduceAdd, Nat.reduceMul, Nat.reduceSub, Nat.reduceLeDiff, Nat.reduceEqDiff, Nat.reducePow, Int.reduceToNat, Int.reducePow, Int.reduceAdd, Int.reduceSub, Int.reduceMul, Int.reduceLT, Int.reduceLE, Int.reduceEq, Int.reduceNeg, et1])
                        refine wp_buildSl s12.w (by simp) rfl rfl fun q4 h13 hq4 k13 n13 g13 => ?_
                        (try simp -dsimp (disch := omega) only [↓pre, sp, sp2, wp_some, Int.cast_ofNat_Int, Nat.reduceAdd, Nat.reduceMul, Nat.reduceSub, Nat.reduceLeDiff, Nat.reduceEqDiff, Nat.reducePow, Int.reduceToNat, Int.reducePow, Int.reduceAdd, Int.reduceSub, Int.reduceMul, Int.reduceLT, Int.reduceLE, Int.reduceEq, Int.reduceNeg])
                        exact hj194 _ _ (RE.new (LO := [tr (decide (c ≤ 0)), c]) s12.toKSt hq4 k13 g13 rfl ht)
                    (try simp -dsimp (disch := omega) only [↓pre, sp, sp2, wp_some, Int.cast_ofNat_Int, Nat.reduceAdd, Nat.reduceMul, Nat.reduceSub, Nat.reduceLeDiff, Nat.reduceEqDiff, Nat.reducePow, Int.reduceToNat, Int.reducePow, Int.reduceAdd, Int.reduceSub, Int.reduceMul, Int.reduceLT, Int.reduceLE, Int.reduceEq, Int.reduceNeg, ↓eqT nm true, eb, Option.some.injEq])
                    refine wp_kJ (RE h q0 q2 t) (fun j240 hj240 => ?_) ?_
                    · (try simp -dsimp (disch := omega) only [↓pre, sp, sp2, wp_some, Int.cast_ofNat_Int, Nat.reduceAdd, Nat.reduceMul, Nat.reduceSub, Nat.reduceLeDiff, Nat.reduceEqDiff, Nat.reducePow, Int.reduceToNat, Int.reducePow, Int.reduceAdd, Int.reduceSub, Int.reduceMul, Int.reduceLT, Int.reduceLE, Int.reduceEq, Int.reduceNeg, ↓eqT nm true, eb, Option.some.injEq])
                      refine wp_ite (fun c => ?_) (fun c => ?_)
                      · subst c
                        have hb1 : decide (gi li 1 ≠ 0) = bv := by rw [hbv, show decide (1 < Bl.ctud.ins.length) = true from rfl, Bool.true_and]
                        simp only [refM, ha, hb1] at ht
                        have p2 : 2 < Bl.ctud.ins.length := by decide
                        have p3 : 3 < Bl.ctud.ins.length := by decide
                        have p4 : 4 < Bl.ctud.ins.length := by decide
                        have p2' : 2 < Bl.ctud.outs.length := by decide
                        have lij := fun h' (s : RSt h h' q0 q2 pin po (padL li Bl.ctud.ins.length) (padL lo Bl.ctud.outs.length) (wrapM 4 k0) (wrapM 4 k1) (wrapM 4 k2)) (j : Nat) (hj : j < Bl.ctud.ins.length) => hL s hj
                        have lo2 := fun h' (s : RSt h h' q0 q2 pin po (padL li Bl.ctud.ins.length) (padL lo Bl.ctud.outs.length) (wrapM 4 k0) (wrapM 4 k1) (wrapM 4 k2)) => hO s p2'
                        have iI : I64 (gi li 4) := hi.at 4
                        have iO : I64 (gi lo 2) := ho.at 2
                        clear hL hO
                        generalize wrapM 4 k0 = K0 at *
                        generalize wrapM 4 k1 = K1 at *
                        generalize wrapM 4 k2 = K2 at *
                        (try simp -dsimp (disch := omega) only [↓pre, sp, sp2, wp_some, Int.cast_ofNat_Int, Nat.reduceAdd, Nat.reduceMul, Nat.reduceSub, Nat.reduceLeDiff, Nat.reduceEqDiff, Nat.reducePow, Int.reduceToNat, Int.reducePow, Int.reduceAdd, Int.reduceSub, Int.reduceMul, Int.reduceLT, Int.reduceLE, Int.reduceEq, Int.reduceNeg, pi7.at, lij h8 s7 4 p4, qo7.at, lo2 h8 s7])
                        refine Wp.bind (rwrap_spec H (n + 2) s7.w 3 _ iI) fun v h9 ⟨K9, ev⟩ => ?_
                        subst ev
                        have s9 := s7.to' K9
                        (try simp -dsimp (disch := omega) only [↓pre, sp, sp2, wp_some, Int.cast_ofNat_Int, Nat.reduceAdd, Nat.reduceMul, Nat.reduceSub, Nat.reduceLeDiff, Nat.reduceEqDiff, Nat.reducePow, Int.reduceToNat, Int.reducePow, Int.reduceAdd, Int.reduceSub, Int.reduceMul, Int.reduceLT, Int.reduceLE, Int.reduceEq, Int.reduceNeg, lo2 h9 s9])
                        refine Wp.bind (rwrap_spec H (n + 2) s9.w 3 _ iO) fun v h10 ⟨K10, ev⟩ => ?_
                        subst ev
                        have s10 := s9.to' K10
                        have l2 := lij h10 s10 2 p2
                        have l3 := lij h10 s10 3 p3
                        clear lij lo2
                        generalize wrapM 3 (gi li 4) = pv at *
                        generalize wrapM 3 (gi lo 2) = cv at *
                        obtain ⟨up, hup⟩ : ∃ up, up = (a && decide (K0 = 0)) := ⟨_, rfl⟩
                        obtain ⟨dn, hdn⟩ : ∃ dn, dn = (bv && decide (K1 = 0)) := ⟨_, rfl⟩
                        obtain ⟨c, hc⟩ : ∃ c, c = (if gi li 2 ≠ 0 then 0 else if gi li 3 ≠ 0 then pv else if (up && !dn && decide (cv < 32767)) = true then IntKind.wrap .i64 (cv + 1) else if (dn && !up && decide (cv > -32768)) = true then IntKind.wrap .i64 (cv - 1) else cv) := ⟨_, rfl⟩
                        rw [← hup, ← hdn, ← hc] at ht
                        (try simp -dsimp (disch := omega) only [↓pre, sp, sp2, wp_some, Int.cast_ofNat_Int, Nat.reduceAdd, Nat.reduceMul, Nat.reduceSub, Nat.reduceLeDiff, Nat.reduceEqDiff, Nat.reducePow, Int.reduceToNat, Int.reducePow, Int.reduceAdd, Int.reduceSub, Int.reduceMul, Int.reduceLT, Int.reduceLE, Int.reduceEq, Int.reduceNeg])
                        have first : ∀ (K : AVal → Ans), Wp (K (.bool up)) (ToldQ h t) → Wp (kgq (.bool a) true (fun k => kq (rAtArr 3 1 (.ptr (some (q0, 0))) (.int .i64 0)) k) fun v253 => kgq (.bool a) true (fun k => kq (rLoad v253 h10) k) fun v254 => kgq (.bool a) true (fun k => kq (rBin .eql .no true v254 (.int .i64 0)) k) fun v255 => kq (rPick (.bool a) v255 (.bool false)) fun v256 => K v256) (ToldQ h t) := fun K hK => by
                          subst hup
                          cases a
                          · (try simp -dsimp (disch := omega) only [↓pre, sp, sp2, wp_some, Int.cast_ofNat_Int, Nat.reduceAdd, Nat.reduceMul, Nat.reduceSub, Nat.reduceLeDiff, Nat.reduceEqDiff, Nat.reducePow, Int.reduceToNat, Int.reducePow, Int.reduceAdd, Int.reduceSub, Int.reduceMul, Int.reduceLT, Int.reduceLE, Int.reduceEq, Int.reduceNeg]); exact hK
                          · (try simp -dsimp (disch := omega) only [↓pre, sp, sp2, wp_some, Int.cast_ofNat_Int, Nat.reduceAdd, Nat.reduceMul, Nat.reduceSub, Nat.reduceLeDiff, Nat.reduceEqDiff, Nat.reducePow, Int.reduceToNat, Int.reducePow, Int.reduceAdd, Int.reduceSub, Int.reduceMul, Int.reduceLT, Int.reduceLE, Int.reduceEq, Int.reduceNeg, ea0, s10.ld]); exact hK
                        have second : ∀ (K : AVal → Ans), Wp (K (.bool dn)) (ToldQ h t) → Wp (kgq (.bool bv) true (fun k => kq (rAtArr 3 1 (.ptr (some (q0, 0))) (.int .i64 1)) k) fun v253 => kgq (.bool bv) true (fun k => kq (rLoad v253 h10) k) fun v254 => kgq (.bool bv) true (fun k => kq (rBin .eql .no true v254 (.int .i64 0)) k) fun v255 => kq (rPick (.bool bv) v255 (.bool false)) fun v256 => K v256) (ToldQ h t) := fun K hK => by
                          subst hdn
                          clear hb1 hbv
                          cases bv
                          · (try simp -dsimp (disch := omega) only [↓pre, sp, sp2, wp_some, Int.cast_ofNat_Int, Nat.reduceAdd, Nat.reduceMul, Nat.reduceSub, Nat.reduceLeDiff, Nat.reduceEqDiff, Nat.reducePow, Int.reduceToNat, Int.reducePow, Int.reduceAdd, Int.reduceSub, Int.reduceMul, Int.reduceLT, Int.reduceLE, Int.reduceEq, Int.reduceNeg]); exact hK
                          · (try simp -dsimp (disch := omega) only [↓pre, sp, sp2, wp_some, Int.cast_ofNat_Int, Nat.reduceAdd, Nat.reduceMul, Nat.reduceSub, Nat.reduceLeDiff, Nat.reduceEqDiff, Nat.reducePow, Int.reduceToNat, Int.reducePow, Int.reduceAdd, Int.reduceSub, Int.reduceMul, Int.reduceLT, Int.reduceLE, Int.reduceEq, Int.reduceNeg, ea1, s10.ld]); exact hK
                        refine first _ ?_
                        (try simp -dsimp (disch := omega) only [↓pre, sp, sp2, wp_some, Int.cast_ofNat_Int, Nat.reduceAdd, Nat.reduceMul, Nat.reduceSub, Nat.reduceLeDiff, Nat.reduceEqDiff, Nat.reducePow, Int.reduceToNat, Int.reducePow, Int.reduceAdd, Int.reduceSub, Int.reduceMul, Int.reduceLT, Int.reduceLE, Int.reduceEq, Int.reduceNeg])
                        refine second _ ?_
                        clear first second
                        (try simp -dsimp (disch := omega) only [↓pre, sp, sp2, wp_some, Int.cast_ofNat_Int, Nat.reduceAdd, Nat.reduceMul, Nat.reduceSub, Nat.reduceLeDiff, Nat.reduceEqDiff, Nat.reducePow, Int.reduceToNat, Int.reducePow, Int.reduceAdd, Int.reduceSub, Int.reduceMul, Int.reduceLT, Int.reduceLE, Int.reduceEq, Int.reduceNeg, pi7.at, l2])
                        refine wp_kJ (fun l h11 => l = [.int .i64 c] ∧ h11 = h10) (fun j271 hj271 => ?_) ?_
                        · (try simp -dsimp (disch := omega) only [↓pre, sp, sp2, wp_some, Int.cast_ofNat_Int, Nat.reduceAdd, Nat.reduceMul, Nat.reduceSub, Nat.reduceLeDiff, Nat.reduceEqDiff, Nat.reducePow, Int.reduceToNat, Int.reducePow, Int.reduceAdd, Int.reduceSub, Int.reduceMul, Int.reduceLT, Int.reduceLE, Int.reduceEq, Int.reduceNeg])
                          refine wp_ite (fun g2 => ?_) (fun g2 => ?_)
                          · rw [if_pos g2] at hc
                            (try simp -dsimp (disch := omega) only [↓pre, sp, sp2, wp_some, Int.cast_ofNat_Int, Nat.reduceAdd, Nat.reduceMul, Nat.reduceSub, Nat.reduceLeDiff, Nat.reduceEqDiff, Nat.reducePow, Int.reduceToNat, Int.reducePow, Int.reduceAdd, Int.reduceSub, Int.reduceMul, Int.reduceLT, Int.reduceLE, Int.reduceEq, Int.reduceNeg])
                            exact hj271 _ _ ⟨by rw [hc], rfl⟩
                          · rw [if_neg g2] at hc
                            (try simp -dsimp (disch := omega) only [↓pre, sp, sp2, wp_some, Int.cast_ofNat_Int, Nat.reduceAdd, Nat.reduceMul, Nat.reduceSub, Nat.reduceLeDiff, Nat.reduceEqDiff, Nat.reducePow, Int.reduceToNat, Int.reducePow, Int.reduceAdd, Int.reduceSub, Int.reduceMul, Int.reduceLT, Int.reduceLE, Int.reduceEq, Int.reduceNeg, pi7.at, l3])
                            refine wp_kJ (fun l h11 => l = [.int .i64 c] ∧ h11 = h10) (fun j297 hj297 => ?_) ?_
                            · (try simp -dsimp (disch := omega) only [↓pre, sp, sp2, wp_some, Int.cast_ofNat_Int, Nat.reduceAdd, Nat.reduceMul, Nat.reduceSub, Nat.reduceLeDiff, Nat.reduceEqDiff, Nat.reducePow, Int.reduceToNat, Int.reducePow, Int.reduceAdd, Int.reduceSub, Int.reduceMul, Int.reduceLT, Int.reduceLE, Int.reduceEq, Int.reduceNeg])
                              refine wp_ite (fun g3 => ?_) (fun g3 => ?_)
                              · rw [if_pos g3] at hc
                                (try simp -dsimp (disch := omega) only [↓pre, sp, sp2, wp_some, Int.cast_ofNat_Int, Nat.reduceAdd, Nat.reduceMul, Nat.reduceSub, Nat.reduceLeDiff, Nat.reduceEqDiff, Nat.reducePow, Int.reduceToNat, Int.reducePow, Int.reduceAdd, Int.reduceSub, Int.reduceMul, Int.reduceLT, Int.reduceLE, Int.reduceEq, Int.reduceNeg])
                                exact hj297 _ _ ⟨by rw [hc], rfl⟩
                              · rw [if_neg g3] at hc
                                (try simp -dsimp (disch := omega) only [↓pre, sp, sp2, wp_some, Int.cast_ofNat_Int, Nat.reduceAdd, Nat.reduceMul, Nat.reduceSub, Nat.reduceLeDiff, Nat.reduceEqDiff, Nat.reducePow, Int.reduceToNat, Int.reducePow, Int.reduceAdd, Int.reduceSub, Int.reduceMul, Int.reduceLT, Int.reduceLE, Int.reduceEq, Int.reduceNeg])
                                refine wp_kT (.bool (up && !dn && decide (cv < 32767))) (fun j hj => ?_) ?_
                                · clear hc ht ha hb1 hbv hup hdn
                                  cases up
                                  · (try simp -dsimp (disch := omega) only [↓pre, sp, sp2, wp_some, Int.cast_ofNat_Int, Nat.reduceAdd, Nat.reduceMul, Nat.reduceSub, Nat.reduceLeDiff, Nat.reduceEqDiff, Nat.reducePow, Int.reduceToNat, Int.reducePow, Int.reduceAdd, Int.reduceSub, Int.reduceMul, Int.reduceLT, Int.reduceLE, Int.reduceEq, Int.reduceNeg]); exact hj
                                  · cases dn
                                    · (try simp -dsimp (disch := omega) only [↓pre, sp, sp2, wp_some, Int.cast_ofNat_Int, Nat.reduceAdd, Nat.reduceMul, Nat.reduceSub, Nat.reduceLeDiff, Nat.reduceEqDiff, Nat.reducePow, Int.reduceToNat, Int.reducePow, Int.reduceAdd, Int.reduceSub, Int.reduceMul, Int.reduceLT, Int.reduceLE, Int.reduceEq, Int.reduceNeg]); exact hj
                                    · (try simp -dsimp (disch := omega) only [↓pre, sp, sp2, wp_some, Int.cast_ofNat_Int, Nat.reduceAdd, Nat.reduceMul, Nat.reduceSub, Nat.reduceLeDiff, Nat.reduceEqDiff, Nat.reducePow, Int.reduceToNat, Int.reducePow, Int.reduceAdd, Int.reduceSub, Int.reduceMul, Int.reduceLT, Int.reduceLE, Int.reduceEq, Int.reduceNeg]); exact hj
                                (try simp -dsimp (disch := omega) only [↓pre, sp, sp2, wp_some, Int.cast_ofNat_Int, Nat.reduceAdd, Nat.reduceMul, Nat.reduceSub, Nat.reduceLeDiff, Nat.reduceEqDiff, Nat.reducePow, Int.reduceToNat, Int.reducePow, Int.reduceAdd, Int.reduceSub, Int.reduceMul, Int.reduceLT, Int.reduceLE, Int.reduceEq, Int.reduceNeg])
                                refine wp_kJ (fun l h11 => l = [.int .i64 c] ∧ h11 = h10) (fun j313 hj313 => ?_) ?_
                                · refine wp_kIf (fun g => ?_) (fun g => ?_)
                                  · rw [if_pos g] at hc
                                    (try simp -dsimp (disch := omega) only [↓pre, sp, sp2, wp_some, Int.cast_ofNat_Int, Nat.reduceAdd, Nat.reduceMul, Nat.reduceSub, Nat.reduceLeDiff, Nat.reduceEqDiff, Nat.reducePow, Int.reduceToNat, Int.reducePow, Int.reduceAdd, Int.reduceSub, Int.reduceMul, Int.reduceLT, Int.reduceLE, Int.reduceEq, Int.reduceNeg])
                                    exact hj313 _ _ ⟨by rw [hc], rfl⟩
                                  · rw [if_neg (by rw [g]; decide)] at hc
                                    (try simp -dsimp (disch := omega) only [↓pre, sp, sp2, wp_some, Int.cast_ofNat_Int, Nat.reduceAdd, Nat.reduceMul, Nat.reduceSub, Nat.reduceLeDiff, Nat.reduceEqDiff, Nat.reducePow, Int.reduceToNat, Int.reducePow, Int.reduceAdd, Int.reduceSub, Int.reduceMul, Int.reduceLT, Int.reduceLE, Int.reduceEq, Int.reduceNeg])
                                    refine wp_kT (.bool (dn && !up && decide (cv > -32768))) (fun j hj => ?_) ?_
                                    · clear hc ht ha hb1 hbv hup hdn g
                                      cases dn
                                      · (try simp -dsimp (disch := omega) only [↓pre, sp, sp2, wp_some, Int.cast_ofNat_Int, Nat.reduceAdd, Nat.reduceMul, Nat.reduceSub, Nat.reduceLeDiff, Nat.reduceEqDiff, Nat.reducePow, Int.reduceToNat, Int.reducePow, Int.reduceAdd, Int.reduceSub, Int.reduceMul, Int.reduceLT, Int.reduceLE, Int.reduceEq, Int.reduceNeg]); exact hj
                                      · cases up
                                        · (try simp -dsimp (disch := omega) only [↓pre, sp, sp2, wp_some, Int.cast_ofNat_Int, Nat.reduceAdd, Nat.reduceMul, Nat.reduceSub, Nat.reduceLeDiff, Nat.reduceEqDiff, Nat.reducePow, Int.reduceToNat, Int.reducePow, Int.reduceAdd, Int.reduceSub, Int.reduceMul, Int.reduceLT, Int.reduceLE, Int.reduceEq, Int.reduceNeg]); exact hj
                                        · (try simp -dsimp (disch := omega) only [↓pre, sp, sp2, wp_some, Int.cast_ofNat_Int, Nat.reduceAdd, Nat.reduceMul, Nat.reduceSub, Nat.reduceLeDiff, Nat.reduceEqDiff, Nat.reducePow, Int.reduceToNat, Int.reducePow, Int.reduceAdd, Int.reduceSub, Int.reduceMul, Int.reduceLT, Int.reduceLE, Int.reduceEq, Int.reduceNeg]); exact hj
                                    (try simp -dsimp (disch := omega) only [↓pre, sp, sp2, wp_some, Int.cast_ofNat_Int, Nat.reduceAdd, Nat.reduceMul, Nat.reduceSub, Nat.reduceLeDiff, Nat.reduceEqDiff, Nat.reducePow, Int.reduceToNat, Int.reducePow, Int.reduceAdd, Int.reduceSub, Int.reduceMul, Int.reduceLT, Int.reduceLE, Int.reduceEq, Int.reduceNeg])
                                    refine wp_kJ (fun l h11 => l = [.int .i64 c] ∧ h11 = h10) (fun j330 hj330 => ?_) ?_
                                    · refine wp_kIf (fun g => ?_) (fun g => ?_)
                                      · rw [if_pos g] at hc
                                        (try simp -dsimp (disch := omega) only [↓pre, sp, sp2, wp_some, Int.cast_ofNat_Int, Nat.reduceAdd, Nat.reduceMul, Nat.reduceSub, Nat.reduceLeDiff, Nat.reduceEqDiff, Nat.reducePow, Int.reduceToNat, Int.reducePow, Int.reduceAdd, Int.reduceSub, Int.reduceMul, Int.reduceLT, Int.reduceLE, Int.reduceEq, Int.reduceNeg])
                                        exact hj330 _ _ ⟨by rw [hc], rfl⟩
                                      · rw [if_neg (by rw [g]; decide)] at hc
                                        (try simp -dsimp (disch := omega) only [↓pre, sp, sp2, wp_some, Int.cast_ofNat_Int, Nat.reduceAdd, Nat.reduceMul, Nat.reduceSub, Nat.reduceLeDiff, Nat.reduceEqDiff, Nat.reducePow, Int.reduceToNat, Int.reducePow, Int.reduceAdd, Int.reduceSub, Int.reduceMul, Int.reduceLT, Int.reduceLE, Int.reduceEq, Int.reduceNeg])
                                        exact hj330 _ _ ⟨by rw [hc], rfl⟩
                                    · rintro _ h11 ⟨rfl, e⟩
                                      (try simp -dsimp (disch := omega) only [↓pre, sp, sp2, wp_some, Int.cast_ofNat_Int, Nat.reduceAdd, Nat.reduceMul, Nat.reduceSub, Nat.reduceLeDiff, Nat.reduceEqDiff, Nat.reducePow, Int.reduceToNat, Int.reducePow, Int.reduceAdd, Int.reduceSub, Int.reduceMul, Int.reduceLT, Int.reduceLE, Int.reduceEq, Int.reduceNeg])
                                      exact hj313 _ _ ⟨rfl, e⟩
                                · rintro _ h11 ⟨rfl, e⟩
                                  (try simp -dsimp (disch := omega) only [↓pre, sp, sp2, wp_some, Int.cast_ofNat_Int, Nat.reduceAdd, Nat.reduceMul, Nat.reduceSub, Nat.reduceLeDiff, Nat.reduceEqDiff, Nat.reducePow, Int.reduceToNat, Int.reducePow, Int.reduceAdd, Int.reduceSub, Int.reduceMul, Int.reduceLT, Int.reduceLE, Int.reduceEq, Int.reduceNeg])
                                  exact hj297 _ _ ⟨rfl, e⟩
                            · rintro _ h11 ⟨rfl, e⟩
                              (try simp -dsimp (disch := omega) only [↓pre, sp, sp2, wp_some, Int.cast_ofNat_Int, Nat.reduceAdd, Nat.reduceMul, Nat.reduceSub, Nat.reduceLeDiff, Nat.reduceEqDiff, Nat.reducePow, Int.reduceToNat, Int.reducePow, Int.reduceAdd, Int.reduceSub, Int.reduceMul, Int.reduceLT, Int.reduceLE, Int.reduceEq, Int.reduceNeg])
                              exact hj271 _ _ ⟨rfl, e⟩
                        · rintro _ h11 ⟨rfl, e⟩
                          subst e
                          clear hc
                          (try simp -dsimp (disch := omega) only [↓pre, sp, sp2, wp_some, Int.cast_ofNat_Int, Nat.reduceAdd, Nat.reduceMul, Nat.reduceSub, Nat.reduceLeDiff, Nat.reduceEqDiff, Nat.reducePow, Int.reduceToNat, Int.reducePow, Int.reduceAdd, Int.reduceSub, Int.reduceMul, Int.reduceLT, Int.reduceLE, Int.reduceEq, Int.reduceNeg, et1, ea0])
                          refine wp_r0 s10 (tr a) fun h12 s12 => ?_
                          (try simp -dsimp (disch := omega) only [↓pre, sp, sp2, wp_some, Int.cast_ofNat_Int, Nat.reduceAdd, Nat.reduceMul, Nat.reduceSub, Nat.reduceLeDiff, Nat.reduceEqDiff, Nat.reducePow, Int.reduceToNat, Int.reducePow, Int.reduceAdd, Int.reduceSub, Int.reduceMul, Int.reduceLT, Int.reduceLE, Int.reduceEq, Int.reduceNeg, ea1])
                          refine wp_r1 s12 (tr bv) fun h13 s13 => ?_
                          (try simp -dsimp (disch := omega) only [↓pre, sp, sp2, wp_some, Int.cast_ofNat_Int, Nat.reduceAdd, Nat.reduceMul, Nat.reduceSub, Nat.reduceLeDiff, Nat.reduceEqDiff, Nat.reducePow, Int.reduceToNat, Int.reducePow, Int.reduceAdd, Int.reduceSub, Int.reduceMul, Int.reduceLT, Int.reduceLE, Int.reduceEq, Int.reduceNeg, et1])
                          refine wp_buildSl s13.w (by simp) rfl rfl fun q4 h14 hq4 k14 n14 g14 => ?_
                          (try simp -dsimp (disch := omega) only [↓pre, sp, sp2, wp_some, Int.cast_ofNat_Int, Nat.reduceAdd, Nat.reduceMul, Nat.reduceSub, Nat.reduceLeDiff, Nat.reduceEqDiff, Nat.reducePow, Int.reduceToNat, Int.reducePow, Int.reduceAdd, Int.reduceSub, Int.reduceMul, Int.reduceLT, Int.reduceLE, Int.reduceEq, Int.reduceNeg])
                          exact hj240 _ _ (RE.new (LO := [tr (decide (c ≥ pv)), tr (decide (c ≤ 0)), c]) s13.toKSt hq4 k14 g14 rfl ht)
                      · have hb : isTm b := by cases b <;> first | exact trivial | (exfalso; simp_all)
                        have p1 : 1 < b.ins.length := by cases b <;> first | exact hb.elim | decide
                        have po1 : 1 < b.outs.length := by cases b <;> first | exact hb.elim | decide
                        have htm : t = timerM b a (max (wrapM 11 (gi li 1)) 0) (wrapM 4 k0) (wrapM 4 k1) (wrapM 4 k2) (gi lo 0) (gi lo 1) (wrapM 4 now) := by
                          rw [ht, ← ha]
                          cases b <;> first | exact hb.elim | rfl
                        have enm : nm = b.nm := bl?_some eb
                        (try simp -dsimp (disch := omega) only [↓pre, sp, sp2, wp_some, Int.cast_ofNat_Int, Nat.reduceAdd, Nat.reduceMul, Nat.reduceSub, Nat.reduceLeDiff, Nat.reduceEqDiff, Nat.reducePow, Int.reduceToNat, Int.reducePow, Int.reduceAdd, Int.reduceSub, Int.reduceMul, Int.reduceLT, Int.reduceLE, Int.reduceEq, Int.reduceNeg, pi7.at, hL s7 p1, s7.ld])
                        refine Wp.bind (rwrap_spec H (n + 2) s7.w 11 _ (hi.at 1)) fun v h9 ⟨K9, ev⟩ => ?_
                        subst ev
                        have s9 := s7.to' K9
                        (try simp -dsimp (disch := omega) only [↓pre, sp, sp2, wp_some, Int.cast_ofNat_Int, Nat.reduceAdd, Nat.reduceMul, Nat.reduceSub, Nat.reduceLeDiff, Nat.reduceEqDiff, Nat.reducePow, Int.reduceToNat, Int.reducePow, Int.reduceAdd, Int.reduceSub, Int.reduceMul, Int.reduceLT, Int.reduceLE, Int.reduceEq, Int.reduceNeg, s9.ld])
                        have lp0 : (padL lo b.outs.length).length = b.outs.length := padL_len _ _
                        have g0' : gi (padL lo b.outs.length) 0 = gi lo 0 := padL_at _ p0'
                        have g1' : gi (padL lo b.outs.length) 1 = gi lo 1 := padL_at _ po1
                        have tsp := timer_spec H n s9.w b hb (a := a) (pt := max (wrapM 11 (gi li 1)) 0) (k0 := wrapM 4 k0) (k1 := wrapM 4 k1) (k2 := wrapM 4 k2) (now := wrapM 4 now) s9.oo.si (by omega) (by rw [g1']; exact ho.at 1)
                        rw [g0', g1', ← htm, ← enm] at tsp
                        refine Wp.bind tsp fun v h10 ⟨K10, xr, ev, or', fr⟩ => ?_
                        subst ev
                        have s10 := s9.to' K10
                        (try simp -dsimp (disch := omega) only [↓pre, sp, sp2, wp_some, Int.cast_ofNat_Int, Nat.reduceAdd, Nat.reduceMul, Nat.reduceSub, Nat.reduceLeDiff, Nat.reduceEqDiff, Nat.reducePow, Int.reduceToNat, Int.reducePow, Int.reduceAdd, Int.reduceSub, Int.reduceMul, Int.reduceLT, Int.reduceLE, Int.reduceEq, Int.reduceNeg])
                        refine wp_rAll s10 t.k0 t.k1 t.k2 fun h11 e11 s11 => ?_
                        (try simp -dsimp (disch := omega) only [↓pre, sp, sp2, wp_some, Int.cast_ofNat_Int, Nat.reduceAdd, Nat.reduceMul, Nat.reduceSub, Nat.reduceLeDiff, Nat.reduceEqDiff, Nat.reducePow, Int.reduceToNat, Int.reducePow, Int.reduceAdd, Int.reduceSub, Int.reduceMul, Int.reduceLT, Int.reduceLE, Int.reduceEq, Int.reduceNeg])
                        have hq0' := s9.w.lt _ _ s9.g0
                        have hq2' := s9.w.lt _ _ s9.g2
                        have hn9 := s9.kp.n
                        exact hj240 _ _ ⟨xr, rfl, s11.toKSt, or'.ke e11 fun i hi e => by have := fr i hi; omega, fun i hi => by have := fr i hi; omega, fun hi => by have := fr _ hi; omega⟩
                    · rintro _ h9 ⟨v, rfl, r⟩
                      (try simp -dsimp (disch := omega) only [↓pre, sp, sp2, wp_some, Int.cast_ofNat_Int, Nat.reduceAdd, Nat.reduceMul, Nat.reduceSub, Nat.reduceLeDiff, Nat.reduceEqDiff, Nat.reducePow, Int.reduceToNat, Int.reducePow, Int.reduceAdd, Int.reduceSub, Int.reduceMul, Int.reduceLT, Int.reduceLE, Int.reduceEq, Int.reduceNeg])
                      exact hj194 _ _ ⟨v, rfl, r⟩
                  · rintro _ h9 ⟨v, rfl, r⟩
                    (try simp -dsimp (disch := omega) only [↓pre, sp, sp2, wp_some, Int.cast_ofNat_Int, Nat.reduceAdd, Nat.reduceMul, Nat.reduceSub, Nat.reduceLeDiff, Nat.reduceEqDiff, Nat.reducePow, Int.reduceToNat, Int.reducePow, Int.reduceAdd, Int.reduceSub, Int.reduceMul, Int.reduceLT, Int.reduceLE, Int.reduceEq, Int.reduceNeg])
                    exact hj148 _ _ ⟨v, rfl, r⟩
                · rintro _ h9 ⟨v, rfl, r⟩
                  (try simp -dsimp (disch := omega) only [↓pre, sp, sp2, wp_some, Int.cast_ofNat_Int, Nat.reduceAdd, Nat.reduceMul, Nat.reduceSub, Nat.reduceLeDiff, Nat.reduceEqDiff, Nat.reducePow, Int.reduceToNat, Int.reducePow, Int.reduceAdd, Int.reduceSub, Int.reduceMul, Int.reduceLT, Int.reduceLE, Int.reduceEq, Int.reduceNeg])
                  exact hj127 _ _ ⟨v, rfl, r⟩
              · rintro _ h9 ⟨v, rfl, r⟩
                (try simp -dsimp (disch := omega) only [↓pre, sp, sp2, wp_some, Int.cast_ofNat_Int, Nat.reduceAdd, Nat.reduceMul, Nat.reduceSub, Nat.reduceLeDiff, Nat.reduceEqDiff, Nat.reducePow, Int.reduceToNat, Int.reducePow, Int.reduceAdd, Int.reduceSub, Int.reduceMul, Int.reduceLT, Int.reduceLE, Int.reduceEq, Int.reduceNeg])
                exact hj106 _ _ ⟨v, rfl, r⟩
            · rintro _ h9 ⟨v, rfl, r⟩
              (try simp -dsimp (disch := omega) only [↓pre, sp, sp2, wp_some, Int.cast_ofNat_Int, Nat.reduceAdd, Nat.reduceMul, Nat.reduceSub, Nat.reduceLeDiff, Nat.reduceEqDiff, Nat.reducePow, Int.reduceToNat, Int.reducePow, Int.reduceAdd, Int.reduceSub, Int.reduceMul, Int.reduceLT, Int.reduceLE, Int.reduceEq, Int.reduceNeg])
              exact hj85 _ _ ⟨v, rfl, r⟩
          · rintro _ h9 ⟨v, rfl, r⟩
            (try simp -dsimp (disch := omega) only [↓pre, sp, sp2, wp_some, Int.cast_ofNat_Int, Nat.reduceAdd, Nat.reduceMul, Nat.reduceSub, Nat.reduceLeDiff, Nat.reduceEqDiff, Nat.reducePow, Int.reduceToNat, Int.reducePow, Int.reduceAdd, Int.reduceSub, Int.reduceMul, Int.reduceLT, Int.reduceLE, Int.reduceEq, Int.reduceNeg])
            exact hj60 _ _ ⟨v, rfl, r⟩
        · rintro _ h9 ⟨v, rfl, s9, o9, f9, nb⟩
          (try simp -dsimp (disch := omega) only [↓pre, sp, sp2, wp_some, Int.cast_ofNat_Int, Nat.reduceAdd, Nat.reduceMul, Nat.reduceSub, Nat.reduceLeDiff, Nat.reduceEqDiff, Nat.reducePow, Int.reduceToNat, Int.reducePow, Int.reduceAdd, Int.reduceSub, Int.reduceMul, Int.reduceLT, Int.reduceLE, Int.reduceEq, Int.reduceNeg, s9.ld])
          refine wp_kEnd s9 o9 f9 nb fun h10 el q10 => ?_
          (try simp -dsimp (disch := omega) only [↓pre, sp, sp2, wp_some, Int.cast_ofNat_Int, Nat.reduceAdd, Nat.reduceMul, Nat.reduceSub, Nat.reduceLeDiff, Nat.reduceEqDiff, Nat.reducePow, Int.reduceToNat, Int.reducePow, Int.reduceAdd, Int.reduceSub, Int.reduceMul, Int.reduceLT, Int.reduceLE, Int.reduceEq, Int.reduceNeg, el])
          exact q10
end Go.Proofs.YtindiedfioiejaaDoor.AI
