/- Chapter 17: the document's timers. -/
import Derived.Test.YtindiedfioiejaaDoorFr1
namespace Go.Proofs.YtindiedfioiejaaDoor.AI
open Go
set_option linter.unusedSimpArgs false
set_option linter.unusedVariables false
variable {ov : AOver} {h : AH}
theorem rtruth_spec (H : Plain ov) (n : Nat) (b : Bool) : kc ov (n + 1) N_rungref17_truth [.bool b] h = some (.int .i64 (tr b), h) := by
  rw [C_rungref17_truth H]; unfold F_rungref17_truth; cases b <;> rfl
theorem rsince_spec (H : Plain ov) (n : Nat) (w : Wf h) (a b : Int) : Wp (kc ov (n + 5) N_rungref17_since [.int .i64 a, .int .i64 b] h) fun r h' => Kp h h' ∧ r = .int .i64 (sinceM a b) := by
  rw [C_rungref17_since H]; unfold F_rungref17_since
  (try simp -dsimp (disch := omega) only [↓pre, sp, sp2, wp_some, Int.cast_ofNat_Int, Nat.reduceAdd, Nat.reduceMul, Nat.reduceSub, Nat.reduceLeDiff, Nat.reduceEqDiff, Nat.reducePow, Int.reduceToNat, Int.reducePow, Int.reduceAdd, Int.reduceSub, Int.reduceMul, Int.reduceLT, Int.reduceLE, Int.reduceEq, Int.reduceNeg, sp5])
  refine Wp.bind (rwrap_spec H n w 4 _ (wrap_I64 _)) fun v h1 ⟨k1, e⟩ => ?_
  subst e
  (try simp -dsimp (disch := omega) only [↓pre, sp, sp2, wp_some, Int.cast_ofNat_Int, Nat.reduceAdd, Nat.reduceMul, Nat.reduceSub, Nat.reduceLeDiff, Nat.reduceEqDiff, Nat.reducePow, Int.reduceToNat, Int.reducePow, Int.reduceAdd, Int.reduceSub, Int.reduceMul, Int.reduceLT, Int.reduceLE, Int.reduceEq, Int.reduceNeg])
  exact ⟨k1, rfl⟩
/-- So many numbers of a list. -/
def padL (l : List Int) (n : Nat) : List Int := (List.range n).map fun i => gi l i
theorem padL_len (l : List Int) (n : Nat) : (padL l n).length = n := by simp [padL]
theorem padL_at (l : List Int) {n i : Nat} (hi : i < n) : (padL l n).getD i 0 = gi l i := by simp [padL, hi]
theorem padL_eq (l : List Int) (n : Nat) : padL l n = l.take n ++ List.replicate (n - l.length) 0 := by
  apply List.ext_getElem
  · simp [padL]; omega
  · intro i h1 h2
    simp only [padL, List.getElem_map, List.getElem_range, gi, List.getD_eq_getElem?_getD, List.getElem_append, List.length_take, List.getElem_take, List.getElem_replicate]
    split
    · rename_i c
      rw [List.getElem?_eq_getElem (by omega)]; rfl
    · rename_i c
      simp only [padL_len] at h1
      rw [List.getElem?_eq_none (by omega)]; rfl
theorem pad_spec (H : Plain ov) (n : Nat) (w : Wf h) {x : AVal} {l : List Int} {md : AMode} (hx : Si h x l md) {k : Nat} (hk : k ≤ 100) :
    Wp (kc ov (n + 1) N_rungref17_pad [x, .int .i64 k] h) fun r h' => Kp h h' ∧ Oi h' r (padL l k) ∧ Fresh h r := by
  rw [C_rungref17_pad H]; unfold F_rungref17_pad
  (try simp -dsimp (disch := omega) only [↓pre, sp, sp2, wp_some, Int.cast_ofNat_Int, Nat.reduceAdd, Nat.reduceMul, Nat.reduceSub, Nat.reduceLeDiff, Nat.reduceEqDiff, Nat.reducePow, Int.reduceToNat, Int.reducePow, Int.reduceAdd, Int.reduceSub, Int.reduceMul, Int.reduceLT, Int.reduceLE, Int.reduceEq, Int.reduceNeg])
  refine wp_makeSl w (by omega) (by omega) (by omega) (by omega) rfl (by omega) rfl fun q h1 hq k1 n1 g1 => ?_
  have em : manyT (k : Int).toNat [.int .i64 0] = i64s (List.replicate k 0) := by simp [manyT, i64s]
  rw [em] at g1
  have o1 : Ow h1 (.slice (some (q, 0, 1)) (k : Int).toNat (k : Int).toNat) T_int64 1 k (i64s (List.replicate k 0)) := by
    rw [Int.toNat_natCast]; exact Ow.new g1 (by omega) k (by simp [i64s]) (i64s_cells _)
  (try simp -dsimp (disch := omega) only [↓pre, sp, sp2, wp_some, Int.cast_ofNat_Int, Nat.reduceAdd, Nat.reduceMul, Nat.reduceSub, Nat.reduceLeDiff, Nat.reduceEqDiff, Nat.reducePow, Int.reduceToNat, Int.reducePow, Int.reduceAdd, Int.reduceSub, Int.reduceMul, Int.reduceLT, Int.reduceLE, Int.reduceEq, Int.reduceNeg])
  refine wp_copyOw k1.w' o1 (.inl ⟨rfl, rfl⟩) (hx.kp k1) (i64s_cells _) fun h2 o2 k2 n2 => ?_
  (try simp -dsimp (disch := omega) only [↓pre, sp, sp2, wp_some, Int.cast_ofNat_Int, Nat.reduceAdd, Nat.reduceMul, Nat.reduceSub, Nat.reduceLeDiff, Nat.reduceEqDiff, Nat.reducePow, Int.reduceToNat, Int.reducePow, Int.reduceAdd, Int.reduceSub, Int.reduceMul, Int.reduceLT, Int.reduceLE, Int.reduceEq, Int.reduceNeg])
  refine ⟨Ke.new_p k1 k2 fun i hi => ?_, o2.to ?_ (padL_len l k).symm, fun i hi => ?_⟩
  · simp only [isBk] at hi; omega
  · rw [padL_eq]
    simp only [i64s, List.map_append, List.map_take, List.map_replicate, Nat.mul_one, List.drop_replicate]
    congr 1
    · rcases Nat.le_total l.length k with c | c
      · rw [Nat.min_eq_left c, List.take_of_length_le (by simp), List.take_of_length_le (by simp; omega)]
      · rw [Nat.min_eq_right c]
    · congr 1; omega
  · simp only [isBk] at hi; omega
/-- Where a call of the document's keeps its numbers. -/
structure KSt (h0 h : AH) (q0 q2 : Nat) (k0 k1 k2 : Int) : Prop where
  kp : Kp h0 h
  g0 : h.get q0 = some ⟨.row (k3 k0 k1 k2) T__3_int64 false, .rw, []⟩
  g2 : h.get q2 = some ⟨.row (k3 0 0 0) T__3_int64 false, .rw, []⟩
  n0 : h0.n ≤ q0
  n2 : h0.n ≤ q2
  ne : q2 ≠ q0
variable {h0 : AH} {q0 q2 : Nat} {k0 k1 k2 : Int}
theorem KSt.w (s : KSt h0 h q0 q2 k0 k1 k2) : Wf h := s.kp.w'
theorem KSt.to {h' : AH} (s : KSt h0 h q0 q2 k0 k1 k2) (k : Kp h h') : KSt h0 h' q0 q2 k0 k1 k2 := ⟨s.kp.trans k, k.gt s.g0, k.gt s.g2, s.n0, s.n2, s.ne⟩
theorem KSt.ld (s : KSt h0 h q0 q2 k0 k1 k2) : rLoad (.ptr (some (q0, 0))) h = some (.int .i64 k0) ∧ rLoad (.ptr (some (q0, 1))) h = some (.int .i64 k1) ∧ rLoad (.ptr (some (q0, 2))) h = some (.int .i64 k2) ∧ rLoadA 3 (.ptr (some (q0, 0))) h = some (.agg (k3 k0 k1 k2)) := by
  simp only [rLoad_ptr, rLoadA_ptr, row_rw s.g0]
  exact ⟨rfl, rfl, rfl, rfl⟩
theorem wp_k (s : KSt h0 h q0 q2 k0 k1 k2) {Q : AVal → AH → Prop} {K : AVal → AH → Ans} (i : Nat) (hi : i < 3) (x : Int)
    (c : ∀ h1, Ke (· = q0) h h1 → h1.n = h.n → KSt h0 h1 q0 q2 (if i = 0 then x else k0) (if i = 1 then x else k1) (if i = 2 then x else k2) → Wp (K (.tuple []) h1) Q) :
    Wp (ke ((rStore 1 (.ptr (some (q0, i))) (.int .i64 x) h).map fun h' => (.tuple [], h')) K) Q := by
  refine wp_store s.w s.g0 rfl rfl (by simp [k3]; omega) rfl fun h1 e1 n1 g1 => c h1 e1 n1 ⟨Ke.new_p s.kp e1 fun j hj => by subst hj; exact s.n0, ?_, e1.gt s.g2 s.ne, s.n0, s.n2, s.ne⟩
  rw [g1]
  rcases (by omega : i = 0 ∨ i = 1 ∨ i = 2) with rfl | rfl | rfl <;> rfl
theorem wp_k0 (s : KSt h0 h q0 q2 k0 k1 k2) {Q : AVal → AH → Prop} {K : AVal → AH → Ans} (x : Int) (c : ∀ h1, Ke (· = q0) h h1 → h1.n = h.n → KSt h0 h1 q0 q2 x k1 k2 → Wp (K (.tuple []) h1) Q) :
    Wp (ke ((rStore 1 (.ptr (some (q0, 0))) (.int .i64 x) h).map fun h' => (.tuple [], h')) K) Q := wp_k s 0 (by omega) x c
theorem wp_k1 (s : KSt h0 h q0 q2 k0 k1 k2) {Q : AVal → AH → Prop} {K : AVal → AH → Ans} (x : Int) (c : ∀ h1, Ke (· = q0) h h1 → h1.n = h.n → KSt h0 h1 q0 q2 k0 x k2 → Wp (K (.tuple []) h1) Q) :
    Wp (ke ((rStore 1 (.ptr (some (q0, 1))) (.int .i64 x) h).map fun h' => (.tuple [], h')) K) Q := wp_k s 1 (by omega) x c
theorem wp_k2 (s : KSt h0 h q0 q2 k0 k1 k2) {Q : AVal → AH → Prop} {K : AVal → AH → Ans} (x : Int) (c : ∀ h1, Ke (· = q0) h h1 → h1.n = h.n → KSt h0 h1 q0 q2 k0 k1 x → Wp (K (.tuple []) h1) Q) :
    Wp (ke ((rStore 1 (.ptr (some (q0, 2))) (.int .i64 x) h).map fun h' => (.tuple [], h')) K) Q := wp_k s 2 (by omega) x c
/-- The result's own copy of what is kept. -/
theorem wp_kEnd (s : KSt h0 h q0 q2 k0 k1 k2) {v : AVal} {l : List Int} (o : Oi h v l) (f : Fresh h0 v) (nb : ¬ isBk v q2) {Q : AVal → AH → Prop} {K : AVal → AH → Ans}
    (c : ∀ h1, rLoadA 3 (.ptr (some (q2, 0))) h1 = some (.agg (k3 k0 k1 k2)) → ToldQ h0 ⟨l, k0, k1, k2⟩ (.tuple [v, .agg (k3 k0 k1 k2)]) h1 → Wp (K (.tuple []) h1) Q) :
    Wp (ke ((rStore 3 (.ptr (some (q2, 0))) (.agg (k3 k0 k1 k2)) h).map fun h' => (.tuple [], h')) K) Q := by
  refine wp_store (vs := k3 k0 k1 k2) s.w s.g2 rfl rfl (by simp [k3]) rfl fun h1 e1 n1 g1 => c h1 ?_ ⟨Ke.new_p s.kp e1 fun j hj => by subst hj; exact s.n2, v, rfl, ?_, f⟩
  · rw [rLoadA_ptr, row_rw g1]; rfl
  · exact o.ke e1 fun i hi e => by subst e; exact nb hi
/-- What holds when a timer's case is done. -/
def RT (h0 : AH) (q0 q2 : Nat) (c0 : Int) (t : Told) (a : Bool) (l : List AVal) (h' : AH) : Prop :=
  ∃ (q : Bool) (et c1 c2 : Int), l = [.bool q, .int .i64 et] ∧ KSt h0 h' q0 q2 c0 c1 c2 ∧ t = ⟨[tr q, et], tr a, c1, c2⟩
theorem timer_spec (H : Plain ov) (n : Nat) (w : Wf h) (b : Bl) (hb : isTm b) {a : Bool} {pt now : Int} {x : AVal} {lo : List Int} {md : AMode} (hx : Si h x lo md) (hl : 2 ≤ lo.length) (io : I64 (gi lo 1)) :
    Wp (kc ov (n + 6) N_rungref17_timer [.str b.nm, .bool a, .int .i64 pt, .agg (k3 k0 k1 k2), x, .int .i64 now] h) (ToldQ h (timerM b a pt k0 k1 k2 (gi lo 0) (gi lo 1) now)) := by
  rw [C_rungref17_timer H]; unfold F_rungref17_timer
  refine wp_box w rfl rfl fun q0 h1 e0 K1 n1 g0 => ?_
  (try simp -dsimp (disch := omega) only [↓pre, sp, sp2, wp_some, Int.cast_ofNat_Int, Nat.reduceAdd, Nat.reduceMul, Nat.reduceSub, Nat.reduceLeDiff, Nat.reduceEqDiff, Nat.reducePow, Int.reduceToNat, Int.reducePow, Int.reduceAdd, Int.reduceSub, Int.reduceMul, Int.reduceLT, Int.reduceLE, Int.reduceEq, Int.reduceNeg])
  refine wp_box K1.w' rfl rfl fun q2 h2 e2 K2 n2 g2 => ?_
  have s2 : KSt h h2 q0 q2 k0 k1 k2 := ⟨K1.trans K2, K2.gt g0, g2, by omega, by omega, by omega⟩
  have hx2 : Si h2 x lo md := hx.kp s2.kp
  have lz : ∀ h', Kp h2 h' → rLoad (ea x 0) h' = some (.int .i64 (gi lo 0)) := fun h' k => (show Si h' x lo md from hx2.kp k).ldI (by omega)
  have l0 := lz h2 (Ke.refl s2.w)
  have l1 : rLoad (ea x 1) h2 = some (.int .i64 (gi lo 1)) := hx2.ldI (by omega)
  generalize gi lo 0 = o0 at *
  generalize gi lo 1 = o1 at *
  (try simp -dsimp (disch := omega) only [↓pre, sp, sp2, wp_some, Int.cast_ofNat_Int, Nat.reduceAdd, Nat.reduceMul, Nat.reduceSub, Nat.reduceLeDiff, Nat.reduceEqDiff, Nat.reducePow, Int.reduceToNat, Int.reducePow, Int.reduceAdd, Int.reduceSub, Int.reduceMul, Int.reduceLT, Int.reduceLE, Int.reduceEq, Int.reduceNeg, hx2.at, l0, l1])
  refine Wp.bind (rwrap_spec H (n + 1) s2.w 11 o1 io) fun v h3 ⟨K3, ev⟩ => ?_
  subst ev
  have s3 := s2.to K3
  have l0' := lz h3 K3
  (try simp -dsimp (disch := omega) only [↓pre, sp, sp2, wp_some, Int.cast_ofNat_Int, Nat.reduceAdd, Nat.reduceMul, Nat.reduceSub, Nat.reduceLeDiff, Nat.reduceEqDiff, Nat.reducePow, Int.reduceToNat, Int.reducePow, Int.reduceAdd, Int.reduceSub, Int.reduceMul, Int.reduceLT, Int.reduceLE, Int.reduceEq, Int.reduceNeg, l0'])
  refine wp_kT (.bool (a && decide (k0 = 0))) (fun j hj => ?_) ?_
  · cases a
    · (try simp -dsimp (disch := omega) only [↓pre, sp, sp2, wp_some, Int.cast_ofNat_Int, Nat.reduceAdd, Nat.reduceMul, Nat.reduceSub, Nat.reduceLeDiff, Nat.reduceEqDiff, Nat.reducePow, Int.reduceToNat, Int.reducePow, Int.reduceAdd, Int.reduceSub, Int.reduceMul, Int.reduceLT, Int.reduceLE, Int.reduceEq, Int.reduceNeg, sp5]); exact hj
    · (try simp -dsimp (disch := omega) only [↓pre, sp, sp2, wp_some, Int.cast_ofNat_Int, Nat.reduceAdd, Nat.reduceMul, Nat.reduceSub, Nat.reduceLeDiff, Nat.reduceEqDiff, Nat.reducePow, Int.reduceToNat, Int.reducePow, Int.reduceAdd, Int.reduceSub, Int.reduceMul, Int.reduceLT, Int.reduceLE, Int.reduceEq, Int.reduceNeg, sp5, s3.ld]); exact hj
  (try simp -dsimp (disch := omega) only [↓pre, sp, sp2, wp_some, Int.cast_ofNat_Int, Nat.reduceAdd, Nat.reduceMul, Nat.reduceSub, Nat.reduceLeDiff, Nat.reduceEqDiff, Nat.reducePow, Int.reduceToNat, Int.reducePow, Int.reduceAdd, Int.reduceSub, Int.reduceMul, Int.reduceLT, Int.reduceLE, Int.reduceEq, Int.reduceNeg])
  refine wp_kT (.bool (!a && decide (k0 ≠ 0))) (fun j hj => ?_) ?_
  · cases a
    · (try simp -dsimp (disch := omega) only [↓pre, sp, sp2, wp_some, Int.cast_ofNat_Int, Nat.reduceAdd, Nat.reduceMul, Nat.reduceSub, Nat.reduceLeDiff, Nat.reduceEqDiff, Nat.reducePow, Int.reduceToNat, Int.reducePow, Int.reduceAdd, Int.reduceSub, Int.reduceMul, Int.reduceLT, Int.reduceLE, Int.reduceEq, Int.reduceNeg, sp5, s3.ld]); exact hj
    · (try simp -dsimp (disch := omega) only [↓pre, sp, sp2, wp_some, Int.cast_ofNat_Int, Nat.reduceAdd, Nat.reduceMul, Nat.reduceSub, Nat.reduceLeDiff, Nat.reduceEqDiff, Nat.reducePow, Int.reduceToNat, Int.reducePow, Int.reduceAdd, Int.reduceSub, Int.reduceMul, Int.reduceLT, Int.reduceLE, Int.reduceEq, Int.reduceNeg, sp5]); exact hj
  (try simp -dsimp (disch := omega) only [↓pre, sp, sp2, wp_some, Int.cast_ofNat_Int, Nat.reduceAdd, Nat.reduceMul, Nat.reduceSub, Nat.reduceLeDiff, Nat.reduceEqDiff, Nat.reducePow, Int.reduceToNat, Int.reducePow, Int.reduceAdd, Int.reduceSub, Int.reduceMul, Int.reduceLT, Int.reduceLE, Int.reduceEq, Int.reduceNeg])
  obtain ⟨t, ht⟩ : ∃ t, t = timerM b a pt k0 k1 k2 o0 o1 now := ⟨_, rfl⟩
  rw [← ht]
  refine wp_kJ (RT h q0 q2 k0 t a) (fun j34 hj34 => ?_) ?_
  · (try simp -dsimp (disch := omega) only [↓pre, sp, sp2, wp_some, Int.cast_ofNat_Int, Nat.reduceAdd, Nat.reduceMul, Nat.reduceSub, Nat.reduceLeDiff, Nat.reduceEqDiff, Nat.reducePow, Int.reduceToNat, Int.reducePow, Int.reduceAdd, Int.reduceSub, Int.reduceMul, Int.reduceLT, Int.reduceLE, Int.reduceEq, Int.reduceNeg, ↓eqT b.nm true, bl?_nm])
    refine wp_kJ (RT h q0 q2 k0 t a) (fun j50 hj50 => ?_) ?_
    · skip
      (try simp -dsimp (disch := omega) only [↓pre, sp, sp2, wp_some, Int.cast_ofNat_Int, Nat.reduceAdd, Nat.reduceMul, Nat.reduceSub, Nat.reduceLeDiff, Nat.reduceEqDiff, Nat.reducePow, Int.reduceToNat, Int.reducePow, Int.reduceAdd, Int.reduceSub, Int.reduceMul, Int.reduceLT, Int.reduceLE, Int.reduceEq, Int.reduceNeg, ↓eqT b.nm true, bl?_nm, Option.some.injEq])
      have ea1 : rAtArr 3 1 (.ptr (some (q0, 0))) (.int .i64 1) = some (.ptr (some (q0, 1))) := rfl
      have ea2 : rAtArr 3 1 (.ptr (some (q0, 0))) (.int .i64 2) = some (.ptr (some (q0, 2))) := rfl
      have et1 := fun h b => rtruth_spec (h := h) H (n + 4) b
      refine wp_ite (fun c => ?_) (fun c => ?_)
      · have cb : b = .ton := by simpa [bl?_nm] using c
        subst cb
        simp only [timerM] at ht
        (try simp -dsimp (disch := omega) only [↓pre, sp, sp2, wp_some, Int.cast_ofNat_Int, Nat.reduceAdd, Nat.reduceMul, Nat.reduceSub, Nat.reduceLeDiff, Nat.reduceEqDiff, Nat.reducePow, Int.reduceToNat, Int.reducePow, Int.reduceAdd, Int.reduceSub, Int.reduceMul, Int.reduceLT, Int.reduceLE, Int.reduceEq, Int.reduceNeg])
        refine wp_kJ (fun l h4 => l = [] ∧ KSt h h4 q0 q2 k0 (if (a && decide (k0 = 0)) = true then now else k1) (if (a && decide (k0 = 0)) = true then 0 else k2)) (fun j53 hj53 => ?_) ?_
        · refine wp_kIf (fun c => ?_) (fun c => ?_)
          · rw [c] at hj53
            (try simp -dsimp (disch := omega) only [↓pre, sp, sp2, wp_some, Int.cast_ofNat_Int, Nat.reduceAdd, Nat.reduceMul, Nat.reduceSub, Nat.reduceLeDiff, Nat.reduceEqDiff, Nat.reducePow, Int.reduceToNat, Int.reducePow, Int.reduceAdd, Int.reduceSub, Int.reduceMul, Int.reduceLT, Int.reduceLE, Int.reduceEq, Int.reduceNeg, ea1])
            refine wp_k1 s3 now fun h4 e4 n4 s4 => ?_
            (try simp -dsimp (disch := omega) only [↓pre, sp, sp2, wp_some, Int.cast_ofNat_Int, Nat.reduceAdd, Nat.reduceMul, Nat.reduceSub, Nat.reduceLeDiff, Nat.reduceEqDiff, Nat.reducePow, Int.reduceToNat, Int.reducePow, Int.reduceAdd, Int.reduceSub, Int.reduceMul, Int.reduceLT, Int.reduceLE, Int.reduceEq, Int.reduceNeg, ea2])
            refine wp_k2 s4 0 fun h5 e5 n5 s5 => ?_
            (try simp -dsimp (disch := omega) only [↓pre, sp, sp2, wp_some, Int.cast_ofNat_Int, Nat.reduceAdd, Nat.reduceMul, Nat.reduceSub, Nat.reduceLeDiff, Nat.reduceEqDiff, Nat.reducePow, Int.reduceToNat, Int.reducePow, Int.reduceAdd, Int.reduceSub, Int.reduceMul, Int.reduceLT, Int.reduceLE, Int.reduceEq, Int.reduceNeg])
            exact hj53 _ _ ⟨rfl, s5⟩
          · rw [c] at hj53
            (try simp -dsimp (disch := omega) only [↓pre, sp, sp2, wp_some, Int.cast_ofNat_Int, Nat.reduceAdd, Nat.reduceMul, Nat.reduceSub, Nat.reduceLeDiff, Nat.reduceEqDiff, Nat.reducePow, Int.reduceToNat, Int.reducePow, Int.reduceAdd, Int.reduceSub, Int.reduceMul, Int.reduceLT, Int.reduceLE, Int.reduceEq, Int.reduceNeg])
            exact hj53 _ _ ⟨rfl, s3⟩
        · rintro _ h4 ⟨rfl, s4⟩
          generalize (if (a && decide (k0 = 0)) = true then now else k1) = c1 at *
          generalize (if (a && decide (k0 = 0)) = true then 0 else k2) = c2 at *
          (try simp -dsimp (disch := omega) only [↓pre, sp, sp2, wp_some, Int.cast_ofNat_Int, Nat.reduceAdd, Nat.reduceMul, Nat.reduceSub, Nat.reduceLeDiff, Nat.reduceEqDiff, Nat.reducePow, Int.reduceToNat, Int.reducePow, Int.reduceAdd, Int.reduceSub, Int.reduceMul, Int.reduceLT, Int.reduceLE, Int.reduceEq, Int.reduceNeg])
          refine wp_kJ (RT h q0 q2 k0 t a) (fun j58 hj58 => ?_) ?_
          · cases a
            · (try simp -dsimp (disch := omega) only [↓pre, sp, sp2, wp_some, Int.cast_ofNat_Int, Nat.reduceAdd, Nat.reduceMul, Nat.reduceSub, Nat.reduceLeDiff, Nat.reduceEqDiff, Nat.reducePow, Int.reduceToNat, Int.reducePow, Int.reduceAdd, Int.reduceSub, Int.reduceMul, Int.reduceLT, Int.reduceLE, Int.reduceEq, Int.reduceNeg, ea2])
              refine wp_k2 s4 0 fun h5 e5 n5 s5 => ?_
              (try simp -dsimp (disch := omega) only [↓pre, sp, sp2, wp_some, Int.cast_ofNat_Int, Nat.reduceAdd, Nat.reduceMul, Nat.reduceSub, Nat.reduceLeDiff, Nat.reduceEqDiff, Nat.reducePow, Int.reduceToNat, Int.reducePow, Int.reduceAdd, Int.reduceSub, Int.reduceMul, Int.reduceLT, Int.reduceLE, Int.reduceEq, Int.reduceNeg])
              exact hj58 _ _ ⟨false, 0, c1, 0, rfl, s5, ht⟩
            · (try simp -dsimp (disch := omega) only [↓pre, sp, sp2, wp_some, Int.cast_ofNat_Int, Nat.reduceAdd, Nat.reduceMul, Nat.reduceSub, Nat.reduceLeDiff, Nat.reduceEqDiff, Nat.reducePow, Int.reduceToNat, Int.reducePow, Int.reduceAdd, Int.reduceSub, Int.reduceMul, Int.reduceLT, Int.reduceLE, Int.reduceEq, Int.reduceNeg, ea2, s4.ld])
              refine wp_kJ (RT h q0 q2 k0 t true) (fun j68 hj68 => ?_) ?_
              · (try simp -dsimp (disch := omega) only [↓pre, sp, sp2, wp_some, Int.cast_ofNat_Int, Nat.reduceAdd, Nat.reduceMul, Nat.reduceSub, Nat.reduceLeDiff, Nat.reduceEqDiff, Nat.reducePow, Int.reduceToNat, Int.reducePow, Int.reduceAdd, Int.reduceSub, Int.reduceMul, Int.reduceLT, Int.reduceLE, Int.reduceEq, Int.reduceNeg])
                refine wp_ite (fun d => ?_) (fun d => ?_)
                · (try simp -dsimp (disch := omega) only [↓pre, sp, sp2, wp_some, Int.cast_ofNat_Int, Nat.reduceAdd, Nat.reduceMul, Nat.reduceSub, Nat.reduceLeDiff, Nat.reduceEqDiff, Nat.reducePow, Int.reduceToNat, Int.reducePow, Int.reduceAdd, Int.reduceSub, Int.reduceMul, Int.reduceLT, Int.reduceLE, Int.reduceEq, Int.reduceNeg])
                  simp only [d, if_true] at ht
                  refine hj68 _ _ ⟨true, pt, c1, c2, rfl, s4, ?_⟩
                  rw [ht, d]; rfl
                · (try simp -dsimp (disch := omega) only [↓pre, sp, sp2, wp_some, Int.cast_ofNat_Int, Nat.reduceAdd, Nat.reduceMul, Nat.reduceSub, Nat.reduceLeDiff, Nat.reduceEqDiff, Nat.reducePow, Int.reduceToNat, Int.reducePow, Int.reduceAdd, Int.reduceSub, Int.reduceMul, Int.reduceLT, Int.reduceLE, Int.reduceEq, Int.reduceNeg, ea1, s4.ld])
                  refine Wp.bind (rsince_spec H n s4.w now c1) fun v h5 ⟨K5, ev⟩ => ?_
                  subst ev
                  (try simp -dsimp (disch := omega) only [↓pre, sp, sp2, wp_some, Int.cast_ofNat_Int, Nat.reduceAdd, Nat.reduceMul, Nat.reduceSub, Nat.reduceLeDiff, Nat.reduceEqDiff, Nat.reducePow, Int.reduceToNat, Int.reducePow, Int.reduceAdd, Int.reduceSub, Int.reduceMul, Int.reduceLT, Int.reduceLE, Int.reduceEq, Int.reduceNeg, et1, ea2])
                  refine wp_k2 (s4.to K5) _ fun h6 e6 n6 s6 => ?_
                  (try simp -dsimp (disch := omega) only [↓pre, sp, sp2, wp_some, Int.cast_ofNat_Int, Nat.reduceAdd, Nat.reduceMul, Nat.reduceSub, Nat.reduceLeDiff, Nat.reduceEqDiff, Nat.reducePow, Int.reduceToNat, Int.reducePow, Int.reduceAdd, Int.reduceSub, Int.reduceMul, Int.reduceLT, Int.reduceLE, Int.reduceEq, Int.reduceNeg])
                  simp only [d, if_true, if_false] at ht
                  exact hj68 _ _ ⟨_, _, c1, _, rfl, s6, ht⟩
              · rintro l h5 ⟨q, et, c3, c4, rfl, s5, e5⟩
                (try simp -dsimp (disch := omega) only [↓pre, sp, sp2, wp_some, Int.cast_ofNat_Int, Nat.reduceAdd, Nat.reduceMul, Nat.reduceSub, Nat.reduceLeDiff, Nat.reduceEqDiff, Nat.reducePow, Int.reduceToNat, Int.reducePow, Int.reduceAdd, Int.reduceSub, Int.reduceMul, Int.reduceLT, Int.reduceLE, Int.reduceEq, Int.reduceNeg])
                exact hj58 _ _ ⟨q, et, c3, c4, rfl, s5, e5⟩
          · rintro l h5 ⟨q, et, c3, c4, rfl, s5, e5⟩
            (try simp -dsimp (disch := omega) only [↓pre, sp, sp2, wp_some, Int.cast_ofNat_Int, Nat.reduceAdd, Nat.reduceMul, Nat.reduceSub, Nat.reduceLeDiff, Nat.reduceEqDiff, Nat.reducePow, Int.reduceToNat, Int.reducePow, Int.reduceAdd, Int.reduceSub, Int.reduceMul, Int.reduceLT, Int.reduceLE, Int.reduceEq, Int.reduceNeg])
            exact hj50 _ _ ⟨q, et, c3, c4, rfl, s5, e5⟩
      (try simp -dsimp (disch := omega) only [↓pre, sp, sp2, wp_some, Int.cast_ofNat_Int, Nat.reduceAdd, Nat.reduceMul, Nat.reduceSub, Nat.reduceLeDiff, Nat.reduceEqDiff, Nat.reducePow, Int.reduceToNat, Int.reducePow, Int.reduceAdd, Int.reduceSub, Int.reduceMul, Int.reduceLT, Int.reduceLE, Int.reduceEq, Int.reduceNeg, ↓eqT b.nm true, bl?_nm])
      refine wp_kJ (RT h q0 q2 k0 t a) (fun j95 hj95 => ?_) ?_
      · (try simp -dsimp (disch := omega) only [↓pre, sp, sp2, wp_some, Int.cast_ofNat_Int, Nat.reduceAdd, Nat.reduceMul, Nat.reduceSub, Nat.reduceLeDiff, Nat.reduceEqDiff, Nat.reducePow, Int.reduceToNat, Int.reducePow, Int.reduceAdd, Int.reduceSub, Int.reduceMul, Int.reduceLT, Int.reduceLE, Int.reduceEq, Int.reduceNeg, ↓eqT b.nm true, bl?_nm, Option.some.injEq])
        refine wp_ite (fun c => ?_) (fun c => ?_)
        · have cb : b = .tof := by simpa [bl?_nm] using c
          subst cb
          simp only [timerM] at ht
          (try simp -dsimp (disch := omega) only [↓pre, sp, sp2, wp_some, Int.cast_ofNat_Int, Nat.reduceAdd, Nat.reduceMul, Nat.reduceSub, Nat.reduceLeDiff, Nat.reduceEqDiff, Nat.reducePow, Int.reduceToNat, Int.reducePow, Int.reduceAdd, Int.reduceSub, Int.reduceMul, Int.reduceLT, Int.reduceLE, Int.reduceEq, Int.reduceNeg])
          generalize (!a && decide (k0 ≠ 0)) = fl at *
          refine wp_kIf (fun ca => ?_) (fun ca => ?_)
          · subst ca
            (try simp -dsimp (disch := omega) only [↓pre, sp, sp2, wp_some, Int.cast_ofNat_Int, Nat.reduceAdd, Nat.reduceMul, Nat.reduceSub, Nat.reduceLeDiff, Nat.reduceEqDiff, Nat.reducePow, Int.reduceToNat, Int.reducePow, Int.reduceAdd, Int.reduceSub, Int.reduceMul, Int.reduceLT, Int.reduceLE, Int.reduceEq, Int.reduceNeg, ea2])
            refine wp_k2 s3 0 fun h5 e5 n5 s5 => ?_
            (try simp -dsimp (disch := omega) only [↓pre, sp, sp2, wp_some, Int.cast_ofNat_Int, Nat.reduceAdd, Nat.reduceMul, Nat.reduceSub, Nat.reduceLeDiff, Nat.reduceEqDiff, Nat.reducePow, Int.reduceToNat, Int.reducePow, Int.reduceAdd, Int.reduceSub, Int.reduceMul, Int.reduceLT, Int.reduceLE, Int.reduceEq, Int.reduceNeg])
            exact hj34 _ _ ⟨true, 0, k1, 0, rfl, s5, ht⟩
          · subst ca
            (try simp -dsimp (disch := omega) only [↓pre, sp, sp2, wp_some, Int.cast_ofNat_Int, Nat.reduceAdd, Nat.reduceMul, Nat.reduceSub, Nat.reduceLeDiff, Nat.reduceEqDiff, Nat.reducePow, Int.reduceToNat, Int.reducePow, Int.reduceAdd, Int.reduceSub, Int.reduceMul, Int.reduceLT, Int.reduceLE, Int.reduceEq, Int.reduceNeg])
            simp only [Bool.false_eq_true, if_false] at ht
            refine wp_kJ (fun l h4 => l = [] ∧ KSt h h4 q0 q2 k0 (if fl = true then now else k1) (if fl = true then 1 else k2)) (fun j103 hj103 => ?_) ?_
            · refine wp_kIf (fun c => ?_) (fun c => ?_)
              · rw [c] at hj103
                (try simp -dsimp (disch := omega) only [↓pre, sp, sp2, wp_some, Int.cast_ofNat_Int, Nat.reduceAdd, Nat.reduceMul, Nat.reduceSub, Nat.reduceLeDiff, Nat.reduceEqDiff, Nat.reducePow, Int.reduceToNat, Int.reducePow, Int.reduceAdd, Int.reduceSub, Int.reduceMul, Int.reduceLT, Int.reduceLE, Int.reduceEq, Int.reduceNeg, ea1])
                refine wp_k1 s3 now fun h4 e4 n4 s4 => ?_
                (try simp -dsimp (disch := omega) only [↓pre, sp, sp2, wp_some, Int.cast_ofNat_Int, Nat.reduceAdd, Nat.reduceMul, Nat.reduceSub, Nat.reduceLeDiff, Nat.reduceEqDiff, Nat.reducePow, Int.reduceToNat, Int.reducePow, Int.reduceAdd, Int.reduceSub, Int.reduceMul, Int.reduceLT, Int.reduceLE, Int.reduceEq, Int.reduceNeg, ea2])
                refine wp_k2 s4 1 fun h5 e5 n5 s5 => ?_
                (try simp -dsimp (disch := omega) only [↓pre, sp, sp2, wp_some, Int.cast_ofNat_Int, Nat.reduceAdd, Nat.reduceMul, Nat.reduceSub, Nat.reduceLeDiff, Nat.reduceEqDiff, Nat.reducePow, Int.reduceToNat, Int.reducePow, Int.reduceAdd, Int.reduceSub, Int.reduceMul, Int.reduceLT, Int.reduceLE, Int.reduceEq, Int.reduceNeg])
                exact hj103 _ _ ⟨rfl, s5⟩
              · rw [c] at hj103
                (try simp -dsimp (disch := omega) only [↓pre, sp, sp2, wp_some, Int.cast_ofNat_Int, Nat.reduceAdd, Nat.reduceMul, Nat.reduceSub, Nat.reduceLeDiff, Nat.reduceEqDiff, Nat.reducePow, Int.reduceToNat, Int.reducePow, Int.reduceAdd, Int.reduceSub, Int.reduceMul, Int.reduceLT, Int.reduceLE, Int.reduceEq, Int.reduceNeg])
                exact hj103 _ _ ⟨rfl, s3⟩
            · rintro _ h4 ⟨rfl, s4⟩
              generalize (if fl = true then now else k1) = c1 at *
              generalize (if fl = true then 1 else k2) = c2 at *
              (try simp -dsimp (disch := omega) only [↓pre, sp, sp2, wp_some, Int.cast_ofNat_Int, Nat.reduceAdd, Nat.reduceMul, Nat.reduceSub, Nat.reduceLeDiff, Nat.reduceEqDiff, Nat.reducePow, Int.reduceToNat, Int.reducePow, Int.reduceAdd, Int.reduceSub, Int.reduceMul, Int.reduceLT, Int.reduceLE, Int.reduceEq, Int.reduceNeg, ea2, s4.ld])
              refine wp_kJ (RT h q0 q2 k0 t false) (fun j109 hj109 => ?_) ?_
              · (try simp -dsimp (disch := omega) only [↓pre, sp, sp2, wp_some, Int.cast_ofNat_Int, Nat.reduceAdd, Nat.reduceMul, Nat.reduceSub, Nat.reduceLeDiff, Nat.reduceEqDiff, Nat.reducePow, Int.reduceToNat, Int.reducePow, Int.reduceAdd, Int.reduceSub, Int.reduceMul, Int.reduceLT, Int.reduceLE, Int.reduceEq, Int.reduceNeg])
                refine wp_ite (fun d => ?_) (fun d => ?_)
                · (try simp -dsimp (disch := omega) only [↓pre, sp, sp2, wp_some, Int.cast_ofNat_Int, Nat.reduceAdd, Nat.reduceMul, Nat.reduceSub, Nat.reduceLeDiff, Nat.reduceEqDiff, Nat.reducePow, Int.reduceToNat, Int.reducePow, Int.reduceAdd, Int.reduceSub, Int.reduceMul, Int.reduceLT, Int.reduceLE, Int.reduceEq, Int.reduceNeg, ea1, s4.ld])
                  simp only [ne_eq, d, not_false_eq_true, if_true] at ht
                  refine Wp.bind (rsince_spec H n s4.w now c1) fun v h5 ⟨K5, ev⟩ => ?_
                  subst ev
                  (try simp -dsimp (disch := omega) only [↓pre, sp, sp2, wp_some, Int.cast_ofNat_Int, Nat.reduceAdd, Nat.reduceMul, Nat.reduceSub, Nat.reduceLeDiff, Nat.reduceEqDiff, Nat.reducePow, Int.reduceToNat, Int.reducePow, Int.reduceAdd, Int.reduceSub, Int.reduceMul, Int.reduceLT, Int.reduceLE, Int.reduceEq, Int.reduceNeg])
                  refine wp_kJ (fun l h6 => l = [] ∧ KSt h h6 q0 q2 k0 c1 (if min (sinceM now c1) pt < pt then c2 else 0)) (fun j124 hj124 => ?_) ?_
                  · refine wp_kIf (fun e => ?_) (fun e => ?_)
                    · have e' : ¬ min (sinceM now c1) pt < pt := by simpa using e
                      rw [if_neg e'] at hj124
                      (try simp -dsimp (disch := omega) only [↓pre, sp, sp2, wp_some, Int.cast_ofNat_Int, Nat.reduceAdd, Nat.reduceMul, Nat.reduceSub, Nat.reduceLeDiff, Nat.reduceEqDiff, Nat.reducePow, Int.reduceToNat, Int.reducePow, Int.reduceAdd, Int.reduceSub, Int.reduceMul, Int.reduceLT, Int.reduceLE, Int.reduceEq, Int.reduceNeg, ea2])
                      refine wp_k2 (s4.to K5) 0 fun h6 e6 n6 s6 => ?_
                      (try simp -dsimp (disch := omega) only [↓pre, sp, sp2, wp_some, Int.cast_ofNat_Int, Nat.reduceAdd, Nat.reduceMul, Nat.reduceSub, Nat.reduceLeDiff, Nat.reduceEqDiff, Nat.reducePow, Int.reduceToNat, Int.reducePow, Int.reduceAdd, Int.reduceSub, Int.reduceMul, Int.reduceLT, Int.reduceLE, Int.reduceEq, Int.reduceNeg])
                      exact hj124 _ _ ⟨rfl, s6⟩
                    · have e' : min (sinceM now c1) pt < pt := by simpa using e
                      rw [if_pos e'] at hj124
                      (try simp -dsimp (disch := omega) only [↓pre, sp, sp2, wp_some, Int.cast_ofNat_Int, Nat.reduceAdd, Nat.reduceMul, Nat.reduceSub, Nat.reduceLeDiff, Nat.reduceEqDiff, Nat.reducePow, Int.reduceToNat, Int.reducePow, Int.reduceAdd, Int.reduceSub, Int.reduceMul, Int.reduceLT, Int.reduceLE, Int.reduceEq, Int.reduceNeg])
                      exact hj124 _ _ ⟨rfl, s4.to K5⟩
                  · rintro _ h6 ⟨rfl, s6⟩
                    (try simp -dsimp (disch := omega) only [↓pre, sp, sp2, wp_some, Int.cast_ofNat_Int, Nat.reduceAdd, Nat.reduceMul, Nat.reduceSub, Nat.reduceLeDiff, Nat.reduceEqDiff, Nat.reducePow, Int.reduceToNat, Int.reducePow, Int.reduceAdd, Int.reduceSub, Int.reduceMul, Int.reduceLT, Int.reduceLE, Int.reduceEq, Int.reduceNeg])
                    exact hj109 _ _ ⟨_, _, c1, _, rfl, s6, ht⟩
                · have d' : c2 = 0 := by simpa using d
                  subst d'
                  simp only [ne_eq, not_true, if_false] at ht
                  (try simp -dsimp (disch := omega) only [↓pre, sp, sp2, wp_some, Int.cast_ofNat_Int, Nat.reduceAdd, Nat.reduceMul, Nat.reduceSub, Nat.reduceLeDiff, Nat.reduceEqDiff, Nat.reducePow, Int.reduceToNat, Int.reducePow, Int.reduceAdd, Int.reduceSub, Int.reduceMul, Int.reduceLT, Int.reduceLE, Int.reduceEq, Int.reduceNeg])
                  exact hj109 _ _ ⟨false, _, c1, 0, rfl, s4, ht⟩
              · rintro l h5 ⟨q, et, c3, c4, rfl, s5, e5⟩
                (try simp -dsimp (disch := omega) only [↓pre, sp, sp2, wp_some, Int.cast_ofNat_Int, Nat.reduceAdd, Nat.reduceMul, Nat.reduceSub, Nat.reduceLeDiff, Nat.reduceEqDiff, Nat.reducePow, Int.reduceToNat, Int.reducePow, Int.reduceAdd, Int.reduceSub, Int.reduceMul, Int.reduceLT, Int.reduceLE, Int.reduceEq, Int.reduceNeg])
                exact hj95 _ _ ⟨q, et, c3, c4, rfl, s5, e5⟩
        (try simp -dsimp (disch := omega) only [↓pre, sp, sp2, wp_some, Int.cast_ofNat_Int, Nat.reduceAdd, Nat.reduceMul, Nat.reduceSub, Nat.reduceLeDiff, Nat.reduceEqDiff, Nat.reducePow, Int.reduceToNat, Int.reducePow, Int.reduceAdd, Int.reduceSub, Int.reduceMul, Int.reduceLT, Int.reduceLE, Int.reduceEq, Int.reduceNeg, ↓eqT b.nm true, bl?_nm])
        refine wp_kJ (RT h q0 q2 k0 t a) (fun j135 hj135 => ?_) ?_
        · (try simp -dsimp (disch := omega) only [↓pre, sp, sp2, wp_some, Int.cast_ofNat_Int, Nat.reduceAdd, Nat.reduceMul, Nat.reduceSub, Nat.reduceLeDiff, Nat.reduceEqDiff, Nat.reducePow, Int.reduceToNat, Int.reducePow, Int.reduceAdd, Int.reduceSub, Int.reduceMul, Int.reduceLT, Int.reduceLE, Int.reduceEq, Int.reduceNeg, ↓eqT b.nm true, bl?_nm, Option.some.injEq])
          refine wp_ite (fun c => ?_) (fun c => ?_)
          · have cb : b = .tp := by simpa [bl?_nm] using c
            subst cb
            simp only [timerM] at ht
            (try simp -dsimp (disch := omega) only [↓pre, sp, sp2, wp_some, Int.cast_ofNat_Int, Nat.reduceAdd, Nat.reduceMul, Nat.reduceSub, Nat.reduceLeDiff, Nat.reduceEqDiff, Nat.reducePow, Int.reduceToNat, Int.reducePow, Int.reduceAdd, Int.reduceSub, Int.reduceMul, Int.reduceLT, Int.reduceLE, Int.reduceEq, Int.reduceNeg, ea2, s3.ld])
            generalize (a && decide (k0 = 0)) = e at *
            refine wp_kT (.bool (decide (k2 ≠ 1) && e)) (fun j hj => ?_) ?_
            · generalize decide (k2 ≠ 1) = f at *
              cases f
              · (try simp -dsimp (disch := omega) only [↓pre, sp, sp2, wp_some, Int.cast_ofNat_Int, Nat.reduceAdd, Nat.reduceMul, Nat.reduceSub, Nat.reduceLeDiff, Nat.reduceEqDiff, Nat.reducePow, Int.reduceToNat, Int.reducePow, Int.reduceAdd, Int.reduceSub, Int.reduceMul, Int.reduceLT, Int.reduceLE, Int.reduceEq, Int.reduceNeg]); exact hj
              · (try simp -dsimp (disch := omega) only [↓pre, sp, sp2, wp_some, Int.cast_ofNat_Int, Nat.reduceAdd, Nat.reduceMul, Nat.reduceSub, Nat.reduceLeDiff, Nat.reduceEqDiff, Nat.reducePow, Int.reduceToNat, Int.reducePow, Int.reduceAdd, Int.reduceSub, Int.reduceMul, Int.reduceLT, Int.reduceLE, Int.reduceEq, Int.reduceNeg]); exact hj
            (try simp -dsimp (disch := omega) only [↓pre, sp, sp2, wp_some, Int.cast_ofNat_Int, Nat.reduceAdd, Nat.reduceMul, Nat.reduceSub, Nat.reduceLeDiff, Nat.reduceEqDiff, Nat.reducePow, Int.reduceToNat, Int.reducePow, Int.reduceAdd, Int.reduceSub, Int.reduceMul, Int.reduceLT, Int.reduceLE, Int.reduceEq, Int.reduceNeg])
            refine wp_kJ (fun l h4 => l = [] ∧ KSt h h4 q0 q2 k0 (if (decide (k2 ≠ 1) && e) = true then now else k1) (if (decide (k2 ≠ 1) && e) = true then 1 else k2)) (fun j145 hj145 => ?_) ?_
            · refine wp_kIf (fun c => ?_) (fun c => ?_)
              · rw [c] at hj145
                (try simp -dsimp (disch := omega) only [↓pre, sp, sp2, wp_some, Int.cast_ofNat_Int, Nat.reduceAdd, Nat.reduceMul, Nat.reduceSub, Nat.reduceLeDiff, Nat.reduceEqDiff, Nat.reducePow, Int.reduceToNat, Int.reducePow, Int.reduceAdd, Int.reduceSub, Int.reduceMul, Int.reduceLT, Int.reduceLE, Int.reduceEq, Int.reduceNeg, ea1])
                refine wp_k1 s3 now fun h4 e4 n4 s4 => ?_
                (try simp -dsimp (disch := omega) only [↓pre, sp, sp2, wp_some, Int.cast_ofNat_Int, Nat.reduceAdd, Nat.reduceMul, Nat.reduceSub, Nat.reduceLeDiff, Nat.reduceEqDiff, Nat.reducePow, Int.reduceToNat, Int.reducePow, Int.reduceAdd, Int.reduceSub, Int.reduceMul, Int.reduceLT, Int.reduceLE, Int.reduceEq, Int.reduceNeg, ea2])
                refine wp_k2 s4 1 fun h5 e5 n5 s5 => ?_
                (try simp -dsimp (disch := omega) only [↓pre, sp, sp2, wp_some, Int.cast_ofNat_Int, Nat.reduceAdd, Nat.reduceMul, Nat.reduceSub, Nat.reduceLeDiff, Nat.reduceEqDiff, Nat.reducePow, Int.reduceToNat, Int.reducePow, Int.reduceAdd, Int.reduceSub, Int.reduceMul, Int.reduceLT, Int.reduceLE, Int.reduceEq, Int.reduceNeg])
                exact hj145 _ _ ⟨rfl, s5⟩
              · rw [c] at hj145
                (try simp -dsimp (disch := omega) only [↓pre, sp, sp2, wp_some, Int.cast_ofNat_Int, Nat.reduceAdd, Nat.reduceMul, Nat.reduceSub, Nat.reduceLeDiff, Nat.reduceEqDiff, Nat.reducePow, Int.reduceToNat, Int.reducePow, Int.reduceAdd, Int.reduceSub, Int.reduceMul, Int.reduceLT, Int.reduceLE, Int.reduceEq, Int.reduceNeg])
                exact hj145 _ _ ⟨rfl, s3⟩
            · rintro _ h4 ⟨rfl, s4⟩
              generalize (if (decide (k2 ≠ 1) && e) = true then now else k1) = c1 at *
              generalize (if (decide (k2 ≠ 1) && e) = true then 1 else k2) = c2 at *
              (try simp -dsimp (disch := omega) only [↓pre, sp, sp2, wp_some, Int.cast_ofNat_Int, Nat.reduceAdd, Nat.reduceMul, Nat.reduceSub, Nat.reduceLeDiff, Nat.reduceEqDiff, Nat.reducePow, Int.reduceToNat, Int.reducePow, Int.reduceAdd, Int.reduceSub, Int.reduceMul, Int.reduceLT, Int.reduceLE, Int.reduceEq, Int.reduceNeg, ea2, s4.ld])
              obtain ⟨q', hq'⟩ : ∃ q', q' = (decide (c2 = 1) && decide (min (sinceM now c1) pt < pt)) := ⟨_, rfl⟩
              obtain ⟨e', he'⟩ : ∃ e', e' = (if c2 = 1 then min (sinceM now c1) pt else wrapM 11 o1) := ⟨_, rfl⟩
              obtain ⟨d2, hd2⟩ : ∃ d2, d2 = (if c2 = 1 then (if min (sinceM now c1) pt < pt then 1 else 2) else c2) := ⟨_, rfl⟩
              rw [← hq', ← he', ← hd2] at ht
              refine wp_kJ (fun l h5 => l = [.bool q', .int .i64 e'] ∧ KSt h h5 q0 q2 k0 c1 d2) (fun j151 hj151 => ?_) ?_
              · (try simp -dsimp (disch := omega) only [↓pre, sp, sp2, wp_some, Int.cast_ofNat_Int, Nat.reduceAdd, Nat.reduceMul, Nat.reduceSub, Nat.reduceLeDiff, Nat.reduceEqDiff, Nat.reducePow, Int.reduceToNat, Int.reducePow, Int.reduceAdd, Int.reduceSub, Int.reduceMul, Int.reduceLT, Int.reduceLE, Int.reduceEq, Int.reduceNeg])
                refine wp_ite (fun d => ?_) (fun d => ?_)
                · rw [d, if_pos rfl] at he'
                  rw [d, if_pos rfl] at hd2
                  rw [d, decide_eq_true rfl, Bool.true_and] at hq'
                  rw [d] at s4
                  subst he' hq'
                  (try simp -dsimp (disch := omega) only [↓pre, sp, sp2, wp_some, Int.cast_ofNat_Int, Nat.reduceAdd, Nat.reduceMul, Nat.reduceSub, Nat.reduceLeDiff, Nat.reduceEqDiff, Nat.reducePow, Int.reduceToNat, Int.reducePow, Int.reduceAdd, Int.reduceSub, Int.reduceMul, Int.reduceLT, Int.reduceLE, Int.reduceEq, Int.reduceNeg, ea1, s4.ld])
                  refine Wp.bind (rsince_spec H n s4.w now c1) fun v h5 ⟨K5, ev⟩ => ?_
                  subst ev
                  (try simp -dsimp (disch := omega) only [↓pre, sp, sp2, wp_some, Int.cast_ofNat_Int, Nat.reduceAdd, Nat.reduceMul, Nat.reduceSub, Nat.reduceLeDiff, Nat.reduceEqDiff, Nat.reducePow, Int.reduceToNat, Int.reducePow, Int.reduceAdd, Int.reduceSub, Int.reduceMul, Int.reduceLT, Int.reduceLE, Int.reduceEq, Int.reduceNeg])
                  refine wp_kJ (fun l h6 => l = [] ∧ KSt h h6 q0 q2 k0 c1 d2) (fun j180 hj180 => ?_) ?_
                  · refine wp_kIf (fun g => ?_) (fun g => ?_)
                    · have g' : ¬ min (sinceM now c1) pt < pt := by simpa using g
                      rw [if_neg g'] at hd2
                      subst hd2
                      (try simp -dsimp (disch := omega) only [↓pre, sp, sp2, wp_some, Int.cast_ofNat_Int, Nat.reduceAdd, Nat.reduceMul, Nat.reduceSub, Nat.reduceLeDiff, Nat.reduceEqDiff, Nat.reducePow, Int.reduceToNat, Int.reducePow, Int.reduceAdd, Int.reduceSub, Int.reduceMul, Int.reduceLT, Int.reduceLE, Int.reduceEq, Int.reduceNeg, ea2])
                      refine wp_k2 (s4.to K5) 2 fun h6 e6 n6 s6 => ?_
                      (try simp -dsimp (disch := omega) only [↓pre, sp, sp2, wp_some, Int.cast_ofNat_Int, Nat.reduceAdd, Nat.reduceMul, Nat.reduceSub, Nat.reduceLeDiff, Nat.reduceEqDiff, Nat.reducePow, Int.reduceToNat, Int.reducePow, Int.reduceAdd, Int.reduceSub, Int.reduceMul, Int.reduceLT, Int.reduceLE, Int.reduceEq, Int.reduceNeg])
                      exact hj180 _ _ ⟨rfl, s6⟩
                    · have g' : min (sinceM now c1) pt < pt := by simpa using g
                      rw [if_pos g'] at hd2
                      subst hd2
                      (try simp -dsimp (disch := omega) only [↓pre, sp, sp2, wp_some, Int.cast_ofNat_Int, Nat.reduceAdd, Nat.reduceMul, Nat.reduceSub, Nat.reduceLeDiff, Nat.reduceEqDiff, Nat.reducePow, Int.reduceToNat, Int.reducePow, Int.reduceAdd, Int.reduceSub, Int.reduceMul, Int.reduceLT, Int.reduceLE, Int.reduceEq, Int.reduceNeg])
                      exact hj180 _ _ ⟨rfl, s4.to K5⟩
                  · rintro _ h6 ⟨rfl, s6⟩
                    (try simp -dsimp (disch := omega) only [↓pre, sp, sp2, wp_some, Int.cast_ofNat_Int, Nat.reduceAdd, Nat.reduceMul, Nat.reduceSub, Nat.reduceLeDiff, Nat.reduceEqDiff, Nat.reducePow, Int.reduceToNat, Int.reducePow, Int.reduceAdd, Int.reduceSub, Int.reduceMul, Int.reduceLT, Int.reduceLE, Int.reduceEq, Int.reduceNeg])
                    exact hj151 _ _ ⟨rfl, s6⟩
                · rw [if_neg d] at he' hd2
                  rw [decide_eq_false d, Bool.false_and] at hq'
                  subst he' hq' hd2
                  (try simp -dsimp (disch := omega) only [↓pre, sp, sp2, wp_some, Int.cast_ofNat_Int, Nat.reduceAdd, Nat.reduceMul, Nat.reduceSub, Nat.reduceLeDiff, Nat.reduceEqDiff, Nat.reducePow, Int.reduceToNat, Int.reducePow, Int.reduceAdd, Int.reduceSub, Int.reduceMul, Int.reduceLT, Int.reduceLE, Int.reduceEq, Int.reduceNeg])
                  exact hj151 _ _ ⟨rfl, s4⟩
              · rintro _ h5 ⟨rfl, s5⟩
                clear hq' he' hd2 s4
                (try simp -dsimp (disch := omega) only [↓pre, sp, sp2, wp_some, Int.cast_ofNat_Int, Nat.reduceAdd, Nat.reduceMul, Nat.reduceSub, Nat.reduceLeDiff, Nat.reduceEqDiff, Nat.reducePow, Int.reduceToNat, Int.reducePow, Int.reduceAdd, Int.reduceSub, Int.reduceMul, Int.reduceLT, Int.reduceLE, Int.reduceEq, Int.reduceNeg, ea2, s5.ld])
                refine wp_kT (.bool (decide (d2 ≠ 1) && !a)) (fun j hj => ?_) ?_
                · generalize decide (d2 ≠ 1) = f at *
                  cases f
                  · (try simp -dsimp (disch := omega) only [↓pre, sp, sp2, wp_some, Int.cast_ofNat_Int, Nat.reduceAdd, Nat.reduceMul, Nat.reduceSub, Nat.reduceLeDiff, Nat.reduceEqDiff, Nat.reducePow, Int.reduceToNat, Int.reducePow, Int.reduceAdd, Int.reduceSub, Int.reduceMul, Int.reduceLT, Int.reduceLE, Int.reduceEq, Int.reduceNeg]); exact hj
                  · (try simp -dsimp (disch := omega) only [↓pre, sp, sp2, wp_some, Int.cast_ofNat_Int, Nat.reduceAdd, Nat.reduceMul, Nat.reduceSub, Nat.reduceLeDiff, Nat.reduceEqDiff, Nat.reducePow, Int.reduceToNat, Int.reducePow, Int.reduceAdd, Int.reduceSub, Int.reduceMul, Int.reduceLT, Int.reduceLE, Int.reduceEq, Int.reduceNeg]); exact hj
                (try simp -dsimp (disch := omega) only [↓pre, sp, sp2, wp_some, Int.cast_ofNat_Int, Nat.reduceAdd, Nat.reduceMul, Nat.reduceSub, Nat.reduceLeDiff, Nat.reduceEqDiff, Nat.reducePow, Int.reduceToNat, Int.reducePow, Int.reduceAdd, Int.reduceSub, Int.reduceMul, Int.reduceLT, Int.reduceLE, Int.reduceEq, Int.reduceNeg])
                refine wp_kJ (fun l h6 => ∃ et c3, l = [.int .i64 et] ∧ KSt h h6 q0 q2 k0 c1 c3 ∧ t = ⟨[tr q', et], tr a, c1, c3⟩) (fun j162 hj162 => ?_) ?_
                · refine wp_kIf (fun g => ?_) (fun g => ?_)
                  · have g' : d2 ≠ 1 ∧ a = false := by simpa using g
                    rw [if_pos g'] at ht
                    (try simp -dsimp (disch := omega) only [↓pre, sp, sp2, wp_some, Int.cast_ofNat_Int, Nat.reduceAdd, Nat.reduceMul, Nat.reduceSub, Nat.reduceLeDiff, Nat.reduceEqDiff, Nat.reducePow, Int.reduceToNat, Int.reducePow, Int.reduceAdd, Int.reduceSub, Int.reduceMul, Int.reduceLT, Int.reduceLE, Int.reduceEq, Int.reduceNeg, ea2])
                    refine wp_k2 s5 0 fun h6 e6 n6 s6 => ?_
                    (try simp -dsimp (disch := omega) only [↓pre, sp, sp2, wp_some, Int.cast_ofNat_Int, Nat.reduceAdd, Nat.reduceMul, Nat.reduceSub, Nat.reduceLeDiff, Nat.reduceEqDiff, Nat.reducePow, Int.reduceToNat, Int.reducePow, Int.reduceAdd, Int.reduceSub, Int.reduceMul, Int.reduceLT, Int.reduceLE, Int.reduceEq, Int.reduceNeg])
                    exact hj162 _ _ ⟨0, 0, rfl, s6, ht⟩
                  · have g' : ¬ (d2 ≠ 1 ∧ a = false) := by
                      intro h; simp [h.1, h.2] at g
                    rw [if_neg g'] at ht
                    (try simp -dsimp (disch := omega) only [↓pre, sp, sp2, wp_some, Int.cast_ofNat_Int, Nat.reduceAdd, Nat.reduceMul, Nat.reduceSub, Nat.reduceLeDiff, Nat.reduceEqDiff, Nat.reducePow, Int.reduceToNat, Int.reducePow, Int.reduceAdd, Int.reduceSub, Int.reduceMul, Int.reduceLT, Int.reduceLE, Int.reduceEq, Int.reduceNeg])
                    exact hj162 _ _ ⟨e', d2, rfl, s5, ht⟩
                · rintro _ h6 ⟨et, c3, rfl, s6, e6⟩
                  (try simp -dsimp (disch := omega) only [↓pre, sp, sp2, wp_some, Int.cast_ofNat_Int, Nat.reduceAdd, Nat.reduceMul, Nat.reduceSub, Nat.reduceLeDiff, Nat.reduceEqDiff, Nat.reducePow, Int.reduceToNat, Int.reducePow, Int.reduceAdd, Int.reduceSub, Int.reduceMul, Int.reduceLT, Int.reduceLE, Int.reduceEq, Int.reduceNeg])
                  exact hj135 _ _ ⟨q', et, c1, c3, rfl, s6, e6⟩
          · exfalso
            rename_i c1 c2
            cases b <;> first | exact hb.elim | exact c rfl | exact c1 rfl | exact c2 rfl
        · rintro l h5 ⟨q, et, c1, c2, rfl, s5, e5⟩
          (try simp -dsimp (disch := omega) only [↓pre, sp, sp2, wp_some, Int.cast_ofNat_Int, Nat.reduceAdd, Nat.reduceMul, Nat.reduceSub, Nat.reduceLeDiff, Nat.reduceEqDiff, Nat.reducePow, Int.reduceToNat, Int.reducePow, Int.reduceAdd, Int.reduceSub, Int.reduceMul, Int.reduceLT, Int.reduceLE, Int.reduceEq, Int.reduceNeg])
          exact hj95 _ _ ⟨q, et, c1, c2, rfl, s5, e5⟩
      · rintro l h5 ⟨q, et, c1, c2, rfl, s5, e5⟩
        (try simp -dsimp (disch := omega) only [↓pre, sp, sp2, wp_some, Int.cast_ofNat_Int, Nat.reduceAdd, Nat.reduceMul, Nat.reduceSub, Nat.reduceLeDiff, Nat.reduceEqDiff, Nat.reducePow, Int.reduceToNat, Int.reducePow, Int.reduceAdd, Int.reduceSub, Int.reduceMul, Int.reduceLT, Int.reduceLE, Int.reduceEq, Int.reduceNeg])
        exact hj50 _ _ ⟨q, et, c1, c2, rfl, s5, e5⟩
    · rintro l h5 ⟨q, et, c1, c2, rfl, s5, e5⟩
      (try simp -dsimp (disch := omega) only [↓pre, sp, sp2, wp_some, Int.cast_ofNat_Int, Nat.reduceAdd, Nat.reduceMul, Nat.reduceSub, Nat.reduceLeDiff, Nat.reduceEqDiff, Nat.reducePow, Int.reduceToNat, Int.reducePow, Int.reduceAdd, Int.reduceSub, Int.reduceMul, Int.reduceLT, Int.reduceLE, Int.reduceEq, Int.reduceNeg])
      exact hj34 _ _ ⟨q, et, c1, c2, rfl, s5, e5⟩
  · rintro l h5 ⟨q, et, c1, c2, rfl, s5, e5⟩
    have et1 := fun h b => rtruth_spec (h := h) H (n + 4) b
    have ea0 : rAtArr 3 1 (.ptr (some (q0, 0))) (.int .i64 0) = some (.ptr (some (q0, 0))) := rfl
    (try simp -dsimp (disch := omega) only [↓pre, sp, sp2, wp_some, Int.cast_ofNat_Int, Nat.reduceAdd, Nat.reduceMul, Nat.reduceSub, Nat.reduceLeDiff, Nat.reduceEqDiff, Nat.reducePow, Int.reduceToNat, Int.reducePow, Int.reduceAdd, Int.reduceSub, Int.reduceMul, Int.reduceLT, Int.reduceLE, Int.reduceEq, Int.reduceNeg, et1, ea0])
    refine wp_k0 s5 (tr a) fun h6 e6 n6 s6 => ?_
    (try simp -dsimp (disch := omega) only [↓pre, sp, sp2, wp_some, Int.cast_ofNat_Int, Nat.reduceAdd, Nat.reduceMul, Nat.reduceSub, Nat.reduceLeDiff, Nat.reduceEqDiff, Nat.reducePow, Int.reduceToNat, Int.reducePow, Int.reduceAdd, Int.reduceSub, Int.reduceMul, Int.reduceLT, Int.reduceLE, Int.reduceEq, Int.reduceNeg, s6.ld, et1])
    refine wp_buildSl s6.w (by simp) rfl rfl fun q4 h7 hq4 k7 n7 g7 => ?_
    have s7 := s6.to k7
    have o7 : Oi h7 (.slice (some (q4, 0, 1)) 2 2) [tr q, et] := Ow.new g7 (by omega) 2 rfl rfl
    (try simp -dsimp (disch := omega) only [↓pre, sp, sp2, wp_some, Int.cast_ofNat_Int, Nat.reduceAdd, Nat.reduceMul, Nat.reduceSub, Nat.reduceLeDiff, Nat.reduceEqDiff, Nat.reducePow, Int.reduceToNat, Int.reducePow, Int.reduceAdd, Int.reduceSub, Int.reduceMul, Int.reduceLT, Int.reduceLE, Int.reduceEq, Int.reduceNeg, s7.ld])
    have hq2 := s6.w.lt _ _ s6.g2
    have hn6 := s6.kp.n
    refine wp_kEnd s7 o7 (fun i hi => by simp only [isBk] at hi; omega) (fun hi => by simp only [isBk] at hi; omega) fun h8 el q8 => ?_
    (try simp -dsimp (disch := omega) only [↓pre, sp, sp2, wp_some, Int.cast_ofNat_Int, Nat.reduceAdd, Nat.reduceMul, Nat.reduceSub, Nat.reduceLeDiff, Nat.reduceEqDiff, Nat.reducePow, Int.reduceToNat, Int.reducePow, Int.reduceAdd, Int.reduceSub, Int.reduceMul, Int.reduceLT, Int.reduceLE, Int.reduceEq, Int.reduceNeg, el])
    rw [e5]; exact q8
end Go.Proofs.YtindiedfioiejaaDoor.AI
