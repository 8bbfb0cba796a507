/- QueuePlays: what its text comes to. -/
import Derived.Test.YtfppdfmffdkogaaQIntD
namespace Go.Proofs.Ytfppdfmffdkogaa.AI
open Go
set_option linter.unusedSimpArgs false
set_option linter.unusedVariables false
variable {ov : AOver} {h : AH} {v a b : AVal} {md md' : AMode} {p : Nat}

theorem known_spec (K : ov N_runglaw24_known = some knownYes) (n : Nat) : kc ov (n + 1) N_runglaw24_known [] h = some (.bool true, h) := ov_call K []
def iv (z : Int) : AVal := .int .i64 z
theorem iv_cell (zs : List Int) : ∀ y ∈ zs.map iv, y.isCell = true := fun y hy => by
  obtain ⟨z, _, rfl⟩ := List.mem_map.1 hy; rfl
theorem iv_inj {x y : List Int} (h : x.map iv = y.map iv) : x = y := by
  induction x generalizing y with
  | nil => cases y with
    | nil => rfl
    | cons b y => cases h
  | cons a x ih => cases y with
    | nil => cases h
    | cons b y =>
      simp only [List.map_cons, List.cons.injEq, iv, AVal.int.injEq, true_and] at h
      rw [h.1, ih h.2]
theorem ints_spec (H : Plain ov) (n : Nat) {x y : List Int} (sa : Sz h a 1 x.length (x.map iv) md) (sb : Sz h b 1 y.length (y.map iv) md') (hx : x.length ≤ 2 ^ 40) (hy : y.length ≤ 2 ^ 40) :
    kc ov (n + 1) N_runghelp_Ints [a, b] h = some (.bool (decide (x = y)), h) := by
  refine Wp.eq ?_
  rw [C_runghelp_Ints H]; unfold F_runghelp_Ints
  (try simp -dsimp (disch := omega) only [↓pre, sp, sp2, wp_some, Int.cast_ofNat_Int, Nat.reduceAdd, Nat.reduceMul, Nat.reduceSub, Nat.reduceLeDiff, Nat.reduceEqDiff, Nat.reducePow, Int.reduceToNat, Int.reducePow, Int.reduceAdd, Int.reduceSub, Int.reduceMul, Int.reduceLT, Int.reduceLE, Int.reduceEq, Int.reduceNeg, sa.len, sb.len])
  refine wp_ite (fun c => ?_) (fun c => ?_)
  · have : x ≠ y := fun e => by subst e; omega
    (try simp -dsimp (disch := omega) only [↓pre, sp, sp2, wp_some, Int.cast_ofNat_Int, Nat.reduceAdd, Nat.reduceMul, Nat.reduceSub, Nat.reduceLeDiff, Nat.reduceEqDiff, Nat.reducePow, Int.reduceToNat, Int.reducePow, Int.reduceAdd, Int.reduceSub, Int.reduceMul, Int.reduceLT, Int.reduceLE, Int.reduceEq, Int.reduceNeg, this, decide_false])
  · refine wp_loop (fun m l h1 => ∃ i : Nat, l = [.int .i64 i] ∧ i + m = x.length ∧ h = h1 ∧ x.take i = y.take i) x.length (by omega) ⟨0, rfl, by omega, rfl, rfl⟩ ?_
    rintro m _ _ j ⟨i, rfl, him, rfl, he⟩ hj
    unfold L_runghelp_Ints_0
    (try simp -dsimp (disch := omega) only [↓pre, sp, sp2, wp_some, Int.cast_ofNat_Int, Nat.reduceAdd, Nat.reduceMul, Nat.reduceSub, Nat.reduceLeDiff, Nat.reduceEqDiff, Nat.reducePow, Int.reduceToNat, Int.reducePow, Int.reduceAdd, Int.reduceSub, Int.reduceMul, Int.reduceLT, Int.reduceLE, Int.reduceEq, Int.reduceNeg, sa.len])
    refine wp_ite (fun c2 => ?_) (fun c2 => ?_)
    · have hix : i < x.length := by omega
      have hiy : i < y.length := by omega
      have l1 : rLoad (ea a i) h = some (.int .i64 x[i]) := by rw [sa.ld (by rw [List.length_map]; omega), List.getElem?_map, List.getElem?_eq_getElem hix]; rfl
      have l2 : rLoad (ea b i) h = some (.int .i64 y[i]) := by rw [sb.ld (by rw [List.length_map]; omega), List.getElem?_map, List.getElem?_eq_getElem hiy]; rfl
      (try simp -dsimp (disch := omega) only [↓pre, sp, sp2, wp_some, Int.cast_ofNat_Int, Nat.reduceAdd, Nat.reduceMul, Nat.reduceSub, Nat.reduceLeDiff, Nat.reduceEqDiff, Nat.reducePow, Int.reduceToNat, Int.reducePow, Int.reduceAdd, Int.reduceSub, Int.reduceMul, Int.reduceLT, Int.reduceLE, Int.reduceEq, Int.reduceNeg, sa.at, l1, sb.at, l2])
      refine wp_ite (fun c3 => ?_) (fun c3 => ?_)
      · have : x ≠ y := fun e => by subst e; exact c3 rfl
        (try simp -dsimp (disch := omega) only [↓pre, sp, sp2, wp_some, Int.cast_ofNat_Int, Nat.reduceAdd, Nat.reduceMul, Nat.reduceSub, Nat.reduceLeDiff, Nat.reduceEqDiff, Nat.reducePow, Int.reduceToNat, Int.reducePow, Int.reduceAdd, Int.reduceSub, Int.reduceMul, Int.reduceLT, Int.reduceLE, Int.reduceEq, Int.reduceNeg, this, decide_false])
      · have ei : ((i : Int) + 1) = ((i + 1 : Nat) : Int) := by omega
        (try simp -dsimp (disch := omega) only [↓pre, sp, sp2, wp_some, Int.cast_ofNat_Int, Nat.reduceAdd, Nat.reduceMul, Nat.reduceSub, Nat.reduceLeDiff, Nat.reduceEqDiff, Nat.reducePow, Int.reduceToNat, Int.reducePow, Int.reduceAdd, Int.reduceSub, Int.reduceMul, Int.reduceLT, Int.reduceLE, Int.reduceEq, Int.reduceNeg, ei])
        refine hj (m - 1) _ _ (by omega) ⟨i + 1, rfl, by omega, rfl, ?_⟩
        rw [List.take_succ_eq_append_getElem hix, List.take_succ_eq_append_getElem hiy, he]
        congr 2
        exact Decidable.not_not.1 c3
    · have e1 : x.take i = x := List.take_of_length_le (by omega)
      have e2 : y.take i = y := List.take_of_length_le (by omega)
      have : x = y := by rw [← e1, he, e2]
      (try simp -dsimp (disch := omega) only [↓pre, sp, sp2, wp_some, Int.cast_ofNat_Int, Nat.reduceAdd, Nat.reduceMul, Nat.reduceSub, Nat.reduceLeDiff, Nat.reduceEqDiff, Nat.reducePow, Int.reduceToNat, Int.reducePow, Int.reduceAdd, Int.reduceSub, Int.reduceMul, Int.reduceLT, Int.reduceLE, Int.reduceEq, Int.reduceNeg, this, decide_true])
/-- The queue, and what the statement keeps beside it. -/
structure QP (h0 h : AH) (p M : Nat) (wv : AVal) (s : QSt) (zs : List Int) (F : Nat → Prop) (i : Nat) : Prop where
  w : Wf h
  k : Ke (fun _ => True) h0 h
  q : Qu T_queue_Queue_int_ T_int h p s 0 F
  hw : s.w = zs.map iv
  o : Ow h wv T_int 1 zs.length (zs.map iv)
  d : ∀ j, isBk wv j → ¬ F j
  m : s.most = M
  c1 : s.tak + zs.length = s.put
  c2 : s.put ≤ i
  c3 : s.ref ≤ i
theorem QP.len {h0 : AH} {M : Nat} {wv : AVal} {s : QSt} {zs : List Int} {F : Nat → Prop} {i : Nat} (Q : QP h0 h p M wv s zs F i) : zs.length ≤ M ∧ s.w.length = zs.length ∧ M ≤ 64 ∧ ∀ j, F j → j < h.n := by
  obtain ⟨cs, C⟩ := Q.q
  have h1 := C.n
  have e : s.w.length = zs.length := by rw [Q.hw, List.length_map]
  rw [Q.m] at h1
  have h2 := C.m64
  rw [Q.m] at h2
  exact ⟨by omega, e, h2, C.fl⟩
theorem queuePlays (X : Xs ov) (K : ov N_runglaw24_known = some knownYes) (n : Nat) (w : Wf h) {k : Int} {cs : List AVal} {l : List (Int × Int)} (hk : -9223372036854775808 ≤ k ∧ k < 9223372036854775808)
    (sa : Sz h a 2 l.length cs .ro) (st : ∀ (i : Nat) x, l[i]? = some x → cs[i * 2]? = some (.int .i64 x.1) ∧ cs[i * 2 + 1]? = some (.int .i64 x.2)) :
    Wp (kc ov (n + 8) N_runglaw24_QueuePlays [.int .i64 k, a] h) fun r h' => r = .bool true := by
  rw [C_runglaw24_QueuePlays X.p]; unfold F_runglaw24_QueuePlays
  (try simp -dsimp (disch := omega) only [↓pre, sp, sp2, wp_some, Int.cast_ofNat_Int, Nat.reduceAdd, Nat.reduceMul, Nat.reduceSub, Nat.reduceLeDiff, Nat.reduceEqDiff, Nat.reducePow, Int.reduceToNat, Int.reducePow, Int.reduceAdd, Int.reduceSub, Int.reduceMul, Int.reduceLT, Int.reduceLE, Int.reduceEq, Int.reduceNeg, known_spec K, sa.len])
  refine wp_ite (fun c => ?_) (fun c => ?_)
  · (try simp -dsimp (disch := omega) only [↓pre, sp, sp2, wp_some, Int.cast_ofNat_Int, Nat.reduceAdd, Nat.reduceMul, Nat.reduceSub, Nat.reduceLeDiff, Nat.reduceEqDiff, Nat.reducePow, Int.reduceToNat, Int.reducePow, Int.reduceAdd, Int.reduceSub, Int.reduceMul, Int.reduceLT, Int.reduceLE, Int.reduceEq, Int.reduceNeg])
  (try simp -dsimp (disch := omega) only [↓pre, sp, sp2, wp_some, Int.cast_ofNat_Int, Nat.reduceAdd, Nat.reduceMul, Nat.reduceSub, Nat.reduceLeDiff, Nat.reduceEqDiff, Nat.reducePow, Int.reduceToNat, Int.reducePow, Int.reduceAdd, Int.reduceSub, Int.reduceMul, Int.reduceLT, Int.reduceLE, Int.reduceEq, Int.reduceNeg])
  refine Wp.bind (QInt.new_spec X.p (n + 6) w k) fun v1 h1 ⟨k1, p, e1, hp, Q1⟩ => ?_
  subst e1
  have hM : min (max k 1) 64 = (((min (max k 1) 64).toNat : Nat) : Int) := by omega
  (try simp -dsimp (disch := omega) only [↓pre, sp, sp2, wp_some, Int.cast_ofNat_Int, Nat.reduceAdd, Nat.reduceMul, Nat.reduceSub, Nat.reduceLeDiff, Nat.reduceEqDiff, Nat.reducePow, Int.reduceToNat, Int.reducePow, Int.reduceAdd, Int.reduceSub, Int.reduceMul, Int.reduceLT, Int.reduceLE, Int.reduceEq, Int.reduceNeg])
  rw [hM]
  generalize hMM : (min (max k 1) 64).toNat = M at *
  have hM1 : 1 ≤ M ∧ M ≤ 64 := by omega
  have hcl := sa.clen
  refine wp_loop (fun m y h2 => ∃ (i : Nat) (wv : AVal) (s : QSt) (zs : List Int) (F : Nat → Prop), y = [wv, .int .u64 s.put, .int .u64 s.ref, .int .u64 s.tak, .int .i64 i] ∧ i + m = l.length ∧ QP h h2 p M wv s zs F i) l.length (by omega)
    ⟨0, .slice none 0 0, _, [], _, rfl, by omega, k1.w', k1.mono fun _ f => f.elim, Q1, rfl, Ow.nil _ _ _ (by omega), fun j hj => hj.elim, rfl, rfl, Nat.le_refl _, Nat.le_refl _⟩ ?_
  clear Q1
  rintro m _ h2 j ⟨i, wv, s, zs, F, rfl, him, P⟩ hj
  have sa2 := sa.ro P.k
  obtain ⟨hzM, hsl, _, hFl⟩ := P.len
  unfold L_runglaw24_QueuePlays_0
  (try simp -dsimp (disch := omega) only [↓pre, sp, sp2, wp_some, Int.cast_ofNat_Int, Nat.reduceAdd, Nat.reduceMul, Nat.reduceSub, Nat.reduceLeDiff, Nat.reduceEqDiff, Nat.reducePow, Int.reduceToNat, Int.reducePow, Int.reduceAdd, Int.reduceSub, Int.reduceMul, Int.reduceLT, Int.reduceLE, Int.reduceEq, Int.reduceNeg, sa2.len])
  refine wp_ite (fun c1 => ?_) (fun c1 => ?_)
  rotate_left
  · -- the end
    (try simp -dsimp (disch := omega) only [↓pre, sp, sp2, wp_some, Int.cast_ofNat_Int, Nat.reduceAdd, Nat.reduceMul, Nat.reduceSub, Nat.reduceLeDiff, Nat.reduceEqDiff, Nat.reducePow, Int.reduceToNat, Int.reducePow, Int.reduceAdd, Int.reduceSub, Int.reduceMul, Int.reduceLT, Int.reduceLE, Int.reduceEq, Int.reduceNeg])
    refine Wp.bind (QInt.drain_spec X (n + 3) P.w P.q (by have := P.c1; have := P.c2; omega) (by rw [P.hw]; exact iv_cell zs)) fun v3 h3 ⟨k3, o3, f3, G, Q3, hG⟩ => ?_
    have ow : Ow h3 wv T_int 1 zs.length (zs.map iv) := P.o.ke k3 P.d
    rw [hsl, P.hw] at o3
    have hi := ints_spec X.p (n + 6) (Ow.rd o3) (Ow.rd ow) (by omega) (by omega)
    (try simp -dsimp (disch := omega) only [↓pre, sp, sp2, wp_some, Int.cast_ofNat_Int, Nat.reduceAdd, Nat.reduceMul, Nat.reduceSub, Nat.reduceLeDiff, Nat.reduceEqDiff, Nat.reducePow, Int.reduceToNat, Int.reducePow, Int.reduceAdd, Int.reduceSub, Int.reduceMul, Int.reduceLT, Int.reduceLE, Int.reduceEq, Int.reduceNeg, hi, decide_true])
  obtain ⟨z, hz⟩ : ∃ z, l[i]? = some z := ⟨_, List.getElem?_eq_getElem (by omega)⟩
  obtain ⟨e1, e2⟩ := st i z hz
  have hld0 : rLoad (ea a (i * 2)) h2 = some (.int .i64 z.1) := by rw [sa2.ld (by omega), e1]
  have ei : ((i : Int) + 1) = ((i + 1 : Nat) : Int) := by omega
  (try simp -dsimp (disch := omega) only [↓pre, sp, sp2, wp_some, Int.cast_ofNat_Int, Nat.reduceAdd, Nat.reduceMul, Nat.reduceSub, Nat.reduceLeDiff, Nat.reduceEqDiff, Nat.reducePow, Int.reduceToNat, Int.reducePow, Int.reduceAdd, Int.reduceSub, Int.reduceMul, Int.reduceLT, Int.reduceLE, Int.reduceEq, Int.reduceNeg, sa2.at, hld0, Nat.add_zero])
  -- put?
  refine wp_kJ (fun y h3 => h2 = h3 ∧ ∃ bb : Bool, y = [.bool bb]) (fun j34 hj34 => ?_) ?_
  · refine wp_kIf (fun c3 => ?_) (fun c3 => ?_)
    · exact hj34 _ _ ⟨rfl, _, rfl⟩
    · (try simp -dsimp (disch := omega) only [↓pre, sp, sp2, wp_some, Int.cast_ofNat_Int, Nat.reduceAdd, Nat.reduceMul, Nat.reduceSub, Nat.reduceLeDiff, Nat.reduceEqDiff, Nat.reducePow, Int.reduceToNat, Int.reducePow, Int.reduceAdd, Int.reduceSub, Int.reduceMul, Int.reduceLT, Int.reduceLE, Int.reduceEq, Int.reduceNeg])
      refine wp_kJ (fun y h3 => h2 = h3 ∧ ∃ bb : Bool, y = [.bool bb]) (fun j189 hj189 => ?_) ?_
      · refine wp_kIf (fun c4 => ?_) (fun c4 => ?_)
        · exact hj189 _ _ ⟨rfl, _, rfl⟩
        · (try simp -dsimp (disch := omega) only [↓pre, sp, sp2, wp_some, Int.cast_ofNat_Int, Nat.reduceAdd, Nat.reduceMul, Nat.reduceSub, Nat.reduceLeDiff, Nat.reduceEqDiff, Nat.reducePow, Int.reduceToNat, Int.reducePow, Int.reduceAdd, Int.reduceSub, Int.reduceMul, Int.reduceLT, Int.reduceLE, Int.reduceEq, Int.reduceNeg])
          exact hj189 _ _ ⟨rfl, _, rfl⟩
      · rintro _ _ ⟨rfl, bb, rfl⟩
        (try simp -dsimp (disch := omega) only [↓pre, sp, sp2, wp_some, Int.cast_ofNat_Int, Nat.reduceAdd, Nat.reduceMul, Nat.reduceSub, Nat.reduceLeDiff, Nat.reduceEqDiff, Nat.reducePow, Int.reduceToNat, Int.reducePow, Int.reduceAdd, Int.reduceSub, Int.reduceMul, Int.reduceLT, Int.reduceLE, Int.reduceEq, Int.reduceNeg])
        exact hj34 _ _ ⟨rfl, _, rfl⟩
  rintro _ _ ⟨rfl, bb, rfl⟩
  (try simp -dsimp (disch := omega) only [↓pre, sp, sp2, wp_some, Int.cast_ofNat_Int, Nat.reduceAdd, Nat.reduceMul, Nat.reduceSub, Nat.reduceLeDiff, Nat.reduceEqDiff, Nat.reducePow, Int.reduceToNat, Int.reducePow, Int.reduceAdd, Int.reduceSub, Int.reduceMul, Int.reduceLT, Int.reduceLE, Int.reduceEq, Int.reduceNeg])
  -- what is compared behind a step
  refine wp_kJ (fun y h3 => ∃ (wv : AVal) (s : QSt) (zs : List Int) (F : Nat → Prop), y = [wv, .int .u64 s.put, .int .u64 s.ref, .int .u64 s.tak] ∧ QP h h3 p M wv s zs F (i + 1)) (fun j36 hj36 => ?_) ?_
  rotate_left
  · clear P hld0 hzM hsl hFl
    rintro _ h3 ⟨wv, s, zs, F, rfl, P⟩
    obtain ⟨hzM, hsl, _, hFl⟩ := P.len
    have hc := QInt.counts_spec X (n + 4) P.q
    (try simp -dsimp (disch := omega) only [↓pre, sp, sp2, wp_some, Int.cast_ofNat_Int, Nat.reduceAdd, Nat.reduceMul, Nat.reduceSub, Nat.reduceLeDiff, Nat.reduceEqDiff, Nat.reducePow, Int.reduceToNat, Int.reducePow, Int.reduceAdd, Int.reduceSub, Int.reduceMul, Int.reduceLT, Int.reduceLE, Int.reduceEq, Int.reduceNeg, hc])
    refine Wp.bind (QInt.len_spec X (n + 3) P.w P.q) fun v4 h4 ⟨e4, k4, n4, Q4⟩ => ?_
    subst e4
    have ow : Ow h4 wv T_int 1 zs.length (zs.map iv) := P.o.ke k4 P.d
    (try simp -dsimp (disch := omega) only [↓pre, sp, sp2, wp_some, Int.cast_ofNat_Int, Nat.reduceAdd, Nat.reduceMul, Nat.reduceSub, Nat.reduceLeDiff, Nat.reduceEqDiff, Nat.reducePow, Int.reduceToNat, Int.reducePow, Int.reduceAdd, Int.reduceSub, Int.reduceMul, Int.reduceLT, Int.reduceLE, Int.reduceEq, Int.reduceNeg, (Ow.rd ow).len, hsl])
    refine wp_kT (.bool false) (fun j2 hj2 => ?_) ?_
    · (try simp -dsimp (disch := omega) only [↓pre, sp, sp2, wp_some, Int.cast_ofNat_Int, Nat.reduceAdd, Nat.reduceMul, Nat.reduceSub, Nat.reduceLeDiff, Nat.reduceEqDiff, Nat.reducePow, Int.reduceToNat, Int.reducePow, Int.reduceAdd, Int.reduceSub, Int.reduceMul, Int.reduceLT, Int.reduceLE, Int.reduceEq, Int.reduceNeg])
      exact hj2
    (try simp -dsimp (disch := omega) only [↓pre, sp, sp2, wp_some, Int.cast_ofNat_Int, Nat.reduceAdd, Nat.reduceMul, Nat.reduceSub, Nat.reduceLeDiff, Nat.reduceEqDiff, Nat.reducePow, Int.reduceToNat, Int.reducePow, Int.reduceAdd, Int.reduceSub, Int.reduceMul, Int.reduceLT, Int.reduceLE, Int.reduceEq, Int.reduceNeg, ei])
    exact hj (m - 1) _ _ (by omega) ⟨i + 1, wv, s, zs, F, rfl, by omega, k4.w', P.k.trans (k4.mono fun _ _ => trivial), Q4, P.hw, ow, P.d, P.m, P.c1, P.c2, P.c3⟩
  cases bb with
  | true =>
    have hld1 : rLoad (ea a (i * 2 + 1)) h2 = some (iv z.2) := by rw [sa2.ld (by omega), e2]; rfl
    have hc1 := P.c1; have hc2 := P.c2; have hc3 := P.c3
    (try simp -dsimp (disch := omega) only [↓pre, sp, sp2, wp_some, Int.cast_ofNat_Int, Nat.reduceAdd, Nat.reduceMul, Nat.reduceSub, Nat.reduceLeDiff, Nat.reduceEqDiff, Nat.reducePow, Int.reduceToNat, Int.reducePow, Int.reduceAdd, Int.reduceSub, Int.reduceMul, Int.reduceLT, Int.reduceLE, Int.reduceEq, Int.reduceNeg, sa2.at, hld1])
    refine Wp.bind (QInt.put_spec X n P.w P.q ⟨by omega, by omega⟩ (y := iv z.2) rfl) fun v3 h3 ⟨k3, e3, Q3⟩ => ?_
    subst e3
    have ow : Ow h3 wv T_int 1 zs.length (zs.map iv) := P.o.ke k3 P.d
    have K3 : Ke (fun _ => True) h h3 := P.k.trans (k3.mono fun _ _ => trivial)
    have hd3 : ∀ j, isBk wv j → ¬ Gr F h2 h3 j := fun j hj hg => by
      rcases hg with hg | hg
      · exact P.d j hj hg
      · have := Ow.bk_lt P.w P.o hj; omega
    rw [hsl, P.m]
    by_cases cf : zs.length = M
    · have ep : s.push (iv z.2) = { s with ref := s.ref + 1, made := true } := by unfold QSt.push; rw [if_pos (by rw [P.m]; omega)]
      rw [ep] at Q3
      have h240 : ¬ ((240 : Int) = 0) := by omega
      have hnl : ¬ ((zs.length : Int) < (M : Nat)) := by omega
      simp only [if_pos cf]
      (try simp -dsimp (disch := omega) only [↓pre, sp, sp2, wp_some, Int.cast_ofNat_Int, Nat.reduceAdd, Nat.reduceMul, Nat.reduceSub, Nat.reduceLeDiff, Nat.reduceEqDiff, Nat.reducePow, Int.reduceToNat, Int.reducePow, Int.reduceAdd, Int.reduceSub, Int.reduceMul, Int.reduceLT, Int.reduceLE, Int.reduceEq, Int.reduceNeg, (Ow.rd ow).len, hnl, decide_false, beq_self_eq_true, Bool.not_true])
      refine wp_kT (.bool false) (fun j2 hj2 => ?_) ?_
      · (try simp -dsimp (disch := omega) only [↓pre, sp, sp2, wp_some, Int.cast_ofNat_Int, Nat.reduceAdd, Nat.reduceMul, Nat.reduceSub, Nat.reduceLeDiff, Nat.reduceEqDiff, Nat.reducePow, Int.reduceToNat, Int.reducePow, Int.reduceAdd, Int.reduceSub, Int.reduceMul, Int.reduceLT, Int.reduceLE, Int.reduceEq, Int.reduceNeg])
        exact hj2
      (try simp -dsimp (disch := omega) only [↓pre, sp, sp2, wp_some, Int.cast_ofNat_Int, Nat.reduceAdd, Nat.reduceMul, Nat.reduceSub, Nat.reduceLeDiff, Nat.reduceEqDiff, Nat.reducePow, Int.reduceToNat, Int.reducePow, Int.reduceAdd, Int.reduceSub, Int.reduceMul, Int.reduceLT, Int.reduceLE, Int.reduceEq, Int.reduceNeg])
      refine wp_kJ (fun y h4 => h3 = h4 ∧ y = [wv, .int .u64 s.put, .int .u64 (s.ref + 1 : Nat)]) (fun j3 hj3 => ?_) ?_
      · have er : ((s.ref : Int) + 1) = ((s.ref + 1 : Nat) : Int) := by omega
        (try simp -dsimp (disch := omega) only [↓pre, sp, sp2, wp_some, Int.cast_ofNat_Int, Nat.reduceAdd, Nat.reduceMul, Nat.reduceSub, Nat.reduceLeDiff, Nat.reduceEqDiff, Nat.reducePow, Int.reduceToNat, Int.reducePow, Int.reduceAdd, Int.reduceSub, Int.reduceMul, Int.reduceLT, Int.reduceLE, Int.reduceEq, Int.reduceNeg, er])
        exact hj3 _ _ ⟨rfl, rfl⟩
      · rintro _ _ ⟨rfl, rfl⟩
        (try simp -dsimp (disch := omega) only [↓pre, sp, sp2, wp_some, Int.cast_ofNat_Int, Nat.reduceAdd, Nat.reduceMul, Nat.reduceSub, Nat.reduceLeDiff, Nat.reduceEqDiff, Nat.reducePow, Int.reduceToNat, Int.reducePow, Int.reduceAdd, Int.reduceSub, Int.reduceMul, Int.reduceLT, Int.reduceLE, Int.reduceEq, Int.reduceNeg])
        exact hj36 _ _ ⟨wv, _, zs, _, rfl, k3.w', K3, Q3, P.hw, ow, hd3, P.m, P.c1, by simp only; omega, by simp only; omega⟩
    · have ep : s.push (iv z.2) = { s with w := s.w ++ [iv z.2], put := s.put + 1, made := true } := by unfold QSt.push; rw [if_neg (by rw [P.m]; omega)]
      rw [ep] at Q3
      have hnl : ((zs.length : Int) < (M : Nat)) := by omega
      simp only [if_neg cf]
      (try simp -dsimp (disch := omega) only [↓pre, sp, sp2, wp_some, Int.cast_ofNat_Int, Nat.reduceAdd, Nat.reduceMul, Nat.reduceSub, Nat.reduceLeDiff, Nat.reduceEqDiff, Nat.reducePow, Int.reduceToNat, Int.reducePow, Int.reduceAdd, Int.reduceSub, Int.reduceMul, Int.reduceLT, Int.reduceLE, Int.reduceEq, Int.reduceNeg, (Ow.rd ow).len, hnl, decide_true, beq_self_eq_true, Bool.not_true])
      refine wp_kT (.bool false) (fun j2 hj2 => ?_) ?_
      · (try simp -dsimp (disch := omega) only [↓pre, sp, sp2, wp_some, Int.cast_ofNat_Int, Nat.reduceAdd, Nat.reduceMul, Nat.reduceSub, Nat.reduceLeDiff, Nat.reduceEqDiff, Nat.reducePow, Int.reduceToNat, Int.reducePow, Int.reduceAdd, Int.reduceSub, Int.reduceMul, Int.reduceLT, Int.reduceLE, Int.reduceEq, Int.reduceNeg])
        exact hj2
      have sa3 := sa.ro K3
      have hld3 : rLoad (ea a (i * 2 + 1)) h3 = some (iv z.2) := by rw [sa3.ld (by omega), e2]; rfl
      have hGl : ∀ j, Gr F h2 h3 j → j < h3.n := by obtain ⟨cs, C⟩ := Q3; exact C.fl
      (try simp -dsimp (disch := omega) only [↓pre, sp, sp2, wp_some, Int.cast_ofNat_Int, Nat.reduceAdd, Nat.reduceMul, Nat.reduceSub, Nat.reduceLeDiff, Nat.reduceEqDiff, Nat.reducePow, Int.reduceToNat, Int.reducePow, Int.reduceAdd, Int.reduceSub, Int.reduceMul, Int.reduceLT, Int.reduceLE, Int.reduceEq, Int.reduceNeg])
      refine wp_kJ (fun y h4 => ∃ wv', y = [wv', .int .u64 (s.put + 1 : Nat), .int .u64 s.ref] ∧ QP h h4 p M wv' { s with w := s.w ++ [iv z.2], put := s.put + 1, made := true } (zs ++ [z.2]) (Gr F h2 h3) (i + 1)) (fun j3 hj3 => ?_) ?_
      · (try simp -dsimp (disch := omega) only [↓pre, sp, sp2, wp_some, Int.cast_ofNat_Int, Nat.reduceAdd, Nat.reduceMul, Nat.reduceSub, Nat.reduceLeDiff, Nat.reduceEqDiff, Nat.reducePow, Int.reduceToNat, Int.reducePow, Int.reduceAdd, Int.reduceSub, Int.reduceMul, Int.reduceLT, Int.reduceLE, Int.reduceEq, Int.reduceNeg, sa3.at, hld3])
        refine wp_buildSl (cs := [iv z.2]) k3.w' ⟨by decide, rfl, by decide⟩ rfl rfl fun qq h4 hqq k4 n4 g4 => ?_
        have sq : Sz h4 (.slice (some (qq, 0, 1)) 1 1) 1 1 [iv z.2] .rw := Ow.rd (e := T_int) (Ow.new g4 (by omega) 1 rfl rfl)
        (try simp -dsimp (disch := omega) only [↓pre, sp, sp2, wp_some, Int.cast_ofNat_Int, Nat.reduceAdd, Nat.reduceMul, Nat.reduceSub, Nat.reduceLeDiff, Nat.reduceEqDiff, Nat.reducePow, Int.reduceToNat, Int.reducePow, Int.reduceAdd, Int.reduceSub, Int.reduceMul, Int.reduceLT, Int.reduceLE, Int.reduceEq, Int.reduceNeg])
        refine wp_append k4.w' (ow.kp k4) sq rfl (by omega) (by omega) fun wv' h5 o5 k5 f5 => ?_
        have er : ((s.put : Int) + 1) = ((s.put + 1 : Nat) : Int) := by omega
        (try simp -dsimp (disch := omega) only [↓pre, sp, sp2, wp_some, Int.cast_ofNat_Int, Nat.reduceAdd, Nat.reduceMul, Nat.reduceSub, Nat.reduceLeDiff, Nat.reduceEqDiff, Nat.reducePow, Int.reduceToNat, Int.reducePow, Int.reduceAdd, Int.reduceSub, Int.reduceMul, Int.reduceLT, Int.reduceLE, Int.reduceEq, Int.reduceNeg, er])
        refine hj3 _ _ ⟨wv', rfl, k5.w', (K3.trans (k4.mono fun _ f => f.elim)).trans (k5.mono fun _ _ => trivial), (Q3.ke k4 fun _ f => f.elim).ke k5 hd3, ?_, o5.to (by rw [List.map_append]; rfl) (by rw [List.length_append]; rfl), fun j hj hg => ?_, P.m, ?_, by simp only; omega, by simp only; omega⟩
        · simp only [P.hw, List.map_append]; rfl
        · rcases f5 j hj with hh | hh
          · exact hd3 j hh hg
          · have := hGl j hg; have := k4.n; omega
        · simp only [List.length_append, List.length_cons, List.length_nil]; omega
      · rintro _ h4 ⟨wv', rfl, P4⟩
        (try simp -dsimp (disch := omega) only [↓pre, sp, sp2, wp_some, Int.cast_ofNat_Int, Nat.reduceAdd, Nat.reduceMul, Nat.reduceSub, Nat.reduceLeDiff, Nat.reduceEqDiff, Nat.reducePow, Int.reduceToNat, Int.reducePow, Int.reduceAdd, Int.reduceSub, Int.reduceMul, Int.reduceLT, Int.reduceLE, Int.reduceEq, Int.reduceNeg])
        exact hj36 _ _ ⟨wv', _, _, _, rfl, P4⟩
  | false =>
    (try simp -dsimp (disch := omega) only [↓pre, sp, sp2, wp_some, Int.cast_ofNat_Int, Nat.reduceAdd, Nat.reduceMul, Nat.reduceSub, Nat.reduceLeDiff, Nat.reduceEqDiff, Nat.reducePow, Int.reduceToNat, Int.reducePow, Int.reduceAdd, Int.reduceSub, Int.reduceMul, Int.reduceLT, Int.reduceLE, Int.reduceEq, Int.reduceNeg])
    refine wp_kJ (fun y h3 => h2 = h3 ∧ ∃ bb : Bool, y = [.bool bb]) (fun j120 hj120 => ?_) ?_
    · refine wp_kIf (fun c3 => ?_) (fun c3 => ?_)
      · exact hj120 _ _ ⟨rfl, _, rfl⟩
      · (try simp -dsimp (disch := omega) only [↓pre, sp, sp2, wp_some, Int.cast_ofNat_Int, Nat.reduceAdd, Nat.reduceMul, Nat.reduceSub, Nat.reduceLeDiff, Nat.reduceEqDiff, Nat.reducePow, Int.reduceToNat, Int.reducePow, Int.reduceAdd, Int.reduceSub, Int.reduceMul, Int.reduceLT, Int.reduceLE, Int.reduceEq, Int.reduceNeg])
        exact hj120 _ _ ⟨rfl, _, rfl⟩
    rintro _ _ ⟨rfl, bb, rfl⟩
    (try simp -dsimp (disch := omega) only [↓pre, sp, sp2, wp_some, Int.cast_ofNat_Int, Nat.reduceAdd, Nat.reduceMul, Nat.reduceSub, Nat.reduceLeDiff, Nat.reduceEqDiff, Nat.reducePow, Int.reduceToNat, Int.reducePow, Int.reduceAdd, Int.reduceSub, Int.reduceMul, Int.reduceLT, Int.reduceLE, Int.reduceEq, Int.reduceNeg])
    have hput := P.c2
    have htk := P.c1
    refine wp_kJ (fun y h3 => ∃ (wv' : AVal) (s' : QSt) (zs' : List Int) (F' : Nat → Prop), y = [wv', .int .u64 s'.tak] ∧ s'.put = s.put ∧ s'.ref = s.ref ∧ QP h h3 p M wv' s' zs' F' i) (fun j122 hj122 => ?_) ?_
    rotate_left
    · rintro _ h3 ⟨wv', s', zs', F', rfl, e5, e6, P3⟩
      (try simp -dsimp (disch := omega) only [↓pre, sp, sp2, wp_some, Int.cast_ofNat_Int, Nat.reduceAdd, Nat.reduceMul, Nat.reduceSub, Nat.reduceLeDiff, Nat.reduceEqDiff, Nat.reducePow, Int.reduceToNat, Int.reducePow, Int.reduceAdd, Int.reduceSub, Int.reduceMul, Int.reduceLT, Int.reduceLE, Int.reduceEq, Int.reduceNeg])
      refine hj36 _ _ ⟨wv', s', zs', F', by rw [e5, e6], P3.w, P3.k, P3.q, P3.hw, P3.o, P3.d, P3.m, P3.c1, by have := P3.c2; omega, by have := P3.c3; omega⟩
    cases bb with
    | true =>
      (try simp -dsimp (disch := omega) only [↓pre, sp, sp2, wp_some, Int.cast_ofNat_Int, Nat.reduceAdd, Nat.reduceMul, Nat.reduceSub, Nat.reduceLeDiff, Nat.reduceEqDiff, Nat.reducePow, Int.reduceToNat, Int.reducePow, Int.reduceAdd, Int.reduceSub, Int.reduceMul, Int.reduceLT, Int.reduceLE, Int.reduceEq, Int.reduceNeg])
      refine Wp.bind (QInt.take_spec X (n + 3) P.w P.q (by omega)) fun v3 h3 ⟨k3, q3⟩ => ?_
      have ow : Ow h3 wv T_int 1 zs.length (zs.map iv) := P.o.ke k3 P.d
      have K3 : Ke (fun _ => True) h h3 := P.k.trans (k3.mono fun _ _ => trivial)
      have hd3 : ∀ j, isBk wv j → ¬ Gr F h2 h3 j := fun j hj hg => by
        rcases hg with hg | hg
        · exact P.d j hj hg
        · have := Ow.bk_lt P.w P.o hj; omega
      have hzc : zs = [] ∨ ∃ y ys, zs = y :: ys := by cases zs <;> simp
      rcases hzc with hz0 | ⟨y, ys, hz0⟩
      · subst hz0
        rw [P.hw] at q3
        obtain ⟨rfl, Q3⟩ := q3
        have hl0 : rLen wv = some (.int .i64 0) := (Ow.rd ow).len
        (try simp -dsimp (disch := omega) only [↓pre, sp, sp2, wp_some, Int.cast_ofNat_Int, Nat.reduceAdd, Nat.reduceMul, Nat.reduceSub, Nat.reduceLeDiff, Nat.reduceEqDiff, Nat.reducePow, Int.reduceToNat, Int.reducePow, Int.reduceAdd, Int.reduceSub, Int.reduceMul, Int.reduceLT, Int.reduceLE, Int.reduceEq, Int.reduceNeg, hl0])
        refine wp_kT (.bool false) (fun j2 hj2 => ?_) ?_
        · (try simp -dsimp (disch := omega) only [↓pre, sp, sp2, wp_some, Int.cast_ofNat_Int, Nat.reduceAdd, Nat.reduceMul, Nat.reduceSub, Nat.reduceLeDiff, Nat.reduceEqDiff, Nat.reducePow, Int.reduceToNat, Int.reducePow, Int.reduceAdd, Int.reduceSub, Int.reduceMul, Int.reduceLT, Int.reduceLE, Int.reduceEq, Int.reduceNeg])
          exact hj2
        (try simp -dsimp (disch := omega) only [↓pre, sp, sp2, wp_some, Int.cast_ofNat_Int, Nat.reduceAdd, Nat.reduceMul, Nat.reduceSub, Nat.reduceLeDiff, Nat.reduceEqDiff, Nat.reducePow, Int.reduceToNat, Int.reducePow, Int.reduceAdd, Int.reduceSub, Int.reduceMul, Int.reduceLT, Int.reduceLE, Int.reduceEq, Int.reduceNeg])
        refine wp_kJ (fun y h4 => h3 = h4 ∧ y = [wv, .int .u64 s.tak]) (fun j3 hj3 => ?_) ?_
        · (try simp -dsimp (disch := omega) only [↓pre, sp, sp2, wp_some, Int.cast_ofNat_Int, Nat.reduceAdd, Nat.reduceMul, Nat.reduceSub, Nat.reduceLeDiff, Nat.reduceEqDiff, Nat.reducePow, Int.reduceToNat, Int.reducePow, Int.reduceAdd, Int.reduceSub, Int.reduceMul, Int.reduceLT, Int.reduceLE, Int.reduceEq, Int.reduceNeg])
          exact hj3 _ _ ⟨rfl, rfl⟩
        · rintro _ _ ⟨rfl, rfl⟩
          (try simp -dsimp (disch := omega) only [↓pre, sp, sp2, wp_some, Int.cast_ofNat_Int, Nat.reduceAdd, Nat.reduceMul, Nat.reduceSub, Nat.reduceLeDiff, Nat.reduceEqDiff, Nat.reducePow, Int.reduceToNat, Int.reducePow, Int.reduceAdd, Int.reduceSub, Int.reduceMul, Int.reduceLT, Int.reduceLE, Int.reduceEq, Int.reduceNeg])
          exact hj122 _ _ ⟨wv, s, [], _, rfl, rfl, rfl, k3.w', K3, Q3, P.hw, ow, hd3, P.m, P.c1, P.c2, P.c3⟩
      · subst hz0
        rw [P.hw, List.map_cons] at q3
        obtain ⟨rfl, Q3⟩ := q3
        have hl0 : rLen wv = some (.int .i64 ((ys.length + 1 : Nat) : Int)) := (Ow.rd ow).len
        have hpos : ((ys.length + 1 : Nat) : Int) > 0 := by omega
        have ha0 : rAt 1 wv (.int .i64 0) = some (ea wv 0) := by
          have := (Ow.rd ow).at (k := .i64) (i := 0) (by omega) (by rw [List.length_cons]; omega)
          simpa using this
        have hl1 : rLoad (ea wv 0) h3 = some (.int .i64 y) := by rw [(Ow.rd ow).ld (by rw [List.length_map, List.length_cons]; omega)]; rfl
        (try simp -dsimp (disch := omega) only [↓pre, sp, sp2, wp_some, Int.cast_ofNat_Int, Nat.reduceAdd, Nat.reduceMul, Nat.reduceSub, Nat.reduceLeDiff, Nat.reduceEqDiff, Nat.reducePow, Int.reduceToNat, Int.reducePow, Int.reduceAdd, Int.reduceSub, Int.reduceMul, Int.reduceLT, Int.reduceLE, Int.reduceEq, Int.reduceNeg, hl0, hpos, decide_true, beq_self_eq_true, Bool.not_true, iv])
        refine wp_kT (.bool false) (fun j2 hj2 => ?_) ?_
        · (try simp -dsimp (disch := omega) only [↓pre, sp, sp2, wp_some, Int.cast_ofNat_Int, Nat.reduceAdd, Nat.reduceMul, Nat.reduceSub, Nat.reduceLeDiff, Nat.reduceEqDiff, Nat.reducePow, Int.reduceToNat, Int.reducePow, Int.reduceAdd, Int.reduceSub, Int.reduceMul, Int.reduceLT, Int.reduceLE, Int.reduceEq, Int.reduceNeg, ha0, hl1, iv])
          exact hj2
        obtain ⟨wv', e6, o6, f6⟩ := ow.cutL (p := .i64) (a := 1) (by omega) (by rw [List.length_cons]; omega)
        have et : ((s.tak : Int) + 1) = ((s.tak + 1 : Nat) : Int) := by omega
        have ew : IntKind.wrap .u64 ((s.tak : Int) + 1) = ((s.tak + 1 : Nat) : Int) := by rw [num.2.2.2.2.2.2.2.1 _ (by omega) (by omega)]; omega
        (try simp -dsimp (disch := omega) only [↓pre, sp, sp2, wp_some, Int.cast_ofNat_Int, Nat.reduceAdd, Nat.reduceMul, Nat.reduceSub, Nat.reduceLeDiff, Nat.reduceEqDiff, Nat.reducePow, Int.reduceToNat, Int.reducePow, Int.reduceAdd, Int.reduceSub, Int.reduceMul, Int.reduceLT, Int.reduceLE, Int.reduceEq, Int.reduceNeg])
        refine wp_kJ (fun y h4 => h3 = h4 ∧ y = [wv', .int .u64 (s.tak + 1 : Nat)]) (fun j3 hj3 => ?_) ?_
        · (try simp -dsimp (disch := omega) only [↓pre, sp, sp2, wp_some, Int.cast_ofNat_Int, Nat.reduceAdd, Nat.reduceMul, Nat.reduceSub, Nat.reduceLeDiff, Nat.reduceEqDiff, Nat.reducePow, Int.reduceToNat, Int.reducePow, Int.reduceAdd, Int.reduceSub, Int.reduceMul, Int.reduceLT, Int.reduceLE, Int.reduceEq, Int.reduceNeg, e6, ew, et])
          exact hj3 _ _ ⟨rfl, rfl⟩
        · rintro _ _ ⟨rfl, rfl⟩
          (try simp -dsimp (disch := omega) only [↓pre, sp, sp2, wp_some, Int.cast_ofNat_Int, Nat.reduceAdd, Nat.reduceMul, Nat.reduceSub, Nat.reduceLeDiff, Nat.reduceEqDiff, Nat.reducePow, Int.reduceToNat, Int.reducePow, Int.reduceAdd, Int.reduceSub, Int.reduceMul, Int.reduceLT, Int.reduceLE, Int.reduceEq, Int.reduceNeg])
          refine hj122 _ _ ⟨wv', s.pop, ys, _, rfl, rfl, rfl, k3.w', K3, Q3, ?_, o6.to (by rw [List.map_cons]; rfl) (by rw [List.length_cons]; rfl), fun j hj hg => hd3 j (f6 j hj) hg, P.m, ?_, P.c2, P.c3⟩
          · simp [QSt.pop, P.hw]
          · have : s.pop.put = s.put := rfl
            have : s.pop.tak = s.tak + 1 := rfl
            rw [List.length_cons] at htk
            omega
    | false =>
      (try simp -dsimp (disch := omega) only [↓pre, sp, sp2, wp_some, Int.cast_ofNat_Int, Nat.reduceAdd, Nat.reduceMul, Nat.reduceSub, Nat.reduceLeDiff, Nat.reduceEqDiff, Nat.reducePow, Int.reduceToNat, Int.reducePow, Int.reduceAdd, Int.reduceSub, Int.reduceMul, Int.reduceLT, Int.reduceLE, Int.reduceEq, Int.reduceNeg])
      refine wp_kJ (fun y h3 => ∃ (wv' : AVal) (s' : QSt) (zs' : List Int) (F' : Nat → Prop), y = [wv', .int .u64 s'.tak] ∧ s'.put = s.put ∧ s'.ref = s.ref ∧ QP h h3 p M wv' s' zs' F' i) (fun j168 hj168 => ?_) ?_
      rotate_left
      · rintro _ h3 ⟨wv', s', zs', F', rfl, e5, e6, P3⟩
        (try simp -dsimp (disch := omega) only [↓pre, sp, sp2, wp_some, Int.cast_ofNat_Int, Nat.reduceAdd, Nat.reduceMul, Nat.reduceSub, Nat.reduceLeDiff, Nat.reduceEqDiff, Nat.reducePow, Int.reduceToNat, Int.reducePow, Int.reduceAdd, Int.reduceSub, Int.reduceMul, Int.reduceLT, Int.reduceLE, Int.reduceEq, Int.reduceNeg])
        exact hj122 _ _ ⟨wv', s', zs', F', rfl, e5, e6, P3⟩
      refine wp_kIf (fun c5 => ?_) (fun c5 => ?_)
      · (try simp -dsimp (disch := omega) only [↓pre, sp, sp2, wp_some, Int.cast_ofNat_Int, Nat.reduceAdd, Nat.reduceMul, Nat.reduceSub, Nat.reduceLeDiff, Nat.reduceEqDiff, Nat.reducePow, Int.reduceToNat, Int.reducePow, Int.reduceAdd, Int.reduceSub, Int.reduceMul, Int.reduceLT, Int.reduceLE, Int.reduceEq, Int.reduceNeg])
        refine Wp.bind (QInt.drain_spec X (n + 3) P.w P.q (by omega) (by rw [P.hw]; exact iv_cell zs)) fun v3 h3 ⟨k3, o3, f3, G, Q3, hG⟩ => ?_
        have ow : Ow h3 wv T_int 1 zs.length (zs.map iv) := P.o.ke k3 P.d
        rw [hsl, P.hw] at o3
        have hi := ints_spec X.p (n + 6) (Ow.rd o3) (Ow.rd ow) (by omega) (by omega)
        have ew0 : IntKind.wrap .u64 ((zs.length : Nat) : Int) = ((zs.length : Nat) : Int) := num.2.2.2.2.2.2.2.1 _ (by omega) (by omega)
        have ew : IntKind.wrap .u64 ((s.tak : Int) + (zs.length : Nat)) = ((s.tak + zs.length : Nat) : Int) := by rw [num.2.2.2.2.2.2.2.1 _ (by omega) (by omega)]; omega
        have et : ((s.tak : Int) + (zs.length : Nat)) = ((s.tak + zs.length : Nat) : Int) := by omega
        (try simp -dsimp (disch := omega) only [↓pre, sp, sp2, wp_some, Int.cast_ofNat_Int, Nat.reduceAdd, Nat.reduceMul, Nat.reduceSub, Nat.reduceLeDiff, Nat.reduceEqDiff, Nat.reducePow, Int.reduceToNat, Int.reducePow, Int.reduceAdd, Int.reduceSub, Int.reduceMul, Int.reduceLT, Int.reduceLE, Int.reduceEq, Int.reduceNeg, hi, decide_true, (Ow.rd ow).len, ew0, ew, et])
        refine hj168 _ _ ⟨.slice none 0 0, QInt.QStDrain s, [], G, by simp only [QInt.QStDrain, hsl], rfl, rfl, k3.w', P.k.trans (k3.mono fun _ _ => trivial), Q3, rfl, Ow.nil _ _ _ (by omega), fun j hj => hj.elim, P.m, ?_, P.c2, P.c3⟩
        simp only [QInt.QStDrain, List.length_nil]; omega
      · exact hj168 _ _ ⟨wv, s, zs, F, rfl, rfl, rfl, P⟩
end Go.Proofs.Ytfppdfmffdkogaa.AI
