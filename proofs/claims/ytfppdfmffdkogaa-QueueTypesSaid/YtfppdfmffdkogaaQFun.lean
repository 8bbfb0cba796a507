/- queue, of one-celled things (func___int_): what its functions come to. -/
import Derived.Test.YtfppdfmffdkogaaQueueB
namespace Go.Proofs.Ytfppdfmffdkogaa.AI.QFun
open Go Go.Proofs.Ytfppdfmffdkogaa.AI
set_option linter.unusedSimpArgs false
set_option linter.unusedVariables false
variable {ov : AOver} {h : AH} {p : Nat} {s : QSt} {F : Nat → Prop} {lk : Int}

theorem new_spec (H : Plain ov) (n : Nat) (w : Wf h) (k : Int) : Wp (kc ov (n + 1) N_queue_New_func___int_ [.int .i64 k] h) fun r h' => Kp h h' ∧ ∃ p, r = .ptr (some (p, 0)) ∧ h.n ≤ p ∧ Qu T_queue_Queue_func___int_ T_func___int h' p ⟨(min (max k 1) 64).toNat, 0, [], 0, 0, 0, false⟩ 0 (· = p) := by
  rw [C_queue_New_func___int_ H]; unfold F_queue_New_func___int_
  have hb : rBuild [(.int .i32 0), (.int .u32 0), (.int .u32 0), (.int .i32 0), (.int .u32 0), (.int .i64 0), (.slice none 0 0), (.int .i64 0), (.int .i64 0), (.int .u64 0), (.int .u64 0), (.int .u64 0)] [(0, 2), (2, 3), (5, 1), (6, 1), (7, 1), (8, 1), (9, 1), (10, 1), (11, 1)] [(2, .int .i64 (min (max k 1) 64))] =
    some (.agg [(.int .i32 0), (.int .u32 0), (.int .u32 0), (.int .i32 0), (.int .u32 0), (.int .i64 (min (max k 1) 64)), (.slice none 0 0), (.int .i64 0), (.int .i64 0), (.int .u64 0), (.int .u64 0), (.int .u64 0)]) := rfl
  (try simp -dsimp (disch := omega) only [↓pre, sp, sp2, wp_some, Int.cast_ofNat_Int, Nat.reduceAdd, Nat.reduceMul, Nat.reduceSub, Nat.reduceLeDiff, Nat.reduceEqDiff, Nat.reducePow, Int.reduceToNat, Int.reducePow, Int.reduceAdd, Int.reduceSub, Int.reduceMul, Int.reduceLT, Int.reduceLE, Int.reduceEq, Int.reduceNeg, ↓hb])
  refine wp_box w rfl rfl fun q h1 hq k1 n1 g1 => ?_
  (try simp -dsimp (disch := omega) only [↓pre, sp, sp2, wp_some, Int.cast_ofNat_Int, Nat.reduceAdd, Nat.reduceMul, Nat.reduceSub, Nat.reduceLeDiff, Nat.reduceEqDiff, Nat.reducePow, Int.reduceToNat, Int.reducePow, Int.reduceAdd, Int.reduceSub, Int.reduceMul, Int.reduceLT, Int.reduceLE, Int.reduceEq, Int.reduceNeg])
  have hm : ((min (max k 1) 64).toNat : Int) = min (max k 1) 64 := by omega
  exact ⟨k1, q, rfl, by omega, _, ⟨_, g1⟩, rfl, rfl, rfl, rfl, by rw [hm]; rfl, rfl, rfl, rfl, rfl, rfl, by simp only; omega, by simp only; omega, by simp only; omega, Nat.zero_le _, fun _ => rfl, (fun hh => by cases hh), rfl, fun i hi => by omega⟩
theorem room_spec (H : Plain ov) (n : Nat) (w : Wf h) {cs : List AVal} {par : List Nat} {most : Nat} (g : h.get p = some ⟨.row cs T_queue_Queue_func___int_ false, .rw, par⟩) (hl : cs.length = 12) (h5 : cs[5]? = some (.int .i64 most)) (hm : most ≤ 64) :
    Wp (kc ov (n + 1) N_queue_Queue_func___int__room [.ptr (some (p, 0))] h) fun r h' => Ke (· = p) h h' ∧ ∃ v, h'.get p = some ⟨.row (cs.set 6 v) T_queue_Queue_func___int_ false, .rw, []⟩ ∧ Ow h' v T_func___int 1 most (List.replicate most .nilFunc) ∧ ∀ i, isBk v i → h.n ≤ i ∧ i < h'.n := by
  rw [C_queue_Queue_func___int__room H]; unfold F_queue_Queue_func___int__room
  have hp := w.lt _ _ g
  (try simp -dsimp (disch := omega) only [↓pre, sp, sp2, wp_some, Int.cast_ofNat_Int, Nat.reduceAdd, Nat.reduceMul, Nat.reduceSub, Nat.reduceLeDiff, Nat.reduceEqDiff, Nat.reducePow, Int.reduceToNat, Int.reducePow, Int.reduceAdd, Int.reduceSub, Int.reduceMul, Int.reduceLT, Int.reduceLE, Int.reduceEq, Int.reduceNeg, row_rw g, h5])
  refine wp_makeSl w (by omega) (by omega) (by omega) (by omega) rfl (by omega) rfl fun q h1 hq k1 n1 g1 => ?_
  rw [Int.toNat_natCast, manyT_one'] at g1
  rw [Int.toNat_natCast]
  have o1 : Ow h1 (.slice (some (q, 0, 1)) most most) T_func___int 1 most (List.replicate most .nilFunc) := Ow.new g1 (by omega) most (by rw [List.length_replicate, Nat.mul_one]) (cells_rep' most rfl)
  have gp := k1.gt g
  (try simp -dsimp (disch := omega) only [↓pre, sp, sp2, wp_some, Int.cast_ofNat_Int, Nat.reduceAdd, Nat.reduceMul, Nat.reduceSub, Nat.reduceLeDiff, Nat.reduceEqDiff, Nat.reducePow, Int.reduceToNat, Int.reducePow, Int.reduceAdd, Int.reduceSub, Int.reduceMul, Int.reduceLT, Int.reduceLE, Int.reduceEq, Int.reduceNeg])
  refine wp_store k1.w' gp rfl rfl (by omega) rfl fun h2 k2 n2 g2 => ?_
  rw [splice_one _ _ _ (by omega)] at g2
  (try simp -dsimp (disch := omega) only [↓pre, sp, sp2, wp_some, Int.cast_ofNat_Int, Nat.reduceAdd, Nat.reduceMul, Nat.reduceSub, Nat.reduceLeDiff, Nat.reduceEqDiff, Nat.reducePow, Int.reduceToNat, Int.reducePow, Int.reduceAdd, Int.reduceSub, Int.reduceMul, Int.reduceLT, Int.reduceLE, Int.reduceEq, Int.reduceNeg])
  exact ⟨(Kp.ke k1).trans k2, _, g2, o1.ke k2 fun i hi hh => by simp only [isBk] at hi; omega, fun i hi => by simp only [isBk] at hi; omega⟩
/-- The room is there. -/
theorem once_spec (X : Xs ov) (n : Nat) (w : Wf h) (Q : Qu T_queue_Queue_func___int_ T_func___int h p s 0 F) :
    Wp (kc ov (n + 6) N_sync_Once_Do [.ptr (some (p, 2)), .func (.func N_queue_Queue_func___int__room) [.ptr (some (p, 0))] []] h) fun r h' => Ke F h h' ∧ Qu T_queue_Queue_func___int_ T_func___int h' p { s with made := true } 0 (Gr F h h') := by
  obtain ⟨cs, C⟩ := Q
  obtain ⟨par, g⟩ := C.g
  have hl := C.l
  have hp := w.lt _ _ g
  cases hm : s.made with
  | true =>
    have c2 := C.c2
    rw [hm] at c2
    have e := once_done X (n + 3) (off := 2) (row_rw g) c2 (.func (.func N_queue_Queue_func___int__room) [.ptr (some (p, 0))] [])
    rw [e]
    refine Wp.ret ⟨Ke.refl w, ?_⟩
    have : ({ s with made := true } : QSt) = s := by rw [← hm]
    rw [this]
    exact Qu.grow ⟨cs, C⟩ (fun i hi => .inl hi) fun i hi => by
      rcases hi with hi | hi
      · exact C.fl i hi
      · omega
  | false =>
    have c2 := C.c2
    rw [hm] at c2
    refine (once_first X n w g c2 C.c3 (R := fun cs2 h2 => ∃ v, cs2 = (cs.set 3 (.int .i32 1)).set 6 v ∧ Ow h2 v T_func___int 1 s.most (List.replicate s.most .nilFunc) ∧ ∀ i, isBk v i → h.n ≤ i ∧ i < h2.n) fun h1 k1 n1 g1 => ?_).mono ?_
    · have hc : rCallV (kc ov (n + 4)) (.func (.func N_queue_Queue_func___int__room) [.ptr (some (p, 0))] []) [] h1 = kc ov (n + 4) N_queue_Queue_func___int__room [.ptr (some (p, 0))] h1 := rfl
      rw [hc]
      rw [splice_one _ _ _ (by omega)] at g1
      refine (room_spec X.p (n + 3) k1.w' g1 (by rw [List.length_set]; exact hl) (by rw [List.getElem?_set_ne (by omega)]; exact C.c5) C.m64).mono ?_
      rintro r h2 ⟨k2, v, g2, o2, f2⟩
      refine ⟨k2, _, _, g2, ?_, v, rfl, o2, fun i hi => by have := f2 i hi; omega⟩
      rw [List.getElem?_set_ne (by omega), List.getElem?_set, if_pos rfl, if_pos (by omega)]
    · rintro r h' ⟨e, k, cs2, h2, k2, ⟨v, rfl, o, f⟩, g'⟩
      rw [splice_one ((cs.set 3 (.int .i32 1)).set 6 v) 2 (.int .u32 1) (by simp; omega), splice_one _ _ _ (by simp; omega)] at g'
      have hfp : ∀ i, i = p → F i := fun i hi => by subst hi; exact C.fp
      have hw := C.nm hm
      refine ⟨k.mono hfp, _, ⟨_, g'⟩, by simp [hl], ?_, ?_, ?_, ?_, ?_, ?_, ?_, ?_, ?_, C.m1, C.m64, C.at_, C.n, fun hh => (by cases hh), fun _ => ⟨v, _, ?_, o.ke k2 fun i hi hh => by have := f i hi; omega, fun i hi => ⟨by have := f i hi; omega, .inr ⟨(f i hi).1, by have := f i hi; have := k2.n; omega⟩⟩, fun k y hk => by rw [show ({ s with made := true } : QSt).w = [] from hw] at hk; simp at hk⟩, .inl C.fp, fun i hi => ?_⟩
      · simp only [ne_eq, List.getElem?_set_ne, Nat.reduceEqDiff, not_false_eq_true]; exact C.c0
      · rw [List.getElem?_set_ne (by omega), List.getElem?_set, if_pos rfl, if_pos (by simp; omega)]; rfl
      · rw [List.getElem?_set, if_pos rfl, if_pos (by simp; omega)]
      · simp only [ne_eq, List.getElem?_set_ne, Nat.reduceEqDiff, not_false_eq_true]; exact C.c5
      · simp only [ne_eq, List.getElem?_set_ne, Nat.reduceEqDiff, not_false_eq_true]; exact C.c7
      · simp only [ne_eq, List.getElem?_set_ne, Nat.reduceEqDiff, not_false_eq_true]; exact C.c8
      · simp only [ne_eq, List.getElem?_set_ne, Nat.reduceEqDiff, not_false_eq_true]; exact C.c9
      · simp only [ne_eq, List.getElem?_set_ne, Nat.reduceEqDiff, not_false_eq_true]; exact C.c10
      · simp only [ne_eq, List.getElem?_set_ne, Nat.reduceEqDiff, not_false_eq_true]; exact C.c11
      · rw [List.getElem?_set_ne (by omega), List.getElem?_set_ne (by omega), List.getElem?_set, if_pos rfl, if_pos (by simp; omega)]
      · rcases hi with hi | hi
        · have := C.fl i hi; have := k.n; omega
        · exact hi.2
/-- The first thing is taken, behind the lock. -/
theorem first_spec (X : Xs ov) (n : Nat) (w : Wf h) (Q : Qu T_queue_Queue_func___int_ T_func___int h p s 1 F) (hc : s.tak < 2 ^ 62) :
    Wp (kc ov (n + 3) N_queue_Queue_func___int__first [.ptr (some (p, 0))] h) fun r h' => Ke F h h' ∧ match s.w with
      | [] => r = .tuple [.nilFunc, .bool false] ∧ Qu T_queue_Queue_func___int_ T_func___int h' p s 1 (Gr F h h')
      | y :: _ => r = .tuple [y, .bool true] ∧ Qu T_queue_Queue_func___int_ T_func___int h' p s.pop 1 (Gr F h h') := by
  rw [C_queue_Queue_func___int__first X.p]; unfold F_queue_Queue_func___int__first
  obtain ⟨cs, C⟩ := Q
  have Q : Qu T_queue_Queue_func___int_ T_func___int h p s 1 F := ⟨cs, C⟩
  obtain ⟨par, g⟩ := C.g
  have hl := C.l
  have hp := w.lt _ _ g
  (try simp -dsimp (disch := omega) only [↓pre, sp, sp2, wp_some, Int.cast_ofNat_Int, Nat.reduceAdd, Nat.reduceMul, Nat.reduceSub, Nat.reduceLeDiff, Nat.reduceEqDiff, Nat.reducePow, Int.reduceToNat, Int.reducePow, Int.reduceAdd, Int.reduceSub, Int.reduceMul, Int.reduceLT, Int.reduceLE, Int.reduceEq, Int.reduceNeg, row_rw g, C.c8])
  have hcs : s.w = [] ∨ ∃ y ys, s.w = y :: ys := by cases s.w <;> simp
  rcases hcs with hw | ⟨y, ys, hw⟩
  · have e0 : ((s.w.length : Nat) : Int) = 0 := by rw [hw]; rfl
    have QG : Qu T_queue_Queue_func___int_ T_func___int h p s 1 (Gr F h h) := Q.grow (fun i hi => .inl hi) fun i hi => by
      rcases hi with hi | hi
      · exact C.fl i hi
      · omega
    refine wp_ite (fun _ => ?_) (fun c => absurd e0 c)
    rw [hw]
    exact Wp.ret ⟨Ke.refl w, rfl, QG⟩
  · have hn0 : ¬ ((s.w.length : Nat) : Int) = 0 := by rw [hw, List.length_cons]; omega
    have hmade : s.made = true := by
      cases hm : s.made with
      | true => rfl
      | false => have := C.nm hm; rw [hw] at this; cases this
    obtain ⟨v, ring, e6, o, f, rg⟩ := C.r hmade
    have hat := C.at_
    have h0 := rg 0 y (by rw [hw]; rfl)
    rw [Nat.add_zero, Nat.mod_eq_of_lt hat] at h0
    have hrl : ring.length = s.most * 1 := o.rd.clen
    have hld : rLoad (ea v s.at_) h = some y := by rw [o.rd.ld (by omega)]; exact h0
    have ha := o.rd.at (k := .i64) (i := (s.at_ : Int)) (by omega) (by omega)
    rw [Int.toNat_natCast, Nat.mul_one] at ha
    refine wp_ite (fun c => absurd c hn0) (fun _ => ?_)
    (try simp -dsimp (disch := omega) only [↓pre, sp, sp2, wp_some, Int.cast_ofNat_Int, Nat.reduceAdd, Nat.reduceMul, Nat.reduceSub, Nat.reduceLeDiff, Nat.reduceEqDiff, Nat.reducePow, Int.reduceToNat, Int.reducePow, Int.reduceAdd, Int.reduceSub, Int.reduceMul, Int.reduceLT, Int.reduceLE, Int.reduceEq, Int.reduceNeg, row_rw g, C.c7, e6, ha, hld])
    refine wp_storeOw w o rfl rfl rfl (by omega) (by omega) rfl fun h1 o1 k1 n1 => ?_
    rw [splice_one _ _ _ (by omega)] at o1
    have g1 := k1.gt g fun hh => (f p hh).1 rfl
    have ea1 : (s.at_ : Int) + 1 = ((s.at_ + 1 : Nat) : Int) := by omega
    have hm1 := C.m1
    have hm0 : ¬ ((s.most : Nat) : Int) = 0 := by omega
    have er : Int.tmod ((s.at_ + 1 : Nat) : Int) ((s.most : Nat) : Int) = (((s.at_ + 1) % s.most : Nat) : Int) := (Int.ofNat_tmod _ _).symm
    have es : ((s.w.length : Nat) : Int) - 1 = ((s.w.length - 1 : Nat) : Int) := by rw [hw, List.length_cons]; omega
    have c8 := C.c8
    have hn64 := C.n
    have h64 := C.m64
    (try simp -dsimp (disch := omega) only [↓pre, sp, sp2, wp_some, Int.cast_ofNat_Int, Nat.reduceAdd, Nat.reduceMul, Nat.reduceSub, Nat.reduceLeDiff, Nat.reduceEqDiff, Nat.reducePow, Int.reduceToNat, Int.reducePow, Int.reduceAdd, Int.reduceSub, Int.reduceMul, Int.reduceLT, Int.reduceLE, Int.reduceEq, Int.reduceNeg, row_rw g1, C.c7, e6, C.c5, c8, ea1, er, es])
    refine wp_store k1.w' g1 rfl rfl (by omega) rfl fun h2 k2 n2 g2 => ?_
    rw [splice_one _ _ _ (by omega)] at g2
    (try simp -dsimp (disch := omega) only [↓pre, sp, sp2, wp_some, Int.cast_ofNat_Int, Nat.reduceAdd, Nat.reduceMul, Nat.reduceSub, Nat.reduceLeDiff, Nat.reduceEqDiff, Nat.reducePow, Int.reduceToNat, Int.reducePow, Int.reduceAdd, Int.reduceSub, Int.reduceMul, Int.reduceLT, Int.reduceLE, Int.reduceEq, Int.reduceNeg])
    refine wp_store k2.w' g2 rfl rfl (by rw [List.length_set]; omega) rfl fun h3 k3 n3 g3 => ?_
    rw [splice_one _ _ _ (by rw [List.length_set]; omega)] at g3
    (try simp -dsimp (disch := omega) only [↓pre, sp, sp2, wp_some, Int.cast_ofNat_Int, Nat.reduceAdd, Nat.reduceMul, Nat.reduceSub, Nat.reduceLeDiff, Nat.reduceEqDiff, Nat.reducePow, Int.reduceToNat, Int.reducePow, Int.reduceAdd, Int.reduceSub, Int.reduceMul, Int.reduceLT, Int.reduceLE, Int.reduceEq, Int.reduceNeg])
    have c11 : ((cs.set 7 (.int .i64 (((s.at_ + 1) % s.most : Nat) : Int))).set 8 (.int .i64 ((s.w.length - 1 : Nat) : Int)))[11]? = some (.int .u64 s.tak) := by
      rw [List.getElem?_set_ne (by omega), List.getElem?_set_ne (by omega)]; exact C.c11
    refine Wp.bind (uadd_spec X n k3.w' g3 c11) fun v4 h4 ⟨e4, k4, n4, g4⟩ => ?_
    have ew : IntKind.wrap .u64 ((s.tak : Int) + 1) = ((s.tak + 1 : Nat) : Int) := by rw [num.2.2.2.2.2.2.2.1 _ (by omega) (by omega)]; omega
    rw [ew, splice_one _ _ _ (by simp; omega)] at g4
    have hfp : ∀ i, i = p → F i := fun i hi => by subst hi; exact C.fp
    have K : Ke F h h4 := (k1.mono fun i hi => (f i hi).2).trans (((k2.trans k3).trans k4).mono hfp)
    have kp : Ke (· = p) h1 h4 := (k2.trans k3).trans k4
    rw [hw]
    refine Wp.ret ⟨K, rfl, _, ⟨_, g4⟩, by simp [hl], ?_, ?_, ?_, ?_, ?_, ?_, ?_, ?_, ?_, C.m1, C.m64, Nat.mod_lt _ (show 0 < s.most by omega), by simp only [QSt.pop, List.length_tail]; omega, (fun hh => by rw [show s.pop.made = s.made from rfl, hmade] at hh; cases hh), fun _ => ⟨v, _, ?_, o1.ke kp fun i hi hh => (f i hi).1 hh, fun i hi => ⟨(f i hi).1, .inl (f i hi).2⟩, fun k z hk => ?_⟩, .inl C.fp, fun i hi => ?_⟩
    · simp only [ne_eq, List.getElem?_set_ne, Nat.reduceEqDiff, not_false_eq_true]; exact C.c0
    · simp only [ne_eq, List.getElem?_set_ne, Nat.reduceEqDiff, not_false_eq_true]; exact C.c2
    · simp only [ne_eq, List.getElem?_set_ne, Nat.reduceEqDiff, not_false_eq_true]; exact C.c3
    · simp only [ne_eq, List.getElem?_set_ne, Nat.reduceEqDiff, not_false_eq_true]; exact C.c5
    · rw [List.getElem?_set_ne (by omega), List.getElem?_set_ne (by omega), List.getElem?_set, if_pos rfl, if_pos (by omega)]; rfl
    · rw [List.getElem?_set_ne (by omega), List.getElem?_set, if_pos rfl, if_pos (by simp; omega)]; simp [QSt.pop]
    · simp only [ne_eq, List.getElem?_set_ne, Nat.reduceEqDiff, not_false_eq_true]; exact C.c9
    · simp only [ne_eq, List.getElem?_set_ne, Nat.reduceEqDiff, not_false_eq_true]; exact C.c10
    · rw [List.getElem?_set, if_pos rfl, if_pos (by simp; omega)]; rfl
    · simp only [ne_eq, List.getElem?_set_ne, Nat.reduceEqDiff, not_false_eq_true]; exact e6
    · have hk2 : s.w[k + 1]? = some z := by
        have : s.pop.w = ys := by simp [QSt.pop, hw]
        rw [this] at hk
        rw [hw]; simpa using hk
      have hkl := lt_of_at hk2
      have hr := rg (k + 1) z hk2
      have hmod : (s.pop.at_ + k) % s.pop.most = (s.at_ + (k + 1)) % s.most := by
        simp only [QSt.pop]
        rw [Nat.mod_add_mod]; congr 1; omega
      rw [hmod, List.getElem?_set_ne ?_]
      · exact hr
      · intro hh
        have : (s.at_ + (k + 1)) % s.most = if s.at_ + (k + 1) < s.most then s.at_ + (k + 1) else s.at_ + (k + 1) - s.most := by
          split
          · rename_i q; exact Nat.mod_eq_of_lt q
          · rw [Nat.mod_eq_sub_mod (by omega), Nat.mod_eq_of_lt (by omega)]
        split at this <;> omega
    · rcases hi with hi | hi
      · have := C.fl i hi; have := K.n; omega
      · exact hi.2
theorem put_spec (X : Xs ov) (n : Nat) (w : Wf h) (Q : Qu T_queue_Queue_func___int_ T_func___int h p s 0 F) (hc : s.put < 2 ^ 62 ∧ s.ref < 2 ^ 62) {y : AVal} (hy : y.isCell = true) :
    Wp (kc ov (n + 7) N_queue_Queue_func___int__Put [.ptr (some (p, 0)), y] h) fun r h' => Ke F h h' ∧ r = .int .i64 (if s.w.length = s.most then 240 else 0) ∧ Qu T_queue_Queue_func___int_ T_func___int h' p (s.push y) 0 (Gr F h h') := by
  rw [C_queue_Queue_func___int__Put X.p]; unfold F_queue_Queue_func___int__Put
  (try simp -dsimp (disch := omega) only [↓pre, sp, sp2, wp_some, Int.cast_ofNat_Int, Nat.reduceAdd, Nat.reduceMul, Nat.reduceSub, Nat.reduceLeDiff, Nat.reduceEqDiff, Nat.reducePow, Int.reduceToNat, Int.reducePow, Int.reduceAdd, Int.reduceSub, Int.reduceMul, Int.reduceLT, Int.reduceLE, Int.reduceEq, Int.reduceNeg, Nat.zero_add])
  refine Wp.bind (once_spec X n w Q) fun v1 h1 ⟨k1, Q1⟩ => ?_
  obtain ⟨cs, C⟩ := Q1
  obtain ⟨par, g⟩ := C.g
  have hl := C.l
  (try simp -dsimp (disch := omega) only [↓pre, sp, sp2, wp_some, Int.cast_ofNat_Int, Nat.reduceAdd, Nat.reduceMul, Nat.reduceSub, Nat.reduceLeDiff, Nat.reduceEqDiff, Nat.reducePow, Int.reduceToNat, Int.reducePow, Int.reduceAdd, Int.reduceSub, Int.reduceMul, Int.reduceLT, Int.reduceLE, Int.reduceEq, Int.reduceNeg, Nat.add_zero])
  refine Wp.bind (lock_spec X (n + 3) k1.w' g C.c0) fun v2 h2 ⟨e2, k2, n2, g2⟩ => ?_
  rw [splice_one _ _ _ (by omega)] at g2
  obtain ⟨v, ring, e6, o, f, rg⟩ := C.r rfl
  have hrl : ring.length = s.most * 1 := o.rd.clen
  have b5 : (cs.set 0 (.int .i32 1))[5]? = some (.int .i64 s.most) := by rw [List.getElem?_set_ne (by omega)]; exact C.c5
  have b6 : (cs.set 0 (.int .i32 1))[6]? = some v := by rw [List.getElem?_set_ne (by omega)]; exact e6
  have b7 : (cs.set 0 (.int .i32 1))[7]? = some (.int .i64 s.at_) := by rw [List.getElem?_set_ne (by omega)]; exact C.c7
  have b8 : (cs.set 0 (.int .i32 1))[8]? = some (.int .i64 s.w.length) := by rw [List.getElem?_set_ne (by omega)]; exact C.c8
  have o2 : Ow h2 v T_func___int 1 s.most ring := o.ke k2 fun i hi hh => (f i hi).1 hh
  have hfp : ∀ i, i = p → Gr F h h1 i := fun i hi => by subst hi; exact C.fp
  have hgr : ∀ {a : AH}, Ke (Gr F h h1) h1 a → Ke F h a ∧ ∀ i, Gr (Gr F h h1) h1 a i → Gr F h a i := fun {a} k => by
    refine ⟨k1.new k fun i hi => ?_, fun i hi => ?_⟩
    · rcases hi with hi | hi
      · exact .inl hi
      · exact .inr hi.1
    · have := k.n
      have := k1.n
      rcases hi with (hi | hi) | hi
      · exact .inl hi
      · exact .inr ⟨hi.1, by omega⟩
      · exact .inr ⟨by omega, hi.2⟩
  have hm1 : 1 ≤ s.most := C.m1; have h64 : s.most ≤ 64 := C.m64; have hat : s.at_ < s.most := C.at_; have hn : s.w.length ≤ s.most := C.n
  (try simp -dsimp (disch := omega) only [↓pre, sp, sp2, wp_some, Int.cast_ofNat_Int, Nat.reduceAdd, Nat.reduceMul, Nat.reduceSub, Nat.reduceLeDiff, Nat.reduceEqDiff, Nat.reducePow, Int.reduceToNat, Int.reducePow, Int.reduceAdd, Int.reduceSub, Int.reduceMul, Int.reduceLT, Int.reduceLE, Int.reduceEq, Int.reduceNeg, row_rw g2, b5, b8])
  refine wp_ite (fun c => ?_) (fun c => ?_)
  · have c' : s.w.length = s.most := by omega
    have ep : s.push y = { s with ref := s.ref + 1, made := true } := by unfold QSt.push; rw [if_pos c']
    rw [ep, if_pos c']
    have b10 : (cs.set 0 (.int .i32 1))[10]? = some (.int .u64 s.ref) := by rw [List.getElem?_set_ne (by omega)]; exact C.c10
    (try simp -dsimp (disch := omega) only [↓pre, sp, sp2, wp_some, Int.cast_ofNat_Int, Nat.reduceAdd, Nat.reduceMul, Nat.reduceSub, Nat.reduceLeDiff, Nat.reduceEqDiff, Nat.reducePow, Int.reduceToNat, Int.reducePow, Int.reduceAdd, Int.reduceSub, Int.reduceMul, Int.reduceLT, Int.reduceLE, Int.reduceEq, Int.reduceNeg])
    refine Wp.bind (uadd_spec X (n + 4) k2.w' g2 b10) fun v3 h3 ⟨e3, k3, n3, g3⟩ => ?_
    have ew : IntKind.wrap .u64 ((s.ref : Int) + 1) = ((s.ref + 1 : Nat) : Int) := by rw [num.2.2.2.2.2.2.2.1 _ (by omega) (by omega)]; omega
    rw [ew, splice_one _ _ _ (by simp; omega)] at g3
    have b0 : ((cs.set 0 (.int .i32 1)).set 10 (.int .u64 ((s.ref + 1 : Nat) : Int)))[0]? = some (.int .i32 1) := by
      rw [List.getElem?_set_ne (by omega), List.getElem?_set, if_pos rfl, if_pos (by omega)]
    (try simp -dsimp (disch := omega) only [↓pre, sp, sp2, wp_some, Int.cast_ofNat_Int, Nat.reduceAdd, Nat.reduceMul, Nat.reduceSub, Nat.reduceLeDiff, Nat.reduceEqDiff, Nat.reducePow, Int.reduceToNat, Int.reducePow, Int.reduceAdd, Int.reduceSub, Int.reduceMul, Int.reduceLT, Int.reduceLE, Int.reduceEq, Int.reduceNeg])
    refine Wp.bind (unlock_specD X (n + 4) k3.w' g3 b0) fun v4 h4 ⟨e4, k4, n4, g4⟩ => ?_
    rw [splice_one _ _ _ (by simp; omega)] at g4
    have kp : Ke (· = p) h1 h4 := (k2.trans k3).trans k4
    obtain ⟨K, G⟩ := hgr (kp.mono hfp)
    refine Wp.ret ⟨K, rfl, Qu.grow (F := Gr (Gr F h h1) h1 h4) ⟨_, ⟨_, g4⟩, by simp [hl], ?_, ?_, ?_, ?_, ?_, ?_, ?_, ?_, ?_, C.m1, C.m64, C.at_, C.n, fun hh => (by cases hh), fun _ => ⟨v, ring, ?_, o.ke kp fun i hi hh => (f i hi).1 hh, fun i hi => ⟨(f i hi).1, .inl (f i hi).2⟩, rg⟩, .inl C.fp, fun i hi => ?_⟩ G fun i hi => ?_⟩
    · rw [List.getElem?_set, if_pos rfl, if_pos (by simp; omega)]
    · simp only [ne_eq, List.getElem?_set_ne, Nat.reduceEqDiff, not_false_eq_true]; exact C.c2
    · simp only [ne_eq, List.getElem?_set_ne, Nat.reduceEqDiff, not_false_eq_true]; exact C.c3
    · simp only [ne_eq, List.getElem?_set_ne, Nat.reduceEqDiff, not_false_eq_true]; exact C.c5
    · simp only [ne_eq, List.getElem?_set_ne, Nat.reduceEqDiff, not_false_eq_true]; exact C.c7
    · simp only [ne_eq, List.getElem?_set_ne, Nat.reduceEqDiff, not_false_eq_true]; exact C.c8
    · simp only [ne_eq, List.getElem?_set_ne, Nat.reduceEqDiff, not_false_eq_true]; exact C.c9
    · rw [List.getElem?_set_ne (by omega), List.getElem?_set, if_pos rfl, if_pos (by simp; omega)]
    · simp only [ne_eq, List.getElem?_set_ne, Nat.reduceEqDiff, not_false_eq_true]; exact C.c11
    · simp only [ne_eq, List.getElem?_set_ne, Nat.reduceEqDiff, not_false_eq_true]; exact e6
    · rcases hi with hi | hi
      · have := C.fl i hi; have := kp.n; omega
      · exact hi.2
    · rcases hi with hi | hi
      · have : Gr F h h1 i := .inl hi
        have := C.fl i this; have := kp.n; omega
      · exact hi.2
  · have c' : ¬ s.w.length = s.most := by omega
    have ep : s.push y = { s with w := s.w ++ [y], put := s.put + 1, made := true } := by unfold QSt.push; rw [if_neg c']
    rw [ep, if_neg c']
    have eat : (s.at_ : Int) + s.w.length = ((s.at_ + s.w.length : Nat) : Int) := by omega
    have hm0 : ¬ ((s.most : Nat) : Int) = 0 := by omega
    have er : Int.tmod ((s.at_ + s.w.length : Nat) : Int) ((s.most : Nat) : Int) = (((s.at_ + s.w.length) % s.most : Nat) : Int) := (Int.ofNat_tmod _ _).symm
    have hmod := Nat.mod_lt (s.at_ + s.w.length) (show 0 < s.most by omega)
    have ha := o2.rd.at (k := .i64) (i := (((s.at_ + s.w.length) % s.most : Nat) : Int)) (by omega) (by omega)
    rw [Int.toNat_natCast, Nat.mul_one] at ha
    (try simp -dsimp (disch := omega) only [↓pre, sp, sp2, wp_some, Int.cast_ofNat_Int, Nat.reduceAdd, Nat.reduceMul, Nat.reduceSub, Nat.reduceLeDiff, Nat.reduceEqDiff, Nat.reducePow, Int.reduceToNat, Int.reducePow, Int.reduceAdd, Int.reduceSub, Int.reduceMul, Int.reduceLT, Int.reduceLE, Int.reduceEq, Int.reduceNeg, row_rw g2, b5, b6, b7, b8, eat, er, ha])
    refine wp_storeOw k2.w' o2 rfl (cells_of hy) rfl (by omega) (by omega) (by simp only [ic, hy]) fun h3 o3 k3 n3 => ?_
    rw [splice_one _ _ _ (by omega)] at o3
    have g3 := k3.gt g2 fun hh => (f p hh).1 rfl
    have ew8 : (s.w.length : Int) + 1 = ((s.w.length + 1 : Nat) : Int) := by omega
    (try simp -dsimp (disch := omega) only [↓pre, sp, sp2, wp_some, Int.cast_ofNat_Int, Nat.reduceAdd, Nat.reduceMul, Nat.reduceSub, Nat.reduceLeDiff, Nat.reduceEqDiff, Nat.reducePow, Int.reduceToNat, Int.reducePow, Int.reduceAdd, Int.reduceSub, Int.reduceMul, Int.reduceLT, Int.reduceLE, Int.reduceEq, Int.reduceNeg, row_rw g3, b5, b6, b7, b8, ew8])
    refine wp_store k3.w' g3 rfl rfl (by rw [List.length_set]; omega) rfl fun h4 k4 n4 g4 => ?_
    rw [splice_one _ _ _ (by rw [List.length_set]; omega)] at g4
    have b9 : ((cs.set 0 (.int .i32 1)).set 8 (.int .i64 ((s.w.length + 1 : Nat) : Int)))[9]? = some (.int .u64 s.put) := by rw [List.getElem?_set_ne (by omega), List.getElem?_set_ne (by omega)]; exact C.c9
    (try simp -dsimp (disch := omega) only [↓pre, sp, sp2, wp_some, Int.cast_ofNat_Int, Nat.reduceAdd, Nat.reduceMul, Nat.reduceSub, Nat.reduceLeDiff, Nat.reduceEqDiff, Nat.reducePow, Int.reduceToNat, Int.reducePow, Int.reduceAdd, Int.reduceSub, Int.reduceMul, Int.reduceLT, Int.reduceLE, Int.reduceEq, Int.reduceNeg])
    refine Wp.bind (uadd_spec X (n + 4) k4.w' g4 b9) fun v5 h5 ⟨e5, k5, n5, g5⟩ => ?_
    have ew : IntKind.wrap .u64 ((s.put : Int) + 1) = ((s.put + 1 : Nat) : Int) := by rw [num.2.2.2.2.2.2.2.1 _ (by omega) (by omega)]; omega
    rw [ew, splice_one _ _ _ (by simp; omega)] at g5
    have b0 : (((cs.set 0 (.int .i32 1)).set 8 (.int .i64 ((s.w.length + 1 : Nat) : Int))).set 9 (.int .u64 ((s.put + 1 : Nat) : Int)))[0]? = some (.int .i32 1) := by
      rw [List.getElem?_set_ne (by omega), List.getElem?_set_ne (by omega), List.getElem?_set, if_pos rfl, if_pos (by omega)]
    (try simp -dsimp (disch := omega) only [↓pre, sp, sp2, wp_some, Int.cast_ofNat_Int, Nat.reduceAdd, Nat.reduceMul, Nat.reduceSub, Nat.reduceLeDiff, Nat.reduceEqDiff, Nat.reducePow, Int.reduceToNat, Int.reducePow, Int.reduceAdd, Int.reduceSub, Int.reduceMul, Int.reduceLT, Int.reduceLE, Int.reduceEq, Int.reduceNeg])
    refine Wp.bind (unlock_specD X (n + 4) k5.w' g5 b0) fun v6 h6 ⟨e6', k6, n6, g6⟩ => ?_
    rw [splice_one _ _ _ (by simp; omega)] at g6
    have kp : Ke (· = p) h3 h6 := (k4.trans k5).trans k6
    have K16 : Ke (Gr F h h1) h1 h6 := ((k2.mono hfp).trans (k3.mono fun i hi => (f i hi).2)).trans (kp.mono hfp)
    obtain ⟨K, G⟩ := hgr K16
    refine Wp.ret ⟨K, rfl, Qu.grow (F := Gr (Gr F h h1) h1 h6) ⟨_, ⟨_, g6⟩, by simp [hl], ?_, ?_, ?_, ?_, ?_, ?_, ?_, ?_, ?_, C.m1, C.m64, C.at_, by simp only [List.length_append, List.length_cons, List.length_nil]; omega, fun hh => (by cases hh), fun _ => ⟨v, _, ?_, o3.ke kp fun i hi hh => (f i hi).1 hh, fun i hi => ⟨(f i hi).1, .inl (f i hi).2⟩, fun k z hk => ?_⟩, .inl C.fp, fun i hi => ?_⟩ G fun i hi => ?_⟩
    · rw [List.getElem?_set, if_pos rfl, if_pos (by simp; omega)]
    · simp only [ne_eq, List.getElem?_set_ne, Nat.reduceEqDiff, not_false_eq_true]; exact C.c2
    · simp only [ne_eq, List.getElem?_set_ne, Nat.reduceEqDiff, not_false_eq_true]; exact C.c3
    · simp only [ne_eq, List.getElem?_set_ne, Nat.reduceEqDiff, not_false_eq_true]; exact C.c5
    · simp only [ne_eq, List.getElem?_set_ne, Nat.reduceEqDiff, not_false_eq_true]; exact C.c7
    · rw [List.getElem?_set_ne (by omega), List.getElem?_set_ne (by omega), List.getElem?_set, if_pos rfl, if_pos (by simp; omega)]; simp
    · rw [List.getElem?_set_ne (by omega), List.getElem?_set, if_pos rfl, if_pos (by simp; omega)]
    · simp only [ne_eq, List.getElem?_set_ne, Nat.reduceEqDiff, not_false_eq_true]; exact C.c10
    · simp only [ne_eq, List.getElem?_set_ne, Nat.reduceEqDiff, not_false_eq_true]; exact C.c11
    · simp only [ne_eq, List.getElem?_set_ne, Nat.reduceEqDiff, not_false_eq_true]; exact e6
    · simp only at hk ⊢
      by_cases ck : k < s.w.length
      · rw [List.getElem?_append_left ck] at hk
        rw [List.getElem?_set_ne ?_]
        · exact rg k z hk
        · intro hh
          have e1 : ∀ a : Nat, a < s.most → (s.at_ + a) % s.most = if s.at_ + a < s.most then s.at_ + a else s.at_ + a - s.most := fun a ha => by
            split
            · rename_i q; exact Nat.mod_eq_of_lt q
            · rw [Nat.mod_eq_sub_mod (by omega), Nat.mod_eq_of_lt (by omega)]
          have q1 := e1 k (by omega)
          have q2 := e1 s.w.length (by omega)
          split at q1 <;> split at q2 <;> omega
      · have hkl := lt_of_at hk
        rw [List.length_append, List.length_cons, List.length_nil] at hkl
        have : k = s.w.length := by omega
        subst this
        simp only [List.getElem?_append_right (Nat.le_refl _), Nat.sub_self, List.getElem?_cons_zero, Option.some.injEq] at hk
        subst hk
        rw [List.getElem?_set, if_pos rfl, if_pos (by omega)]
    · rcases hi with hi | hi
      · have := C.fl i hi; have := K16.n; omega
      · exact hi.2
    · rcases hi with hi | hi
      · have : Gr F h h1 i := .inl hi
        have := C.fl i this; have := K16.n; omega
      · exact hi.2
/-- The first thing. -/
theorem take_spec (X : Xs ov) (n : Nat) (w : Wf h) (Q : Qu T_queue_Queue_func___int_ T_func___int h p s 0 F) (hc : s.tak < 2 ^ 62) :
    Wp (kc ov (n + 4) N_queue_Queue_func___int__Take [.ptr (some (p, 0))] h) fun r h' => Ke F h h' ∧ match s.w with
      | [] => r = .tuple [.nilFunc, .bool false] ∧ Qu T_queue_Queue_func___int_ T_func___int h' p s 0 (Gr F h h')
      | y :: _ => r = .tuple [y, .bool true] ∧ Qu T_queue_Queue_func___int_ T_func___int h' p s.pop 0 (Gr F h h') := by
  rw [C_queue_Queue_func___int__Take X.p]; unfold F_queue_Queue_func___int__Take
  (try simp -dsimp (disch := omega) only [↓pre, sp, sp2, wp_some, Int.cast_ofNat_Int, Nat.reduceAdd, Nat.reduceMul, Nat.reduceSub, Nat.reduceLeDiff, Nat.reduceEqDiff, Nat.reducePow, Int.reduceToNat, Int.reducePow, Int.reduceAdd, Int.reduceSub, Int.reduceMul, Int.reduceLT, Int.reduceLE, Int.reduceEq, Int.reduceNeg, Nat.add_zero])
  refine Wp.bind (Q.dolock X n w) fun v1 h1 ⟨k1, n1, Q1⟩ => ?_
  (try simp -dsimp (disch := omega) only [↓pre, sp, sp2, wp_some, Int.cast_ofNat_Int, Nat.reduceAdd, Nat.reduceMul, Nat.reduceSub, Nat.reduceLeDiff, Nat.reduceEqDiff, Nat.reducePow, Int.reduceToNat, Int.reducePow, Int.reduceAdd, Int.reduceSub, Int.reduceMul, Int.reduceLT, Int.reduceLE, Int.reduceEq, Int.reduceNeg])
  refine Wp.bind (first_spec X n k1.w' Q1 hc) fun v2 h2 ⟨k2, q2⟩ => ?_
  have hn2 := k2.n
  have hg : ∀ i, Gr F h1 h2 i → Gr F h h2 i := fun i hi => hi.imp id fun hi => ⟨by omega, hi.2⟩
  have hcs : s.w = [] ∨ ∃ y ys, s.w = y :: ys := by cases s.w <;> simp
  rcases hcs with hw | ⟨y, ys, hw⟩
  · rw [hw] at q2 ⊢
    obtain ⟨rfl, Q2⟩ := q2
    (try simp -dsimp (disch := omega) only [↓pre, sp, sp2, wp_some, Int.cast_ofNat_Int, Nat.reduceAdd, Nat.reduceMul, Nat.reduceSub, Nat.reduceLeDiff, Nat.reduceEqDiff, Nat.reducePow, Int.reduceToNat, Int.reducePow, Int.reduceAdd, Int.reduceSub, Int.reduceMul, Int.reduceLT, Int.reduceLE, Int.reduceEq, Int.reduceNeg])
    refine Wp.bind (Q2.unlock X (n + 1) k2.w') fun v3 h3 ⟨k3, n3, Q3⟩ => ?_
    refine Wp.ret ⟨(k1.trans k2).new k3 fun i hi => hi.imp id fun hi => by omega, rfl, ?_⟩
    obtain ⟨cs, C⟩ := id Q3
    exact Q3.grow (fun i hi => by rcases hi with hi | hi; exact .inl hi; exact .inr ⟨by omega, by omega⟩) fun i hi => by
      rcases hi with hi | hi
      · exact C.fl i (.inl hi)
      · exact hi.2
  · rw [hw] at q2 ⊢
    obtain ⟨rfl, Q2⟩ := q2
    (try simp -dsimp (disch := omega) only [↓pre, sp, sp2, wp_some, Int.cast_ofNat_Int, Nat.reduceAdd, Nat.reduceMul, Nat.reduceSub, Nat.reduceLeDiff, Nat.reduceEqDiff, Nat.reducePow, Int.reduceToNat, Int.reducePow, Int.reduceAdd, Int.reduceSub, Int.reduceMul, Int.reduceLT, Int.reduceLE, Int.reduceEq, Int.reduceNeg])
    refine Wp.bind (Q2.unlock X (n + 1) k2.w') fun v3 h3 ⟨k3, n3, Q3⟩ => ?_
    refine Wp.ret ⟨(k1.trans k2).new k3 fun i hi => hi.imp id fun hi => by omega, rfl, ?_⟩
    obtain ⟨cs, C⟩ := id Q3
    exact Q3.grow (fun i hi => by rcases hi with hi | hi; exact .inl hi; exact .inr ⟨by omega, by omega⟩) fun i hi => by
      rcases hi with hi | hi
      · exact C.fl i (.inl hi)
      · exact hi.2
theorem len_spec (X : Xs ov) (n : Nat) (w : Wf h) (Q : Qu T_queue_Queue_func___int_ T_func___int h p s 0 F) :
    Wp (kc ov (n + 4) N_queue_Queue_func___int__Len [.ptr (some (p, 0))] h) fun r h' => r = .int .i64 s.w.length ∧ Ke F h h' ∧ h'.n = h.n ∧ Qu T_queue_Queue_func___int_ T_func___int h' p s 0 F := by
  rw [C_queue_Queue_func___int__Len X.p]; unfold F_queue_Queue_func___int__Len
  (try simp -dsimp (disch := omega) only [↓pre, sp, sp2, wp_some, Int.cast_ofNat_Int, Nat.reduceAdd, Nat.reduceMul, Nat.reduceSub, Nat.reduceLeDiff, Nat.reduceEqDiff, Nat.reducePow, Int.reduceToNat, Int.reducePow, Int.reduceAdd, Int.reduceSub, Int.reduceMul, Int.reduceLT, Int.reduceLE, Int.reduceEq, Int.reduceNeg, Nat.add_zero])
  refine Wp.bind (Q.dolock X n w) fun v1 h1 ⟨k1, n1, Q1⟩ => ?_
  obtain ⟨cs, C⟩ := id Q1
  obtain ⟨par, g⟩ := C.g
  (try simp -dsimp (disch := omega) only [↓pre, sp, sp2, wp_some, Int.cast_ofNat_Int, Nat.reduceAdd, Nat.reduceMul, Nat.reduceSub, Nat.reduceLeDiff, Nat.reduceEqDiff, Nat.reducePow, Int.reduceToNat, Int.reducePow, Int.reduceAdd, Int.reduceSub, Int.reduceMul, Int.reduceLT, Int.reduceLE, Int.reduceEq, Int.reduceNeg, row_rw g, C.c8])
  refine Wp.bind (Q1.unlock X (n + 1) k1.w') fun v3 h3 ⟨k3, n3, Q3⟩ => ?_
  exact Wp.ret ⟨rfl, k1.trans k3, by omega, Q3⟩
end Go.Proofs.Ytfppdfmffdkogaa.AI.QFun
