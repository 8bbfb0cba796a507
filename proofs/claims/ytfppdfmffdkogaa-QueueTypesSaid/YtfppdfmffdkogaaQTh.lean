/- queue, of four-celled things (thing): what its functions come to. -/
import Derived.Test.YtfppdfmffdkogaaQueueB4
namespace Go.Proofs.Ytfppdfmffdkogaa.AI.QTh
open Go Go.Proofs.Ytfppdfmffdkogaa.AI
set_option linter.unusedSimpArgs false
set_option linter.unusedVariables false
variable {ov : AOver} {h : AH} {p : Nat} {s : QSt} {F : Nat → Prop} {lk : Int}

abbrev z4 : List AVal := [.str [], .int .i64 0, .int .i64 0, .slice none 0 0]
theorem z4s_len (n : Nat) : (manyT n z4).length = n * 4 := manyT_length n z4
theorem z4s_cells (n : Nat) : (manyT n z4).all AVal.isCell = true := by
  rw [List.all_eq_true]
  intro x hx
  simp only [manyT, List.mem_flatten, List.mem_replicate] at hx
  obtain ⟨l, ⟨_, rfl⟩, hx⟩ := hx
  simp only [List.mem_cons, List.not_mem_nil, or_false] at hx
  rcases hx with rfl | rfl | rfl | rfl <;> rfl
theorem new_spec (H : Plain ov) (n : Nat) (w : Wf h) (k : Int) : Wp (kc ov (n + 1) N_queue_New_runglaw24_thing_ [.int .i64 k] h) fun r h' => Kp h h' ∧ ∃ p, r = .ptr (some (p, 0)) ∧ h.n ≤ p ∧ Qu4 T_queue_Queue_runglaw24_thing_ T_runglaw24_thing h' p ⟨(min (max k 1) 64).toNat, 0, [], 0, 0, 0, false⟩ 0 (· = p) := by
  rw [C_queue_New_runglaw24_thing_ H]; unfold F_queue_New_runglaw24_thing_
  have hb : rBuild [(.int .i32 0), (.int .u32 0), (.int .u32 0), (.int .i32 0), (.int .u32 0), (.int .i64 0), (.slice none 0 0), (.int .i64 0), (.int .i64 0), (.int .u64 0), (.int .u64 0), (.int .u64 0)] [(0, 2), (2, 3), (5, 1), (6, 1), (7, 1), (8, 1), (9, 1), (10, 1), (11, 1)] [(2, .int .i64 (min (max k 1) 64))] =
    some (.agg [(.int .i32 0), (.int .u32 0), (.int .u32 0), (.int .i32 0), (.int .u32 0), (.int .i64 (min (max k 1) 64)), (.slice none 0 0), (.int .i64 0), (.int .i64 0), (.int .u64 0), (.int .u64 0), (.int .u64 0)]) := rfl
  (try simp -dsimp (disch := omega) only [↓pre, sp, sp2, wp_some, Int.cast_ofNat_Int, Nat.reduceAdd, Nat.reduceMul, Nat.reduceSub, Nat.reduceLeDiff, Nat.reduceEqDiff, Nat.reducePow, Int.reduceToNat, Int.reducePow, Int.reduceAdd, Int.reduceSub, Int.reduceMul, Int.reduceLT, Int.reduceLE, Int.reduceEq, Int.reduceNeg, ↓hb])
  refine wp_box w rfl rfl fun q h1 hq k1 n1 g1 => ?_
  (try simp -dsimp (disch := omega) only [↓pre, sp, sp2, wp_some, Int.cast_ofNat_Int, Nat.reduceAdd, Nat.reduceMul, Nat.reduceSub, Nat.reduceLeDiff, Nat.reduceEqDiff, Nat.reducePow, Int.reduceToNat, Int.reducePow, Int.reduceAdd, Int.reduceSub, Int.reduceMul, Int.reduceLT, Int.reduceLE, Int.reduceEq, Int.reduceNeg])
  have hm : ((min (max k 1) 64).toNat : Int) = min (max k 1) 64 := by omega
  exact ⟨k1, q, rfl, by omega, _, ⟨_, g1⟩, rfl, rfl, rfl, rfl, by rw [hm]; rfl, rfl, rfl, rfl, rfl, rfl, by simp only; omega, by simp only; omega, by simp only; omega, Nat.zero_le _, fun _ => rfl, (fun hh => by cases hh), rfl, fun i hi => by omega⟩
theorem room_spec (H : Plain ov) (n : Nat) (w : Wf h) {cs : List AVal} {par : List Nat} {most : Nat} (g : h.get p = some ⟨.row cs T_queue_Queue_runglaw24_thing_ false, .rw, par⟩) (hl : cs.length = 12) (h5 : cs[5]? = some (.int .i64 most)) (hm : most ≤ 64) :
    Wp (kc ov (n + 1) N_queue_Queue_runglaw24_thing__room [.ptr (some (p, 0))] h) fun r h' => Ke (· = p) h h' ∧ ∃ v, h'.get p = some ⟨.row (cs.set 6 v) T_queue_Queue_runglaw24_thing_ false, .rw, []⟩ ∧ Ow h' v T_runglaw24_thing 4 most (manyT most z4) ∧ ∀ i, isBk v i → h.n ≤ i ∧ i < h'.n := by
  rw [C_queue_Queue_runglaw24_thing__room H]; unfold F_queue_Queue_runglaw24_thing__room
  have hp := w.lt _ _ g
  (try simp -dsimp (disch := omega) only [↓pre, sp, sp2, wp_some, Int.cast_ofNat_Int, Nat.reduceAdd, Nat.reduceMul, Nat.reduceSub, Nat.reduceLeDiff, Nat.reduceEqDiff, Nat.reducePow, Int.reduceToNat, Int.reducePow, Int.reduceAdd, Int.reduceSub, Int.reduceMul, Int.reduceLT, Int.reduceLE, Int.reduceEq, Int.reduceNeg, row_rw g, h5])
  refine wp_makeSl w (by omega) (by omega) (by omega) (by omega) rfl (by omega) rfl fun q h1 hq k1 n1 g1 => ?_
  rw [Int.toNat_natCast] at g1
  rw [Int.toNat_natCast]
  have o1 : Ow h1 (.slice (some (q, 0, 4)) most most) T_runglaw24_thing 4 most (manyT most z4) := Ow.new g1 (by omega) most (z4s_len most) (z4s_cells most)
  have gp := k1.gt g
  (try simp -dsimp (disch := omega) only [↓pre, sp, sp2, wp_some, Int.cast_ofNat_Int, Nat.reduceAdd, Nat.reduceMul, Nat.reduceSub, Nat.reduceLeDiff, Nat.reduceEqDiff, Nat.reducePow, Int.reduceToNat, Int.reducePow, Int.reduceAdd, Int.reduceSub, Int.reduceMul, Int.reduceLT, Int.reduceLE, Int.reduceEq, Int.reduceNeg])
  refine wp_store k1.w' gp rfl rfl (by omega) rfl fun h2 k2 n2 g2 => ?_
  rw [splice_one _ _ _ (by omega)] at g2
  (try simp -dsimp (disch := omega) only [↓pre, sp, sp2, wp_some, Int.cast_ofNat_Int, Nat.reduceAdd, Nat.reduceMul, Nat.reduceSub, Nat.reduceLeDiff, Nat.reduceEqDiff, Nat.reducePow, Int.reduceToNat, Int.reducePow, Int.reduceAdd, Int.reduceSub, Int.reduceMul, Int.reduceLT, Int.reduceLE, Int.reduceEq, Int.reduceNeg])
  exact ⟨(Kp.ke k1).trans k2, _, g2, o1.ke k2 fun i hi hh => by simp only [isBk] at hi; omega, fun i hi => by simp only [isBk] at hi; omega⟩
/-- The room is there. -/
theorem once_spec (X : Xs ov) (n : Nat) (w : Wf h) (Q : Qu4 T_queue_Queue_runglaw24_thing_ T_runglaw24_thing h p s 0 F) :
    Wp (kc ov (n + 6) N_sync_Once_Do [.ptr (some (p, 2)), .func (.func N_queue_Queue_runglaw24_thing__room) [.ptr (some (p, 0))] []] h) fun r h' => Ke F h h' ∧ Qu4 T_queue_Queue_runglaw24_thing_ T_runglaw24_thing h' p { s with made := true } 0 (Gr F h h') := by
  obtain ⟨cs, C⟩ := Q
  obtain ⟨par, g⟩ := C.g
  have hl := C.l
  have hp := w.lt _ _ g
  cases hm : s.made with
  | true =>
    have c2 := C.c2
    rw [hm] at c2
    have e := once_done X (n + 3) (off := 2) (row_rw g) c2 (.func (.func N_queue_Queue_runglaw24_thing__room) [.ptr (some (p, 0))] [])
    rw [e]
    refine Wp.ret ⟨Ke.refl w, ?_⟩
    have : ({ s with made := true } : QSt) = s := by rw [← hm]
    rw [this]
    exact Qu4.grow ⟨cs, C⟩ (fun i hi => .inl hi) fun i hi => by
      rcases hi with hi | hi
      · exact C.fl i hi
      · omega
  | false =>
    have c2 := C.c2
    rw [hm] at c2
    refine (once_first X n w g c2 C.c3 (R := fun cs2 h2 => ∃ v, cs2 = (cs.set 3 (.int .i32 1)).set 6 v ∧ Ow h2 v T_runglaw24_thing 4 s.most (manyT s.most z4) ∧ ∀ i, isBk v i → h.n ≤ i ∧ i < h2.n) fun h1 k1 n1 g1 => ?_).mono ?_
    · have hc : rCallV (kc ov (n + 4)) (.func (.func N_queue_Queue_runglaw24_thing__room) [.ptr (some (p, 0))] []) [] h1 = kc ov (n + 4) N_queue_Queue_runglaw24_thing__room [.ptr (some (p, 0))] h1 := rfl
      rw [hc]
      rw [splice_one _ _ _ (by omega)] at g1
      refine (room_spec X.p (n + 3) k1.w' g1 (by rw [List.length_set]; exact hl) (by rw [List.getElem?_set_ne (by omega)]; exact C.c5) C.m64).mono ?_
      rintro r h2 ⟨k2, v, g2, o2, f2⟩
      refine ⟨k2, _, _, g2, ?_, v, rfl, o2, fun i hi => by have := f2 i hi; omega⟩
      rw [List.getElem?_set_ne (by omega), List.getElem?_set, if_pos rfl, if_pos (by omega)]
    · rintro r h' ⟨e, k, cs2, h2, k2, ⟨v, rfl, o, f⟩, g'⟩
      rw [splice_one ((cs.set 3 (.int .i32 1)).set 6 v) 2 (.int .u32 1) (by simp; omega), splice_one _ _ _ (by simp; omega)] at g'
      have hfp : ∀ i, i = p → F i := fun i hi => by subst hi; exact C.fp
      have hw := C.nm hm
      refine ⟨k.mono hfp, _, ⟨_, g'⟩, by simp [hl], ?_, ?_, ?_, ?_, ?_, ?_, ?_, ?_, ?_, C.m1, C.m64, C.at_, C.n, fun hh => (by cases hh), fun _ => ⟨v, _, ?_, o.ke k2 fun i hi hh => by have := f i hi; omega, fun i hi => ⟨by have := f i hi; omega, .inr ⟨(f i hi).1, by have := f i hi; have := k2.n; omega⟩⟩, fun k y hk => by rw [show ({ s with made := true } : QSt).w = [] from hw] at hk; simp at hk⟩, .inl C.fp, fun i hi => ?_⟩
      · simp only [ne_eq, List.getElem?_set_ne, Nat.reduceEqDiff, not_false_eq_true]; exact C.c0
      · rw [List.getElem?_set_ne (by omega), List.getElem?_set, if_pos rfl, if_pos (by simp; omega)]; rfl
      · rw [List.getElem?_set, if_pos rfl, if_pos (by simp; omega)]
      · simp only [ne_eq, List.getElem?_set_ne, Nat.reduceEqDiff, not_false_eq_true]; exact C.c5
      · simp only [ne_eq, List.getElem?_set_ne, Nat.reduceEqDiff, not_false_eq_true]; exact C.c7
      · simp only [ne_eq, List.getElem?_set_ne, Nat.reduceEqDiff, not_false_eq_true]; exact C.c8
      · simp only [ne_eq, List.getElem?_set_ne, Nat.reduceEqDiff, not_false_eq_true]; exact C.c9
      · simp only [ne_eq, List.getElem?_set_ne, Nat.reduceEqDiff, not_false_eq_true]; exact C.c10
      · simp only [ne_eq, List.getElem?_set_ne, Nat.reduceEqDiff, not_false_eq_true]; exact C.c11
      · rw [List.getElem?_set_ne (by omega), List.getElem?_set_ne (by omega), List.getElem?_set, if_pos rfl, if_pos (by simp; omega)]
      · rcases hi with hi | hi
        · have := C.fl i hi; have := k.n; omega
        · exact hi.2
/-- The first thing is taken, behind the lock. -/
theorem first_spec (X : Xs ov) (n : Nat) (w : Wf h) (Q : Qu4 T_queue_Queue_runglaw24_thing_ T_runglaw24_thing h p s 1 F) (hc : s.tak < 2 ^ 62) :
    Wp (kc ov (n + 3) N_queue_Queue_runglaw24_thing__first [.ptr (some (p, 0))] h) fun r h' => Ke F h h' ∧ match s.w with
      | [] => r = .tuple [.agg z4, .bool false] ∧ Qu4 T_queue_Queue_runglaw24_thing_ T_runglaw24_thing h' p s 1 (Gr F h h')
      | y :: _ => r = .tuple [y, .bool true] ∧ Qu4 T_queue_Queue_runglaw24_thing_ T_runglaw24_thing h' p s.pop 1 (Gr F h h') := by
  rw [C_queue_Queue_runglaw24_thing__first X.p]; unfold F_queue_Queue_runglaw24_thing__first
  have hFl : ∀ i, F i → i < h.n := by obtain ⟨cs, C⟩ := Q; exact C.fl
  refine wp_box w rfl rfl fun q0 ha e0 ka na g0 => ?_
  (try simp -dsimp (disch := omega) only [↓pre, sp, sp2, wp_some, Int.cast_ofNat_Int, Nat.reduceAdd, Nat.reduceMul, Nat.reduceSub, Nat.reduceLeDiff, Nat.reduceEqDiff, Nat.reducePow, Int.reduceToNat, Int.reducePow, Int.reduceAdd, Int.reduceSub, Int.reduceMul, Int.reduceLT, Int.reduceLE, Int.reduceEq, Int.reduceNeg])
  refine wp_box ka.w' rfl rfl fun q2 hb e2 kb nb g2 => ?_
  have kab : Kp h hb := ka.trans kb
  have g0b := kb.gt g0
  have Qb : Qu4 T_queue_Queue_runglaw24_thing_ T_runglaw24_thing hb p s 1 F := Q.ke kab fun i hi => hi.elim
  clear Q
  obtain ⟨cs, C⟩ := Qb
  have Qb : Qu4 T_queue_Queue_runglaw24_thing_ T_runglaw24_thing hb p s 1 F := ⟨cs, C⟩
  obtain ⟨par, g⟩ := C.g
  have hl := C.l
  have hp := hFl p C.fp
  have l2 : ∀ {h' : AH} {q : Nat} {cs : List AVal} {e : TypeId} {o : Bool} {pr : List Nat}, h'.get q = some ⟨.row cs e o, .rw, pr⟩ → cs.length = 4 → rLoadA 4 (.ptr (some (q, 0))) h' = some (.agg cs) := fun {h' q cs e o pr} g hl => by
    rw [rLoadA_ptr, row_rw g, Option.bind_some, if_pos (by omega), List.drop_zero, List.take_of_length_le (by omega)]
  (try simp -dsimp (disch := omega) only [↓pre, sp, sp2, wp_some, Int.cast_ofNat_Int, Nat.reduceAdd, Nat.reduceMul, Nat.reduceSub, Nat.reduceLeDiff, Nat.reduceEqDiff, Nat.reducePow, Int.reduceToNat, Int.reducePow, Int.reduceAdd, Int.reduceSub, Int.reduceMul, Int.reduceLT, Int.reduceLE, Int.reduceEq, Int.reduceNeg, row_rw g, C.c8])
  have hcs : s.w = [] ∨ ∃ y ys, s.w = y :: ys := by cases s.w <;> simp
  rcases hcs with hw | ⟨y, ys, hw⟩
  · have e0' : ((s.w.length : Nat) : Int) = 0 := by rw [hw]; rfl
    have l2b := l2 g2 rfl
    have l2c : ((hb.row q2).bind fun cs => if 4 ≤ cs.length then some (AVal.agg (List.take 4 cs)) else none) = some (.agg z4) := by rw [row_rw g2]; rfl
    refine wp_ite (fun _ => ?_) (fun c => absurd e0' c)
    (try simp -dsimp (disch := omega) only [↓pre, sp, sp2, wp_some, Int.cast_ofNat_Int, Nat.reduceAdd, Nat.reduceMul, Nat.reduceSub, Nat.reduceLeDiff, Nat.reduceEqDiff, Nat.reducePow, Int.reduceToNat, Int.reducePow, Int.reduceAdd, Int.reduceSub, Int.reduceMul, Int.reduceLT, Int.reduceLE, Int.reduceEq, Int.reduceNeg, l2b, l2c])
    refine wp_store (vs := z4) kb.w' g0b rfl rfl (by simp) rfl fun hc2 kc nc gc => ?_
    have lc := l2 gc rfl
    (try simp -dsimp (disch := omega) only [↓pre, sp, sp2, wp_some, Int.cast_ofNat_Int, Nat.reduceAdd, Nat.reduceMul, Nat.reduceSub, Nat.reduceLeDiff, Nat.reduceEqDiff, Nat.reducePow, Int.reduceToNat, Int.reducePow, Int.reduceAdd, Int.reduceSub, Int.reduceMul, Int.reduceLT, Int.reduceLE, Int.reduceEq, Int.reduceNeg, lc])
    rw [hw]
    refine ⟨kab.ke.new kc fun i hi => .inr (by omega), rfl, ?_⟩
    refine (Qb.ke kc fun i hi hf => by have := hFl i hf; omega).grow (fun i hi => .inl hi) fun i hi => ?_
    rcases hi with hi | hi
    · have := hFl i hi; omega
    · omega
  · have hn0 : ¬ ((s.w.length : Nat) : Int) = 0 := by rw [hw, List.length_cons]; omega
    have hmade : s.made = true := by
      cases hm : s.made with
      | true => rfl
      | false => have := C.nm hm; rw [hw] at this; cases this
    obtain ⟨v, ring, e6, o, f, rg⟩ := C.r hmade
    have hat := C.at_
    have h0 := rg 0 y (by rw [hw]; rfl)
    rw [Nat.add_zero, Nat.mod_eq_of_lt hat] at h0
    have hrl : ring.length = s.most * 4 := o.rd.clen
    have hyl := take4_len hat hrl
    generalize hyy : (ring.drop (s.at_ * 4)).take 4 = yy at *
    subst h0
    have hld : ∀ h', Ow h' v T_runglaw24_thing 4 s.most ring → rLoadA 4 (ea v (s.at_ * 4)) h' = some (.agg yy) := fun h' o => by rw [o.rd.ldA (by omega) (by omega), hyy]
    have ha := o.rd.at (k := .i64) (i := (s.at_ : Int)) (by omega) (by omega)
    rw [Int.toNat_natCast] at ha
    have hyc : yy.all AVal.isCell = true := by
      have := o.2.2.1
      rw [List.all_eq_true] at this ⊢
      intro x hx
      rw [← hyy] at hx
      exact this x (List.mem_of_mem_drop (List.mem_of_mem_take hx))
    have ldb := hld hb o
    refine wp_ite (fun c => absurd c hn0) (fun _ => ?_)
    (try simp -dsimp (disch := omega) only [↓pre, sp, sp2, wp_some, Int.cast_ofNat_Int, Nat.reduceAdd, Nat.reduceMul, Nat.reduceSub, Nat.reduceLeDiff, Nat.reduceEqDiff, Nat.reducePow, Int.reduceToNat, Int.reducePow, Int.reduceAdd, Int.reduceSub, Int.reduceMul, Int.reduceLT, Int.reduceLE, Int.reduceEq, Int.reduceNeg, row_rw g, C.c7, e6, ha, ldb])
    refine wp_box kb.w' rfl rfl fun q22 hc e22 kc nc gc => ?_
    have o3 := o.kp kc
    have g3 := kc.gt g
    (try simp -dsimp (disch := omega) only [↓pre, sp, sp2, wp_some, Int.cast_ofNat_Int, Nat.reduceAdd, Nat.reduceMul, Nat.reduceSub, Nat.reduceLeDiff, Nat.reduceEqDiff, Nat.reducePow, Int.reduceToNat, Int.reducePow, Int.reduceAdd, Int.reduceSub, Int.reduceMul, Int.reduceLT, Int.reduceLE, Int.reduceEq, Int.reduceNeg, row_rw g3, C.c7, e6, ha, hld hc o3])
    refine wp_store (vs := yy) kc.w' gc rfl (by omega) (by simp) hyc fun h4 k4 n4 g4 => ?_
    have fv : ∀ i, isBk v i → i < h.n := fun i hi => hFl i (f i hi).2
    have o4 : Ow h4 v T_runglaw24_thing 4 s.most ring := o3.ke k4 fun i hi e => by have := fv i hi; omega
    have gp4 := k4.gt g3 (by omega)
    have g24 := k4.gt (kc.gt g2) (by omega)
    have g04 := k4.gt (kc.gt g0b) (by omega)
    have l24 := l2 g24 rfl
    (try simp -dsimp (disch := omega) only [↓pre, sp, sp2, wp_some, Int.cast_ofNat_Int, Nat.reduceAdd, Nat.reduceMul, Nat.reduceSub, Nat.reduceLeDiff, Nat.reduceEqDiff, Nat.reducePow, Int.reduceToNat, Int.reducePow, Int.reduceAdd, Int.reduceSub, Int.reduceMul, Int.reduceLT, Int.reduceLE, Int.reduceEq, Int.reduceNeg, row_rw gp4, C.c7, e6, ha, hld h4 o4, l24])
    refine wp_storeOw (vs := z4) k4.w' o4 rfl rfl rfl (by omega) (by omega) rfl fun h5 o5 k5 n5 => ?_
    have gp5 := k5.gt gp4 fun hh => (f p hh).1 rfl
    have g05 := k5.gt g04 fun hh => by have := fv _ hh; omega
    have gq5 := k5.gt g4 fun hh => by have := fv _ hh; omega
    have g25 := k5.gt g24 fun hh => by have := fv _ hh; omega
    have ea1 : (s.at_ : Int) + 1 = ((s.at_ + 1 : Nat) : Int) := by omega
    have hm1 := C.m1
    have hm0 : ¬ ((s.most : Nat) : Int) = 0 := by omega
    have er : Int.tmod ((s.at_ + 1 : Nat) : Int) ((s.most : Nat) : Int) = (((s.at_ + 1) % s.most : Nat) : Int) := (Int.ofNat_tmod _ _).symm
    have es : ((s.w.length : Nat) : Int) - 1 = ((s.w.length - 1 : Nat) : Int) := by rw [hw, List.length_cons]; omega
    have c8 := C.c8
    have hn64 := C.n
    have h64 := C.m64
    (try simp -dsimp (disch := omega) only [↓pre, sp, sp2, wp_some, Int.cast_ofNat_Int, Nat.reduceAdd, Nat.reduceMul, Nat.reduceSub, Nat.reduceLeDiff, Nat.reduceEqDiff, Nat.reducePow, Int.reduceToNat, Int.reducePow, Int.reduceAdd, Int.reduceSub, Int.reduceMul, Int.reduceLT, Int.reduceLE, Int.reduceEq, Int.reduceNeg, row_rw gp5, C.c7, e6, C.c5, c8, ea1, er, es])
    refine wp_store k5.w' gp5 rfl rfl (by omega) rfl fun h6 k6 n6 g6 => ?_
    rw [splice_one _ _ _ (by omega)] at g6
    (try simp -dsimp (disch := omega) only [↓pre, sp, sp2, wp_some, Int.cast_ofNat_Int, Nat.reduceAdd, Nat.reduceMul, Nat.reduceSub, Nat.reduceLeDiff, Nat.reduceEqDiff, Nat.reducePow, Int.reduceToNat, Int.reducePow, Int.reduceAdd, Int.reduceSub, Int.reduceMul, Int.reduceLT, Int.reduceLE, Int.reduceEq, Int.reduceNeg])
    refine wp_store k6.w' g6 rfl rfl (by rw [List.length_set]; omega) rfl fun h7 k7 n7 g7 => ?_
    rw [splice_one _ _ _ (by rw [List.length_set]; omega)] at g7
    (try simp -dsimp (disch := omega) only [↓pre, sp, sp2, wp_some, Int.cast_ofNat_Int, Nat.reduceAdd, Nat.reduceMul, Nat.reduceSub, Nat.reduceLeDiff, Nat.reduceEqDiff, Nat.reducePow, Int.reduceToNat, Int.reducePow, Int.reduceAdd, Int.reduceSub, Int.reduceMul, Int.reduceLT, Int.reduceLE, Int.reduceEq, Int.reduceNeg])
    have c11 : ((cs.set 7 (.int .i64 (((s.at_ + 1) % s.most : Nat) : Int))).set 8 (.int .i64 ((s.w.length - 1 : Nat) : Int)))[11]? = some (.int .u64 s.tak) := by
      rw [List.getElem?_set_ne (by omega), List.getElem?_set_ne (by omega)]; exact C.c11
    refine Wp.bind (uadd_spec X n k7.w' g7 c11) fun v8 h8 ⟨e8, k8, n8, g8⟩ => ?_
    have ew : IntKind.wrap .u64 ((s.tak : Int) + 1) = ((s.tak + 1 : Nat) : Int) := by rw [num.2.2.2.2.2.2.2.1 _ (by omega) (by omega)]; omega
    rw [ew, splice_one _ _ _ (by simp; omega)] at g8
    have kp58 : Ke (· = p) h5 h8 := (k6.trans k7).trans k8
    have gq8 := kp58.gt gq5 (by omega)
    have g08 := kp58.gt g05 (by omega)
    have syy : splice z4 0 yy = yy := by rw [splice_def]; simp; omega
    have gq8' : h8.get q22 = some ⟨.row yy T_runglaw24_thing false, .rw, []⟩ := by rw [gq8]; congr
    have lq8 := l2 gq8' (by omega)
    (try simp -dsimp (disch := omega) only [↓pre, sp, sp2, wp_some, Int.cast_ofNat_Int, Nat.reduceAdd, Nat.reduceMul, Nat.reduceSub, Nat.reduceLeDiff, Nat.reduceEqDiff, Nat.reducePow, Int.reduceToNat, Int.reducePow, Int.reduceAdd, Int.reduceSub, Int.reduceMul, Int.reduceLT, Int.reduceLE, Int.reduceEq, Int.reduceNeg, lq8])
    refine wp_store (vs := yy) k8.w' g08 rfl (by omega) (Nat.le_refl 4) hyc fun h9 k9 n9 g9 => ?_
    have g9' : h9.get q0 = some ⟨.row yy T_runglaw24_thing false, .rw, []⟩ := by rw [g9]; congr
    have l09 := l2 g9' (by omega)
    have gp9 := k9.gt g8 (by omega)
    (try simp -dsimp (disch := omega) only [↓pre, sp, sp2, wp_some, Int.cast_ofNat_Int, Nat.reduceAdd, Nat.reduceMul, Nat.reduceSub, Nat.reduceLeDiff, Nat.reduceEqDiff, Nat.reducePow, Int.reduceToNat, Int.reducePow, Int.reduceAdd, Int.reduceSub, Int.reduceMul, Int.reduceLT, Int.reduceLE, Int.reduceEq, Int.reduceNeg, l09])
    have hfp : ∀ i, i = p → F i := fun i hi => by subst hi; exact C.fp
    have hnb := kab.n
    have kb4 : Kp h h4 := Ke.new_p (kab.trans kc) k4 fun i hi => by omega
    have K48 : Ke F h4 h8 := (k5.mono fun i hi => (f i hi).2).trans (kp58.mono hfp)
    have K8 : Ke F h h8 := (Kp.ke kb4).trans K48
    have K : Ke F h h9 := K8.new k9 fun i hi => .inr (by omega)
    have kp9 : Ke (fun i => i = p ∨ i = q0) h5 h9 := (kp58.mono fun i hi => .inl hi).trans (k9.mono fun i hi => .inr hi)
    have o9 := o5.ke kp9 fun i hi hh => by
      rcases hh with hh | hh
      · exact (f i hi).1 hh
      · have := fv i hi; omega
    rw [hw]
    refine ⟨K, rfl, _, ⟨_, gp9⟩, by simp [hl], ?_, ?_, ?_, ?_, ?_, ?_, ?_, ?_, ?_, C.m1, C.m64, Nat.mod_lt _ (show 0 < s.most by omega), by simp only [QSt.pop, List.length_tail]; omega, (fun hh => by rw [show s.pop.made = s.made from rfl, hmade] at hh; cases hh), fun _ => ⟨v, _, ?_, o9, fun i hi => ⟨(f i hi).1, .inl (f i hi).2⟩, fun k z hk => ?_⟩, .inl C.fp, fun i hi => ?_⟩
    · simp only [ne_eq, List.getElem?_set_ne, Nat.reduceEqDiff, not_false_eq_true]; exact C.c0
    · simp only [ne_eq, List.getElem?_set_ne, Nat.reduceEqDiff, not_false_eq_true]; exact C.c2
    · simp only [ne_eq, List.getElem?_set_ne, Nat.reduceEqDiff, not_false_eq_true]; exact C.c3
    · simp only [ne_eq, List.getElem?_set_ne, Nat.reduceEqDiff, not_false_eq_true]; exact C.c5
    · rw [List.getElem?_set_ne (by omega), List.getElem?_set_ne (by omega), List.getElem?_set, if_pos rfl, if_pos (by omega)]; rfl
    · rw [List.getElem?_set_ne (by omega), List.getElem?_set, if_pos rfl, if_pos (by simp; omega)]; simp [QSt.pop]
    · simp only [ne_eq, List.getElem?_set_ne, Nat.reduceEqDiff, not_false_eq_true]; exact C.c9
    · simp only [ne_eq, List.getElem?_set_ne, Nat.reduceEqDiff, not_false_eq_true]; exact C.c10
    · rw [List.getElem?_set, if_pos rfl, if_pos (by simp; omega)]; rfl
    · simp only [ne_eq, List.getElem?_set_ne, Nat.reduceEqDiff, not_false_eq_true]; exact e6
    · have hk2 : s.w[k + 1]? = some z := by
        have : s.pop.w = ys := by simp [QSt.pop, hw]
        rw [this] at hk
        rw [hw]; simpa using hk
      have hkl := lt_of_at hk2
      have hr := rg (k + 1) z hk2
      have hmod : (s.pop.at_ + k) % s.pop.most = (s.at_ + (k + 1)) % s.most := by
        simp only [QSt.pop]
        rw [Nat.mod_add_mod]; congr 1; omega
      rw [hmod, splice4_ne hat (Nat.mod_lt _ (by omega)) ?_ hrl rfl]
      · exact hr
      · intro hh
        have : (s.at_ + (k + 1)) % s.most = if s.at_ + (k + 1) < s.most then s.at_ + (k + 1) else s.at_ + (k + 1) - s.most := by
          split
          · rename_i q; exact Nat.mod_eq_of_lt q
          · rw [Nat.mod_eq_sub_mod (by omega), Nat.mod_eq_of_lt (by omega)]
        split at this <;> omega
    · rcases hi with hi | hi
      · have := hFl i hi; have := K.n; omega
      · exact hi.2
theorem put_body (X : Xs ov) (n : Nat) (w : Wf h) (Q : Qu4 T_queue_Queue_runglaw24_thing_ T_runglaw24_thing h p s 0 F) (hc : s.put < 2 ^ 62 ∧ s.ref < 2 ^ 62) {yy : List AVal} (hy : yy.all AVal.isCell = true) (hyl : yy.length = 4) {q0 : Nat} {e0 : TypeId}
    (g0 : h.get q0 = some ⟨.row yy e0 false, .rw, []⟩) (nf : ¬ F q0) :
    Wp (
  kq (some (.int .i64 0)) <| fun v1 =>
  kq (some (.ptr (some (p, 0)))) <| fun v2 =>
  kq (aNilCheck v2) <| fun v3 =>
  kq (rFieldP 2 v3) <| fun v4 =>
  kq (some (.ptr (some (p, 0)))) <| fun v5 =>
  kq (some (.func (.func N_queue_Queue_runglaw24_thing__room) [v5] [])) <| fun v6 =>
  ke (kc ov (n + 6) N_sync_Once_Do [v4, v6] h) <| fun v7 h1 =>
  kq (some (.ptr (some (p, 0)))) <| fun v8 =>
  kq (aNilCheck v8) <| fun v9 =>
  kq (rFieldP 0 v9) <| fun v10 =>
  ke (kc ov (n + 6) N_sync_Mutex_Lock [v10] h1) <| fun v11 h2 =>
  kq (some (.ptr (some (p, 0)))) <| fun v12 =>
  kq (aNilCheck v12) <| fun v13 =>
  kq (rFieldP 0 v13) <| fun v14 =>
  kq (some (.ptr (some (p, 0)))) <| fun v15 =>
  kq (aNilCheck v15) <| fun v16 =>
  kq (rFieldP 8 v16) <| fun v17 =>
  kq (rLoad v17 h2) <| fun v18 =>
  kq (some (.ptr (some (p, 0)))) <| fun v19 =>
  kq (aNilCheck v19) <| fun v20 =>
  kq (rFieldP 5 v20) <| fun v21 =>
  kq (rLoad v21 h2) <| fun v22 =>
  kq (rBin .eql .no false v18 v22) <| fun v23 =>
  kIf v23 (
  kq (some (.ptr (some (p, 0)))) <| fun v24 =>
  kq (aNilCheck v24) <| fun v25 =>
  kq (rFieldP 10 v25) <| fun v26 =>
  ke (kc ov (n + 6) N_sync_atomic_Uint64_Add [v26, (.int .u64 1)] h2) <| fun v27 h3 =>
  kq (some (.int .i64 240)) <| fun v28 =>
  ke (kd ov (n + 6) N_sync_Mutex_Unlock [v14] h3) <| fun v29 h4 =>
  some (v28, h4)) (
  kq (some (.ptr (some (p, 0)))) <| fun v30 =>
  kq (aNilCheck v30) <| fun v31 =>
  kq (rFieldP 6 v31) <| fun v32 =>
  kq (rLoad v32 h2) <| fun v33 =>
  kq (some (.ptr (some (p, 0)))) <| fun v34 =>
  kq (aNilCheck v34) <| fun v35 =>
  kq (rFieldP 7 v35) <| fun v36 =>
  kq (rLoad v36 h2) <| fun v37 =>
  kq (some (.ptr (some (p, 0)))) <| fun v38 =>
  kq (aNilCheck v38) <| fun v39 =>
  kq (rFieldP 8 v39) <| fun v40 =>
  kq (rLoad v40 h2) <| fun v41 =>
  kq (rBin .add .no false v37 v41) <| fun v42 =>
  kq (some (.ptr (some (p, 0)))) <| fun v43 =>
  kq (aNilCheck v43) <| fun v44 =>
  kq (rFieldP 5 v44) <| fun v45 =>
  kq (rLoad v45 h2) <| fun v46 =>
  kq (rBin .rem .no false v42 v46) <| fun v47 =>
  kq (rLoadA 4 (.ptr (some (q0, 0))) h2) <| fun v48 =>
  kq (rAt 4 v33 v47) <| fun v49 =>
  ke ((rStore 4 v49 v48 h2).map fun h' => (.tuple [], h')) <| fun v50 h5 =>
  kChk (!false || kSame (rLoadA 4 (.ptr (some (q0, 0))) h5) v48) <|
  kChk (!false || kSame (rLoad v45 h5) v46) <|
  kChk (!false || kSame (rLoad v40 h5) v41) <|
  kChk (!false || kSame (rLoad v36 h5) v37) <|
  kChk (!false || kSame (rLoad v32 h5) v33) <|
  kq (some (.ptr (some (p, 0)))) <| fun v51 =>
  kq (aNilCheck v51) <| fun v52 =>
  kq (rFieldP 8 v52) <| fun v53 =>
  kq (rLoad v53 h5) <| fun v54 =>
  kq (rBin .add .no true v54 (.int .i64 1)) <| fun v55 =>
  kq (aNilCheck v51) <| fun v56 =>
  kq (rFieldP 8 v56) <| fun v57 =>
  ke ((rStore 1 v57 v55 h5).map fun h' => (.tuple [], h')) <| fun v58 h6 =>
  kq (some (.ptr (some (p, 0)))) <| fun v59 =>
  kq (aNilCheck v59) <| fun v60 =>
  kq (rFieldP 9 v60) <| fun v61 =>
  ke (kc ov (n + 6) N_sync_atomic_Uint64_Add [v61, (.int .u64 1)] h6) <| fun v62 h7 =>
  kq (some (.int .i64 0)) <| fun v63 =>
  ke (kd ov (n + 6) N_sync_Mutex_Unlock [v14] h7) <| fun v64 h8 =>
  some (v63, h8))) (fun r h' => Ke F h h' ∧ r = .int .i64 (if s.w.length = s.most then 240 else 0) ∧ Qu4 T_queue_Queue_runglaw24_thing_ T_runglaw24_thing h' p (s.push (.agg yy)) 0 (Gr F h h')) := by
  (try simp -dsimp (disch := omega) only [↓pre, sp, sp2, wp_some, Int.cast_ofNat_Int, Nat.reduceAdd, Nat.reduceMul, Nat.reduceSub, Nat.reduceLeDiff, Nat.reduceEqDiff, Nat.reducePow, Int.reduceToNat, Int.reducePow, Int.reduceAdd, Int.reduceSub, Int.reduceMul, Int.reduceLT, Int.reduceLE, Int.reduceEq, Int.reduceNeg, Nat.zero_add])
  refine Wp.bind (once_spec X n w Q) fun v1 h1 ⟨k1, Q1⟩ => ?_
  obtain ⟨cs, C⟩ := Q1
  obtain ⟨par, g⟩ := C.g
  have hl := C.l
  (try simp -dsimp (disch := omega) only [↓pre, sp, sp2, wp_some, Int.cast_ofNat_Int, Nat.reduceAdd, Nat.reduceMul, Nat.reduceSub, Nat.reduceLeDiff, Nat.reduceEqDiff, Nat.reducePow, Int.reduceToNat, Int.reducePow, Int.reduceAdd, Int.reduceSub, Int.reduceMul, Int.reduceLT, Int.reduceLE, Int.reduceEq, Int.reduceNeg, Nat.add_zero])
  refine Wp.bind (lock_spec X (n + 3) k1.w' g C.c0) fun v2 h2 ⟨e2, k2, n2, g2⟩ => ?_
  rw [splice_one _ _ _ (by omega)] at g2
  obtain ⟨v, ring, e6, o, f, rg⟩ := C.r rfl
  have hrl : ring.length = s.most * 4 := o.rd.clen
  have b5 : (cs.set 0 (.int .i32 1))[5]? = some (.int .i64 s.most) := by rw [List.getElem?_set_ne (by omega)]; exact C.c5
  have b6 : (cs.set 0 (.int .i32 1))[6]? = some v := by rw [List.getElem?_set_ne (by omega)]; exact e6
  have b7 : (cs.set 0 (.int .i32 1))[7]? = some (.int .i64 s.at_) := by rw [List.getElem?_set_ne (by omega)]; exact C.c7
  have b8 : (cs.set 0 (.int .i32 1))[8]? = some (.int .i64 s.w.length) := by rw [List.getElem?_set_ne (by omega)]; exact C.c8
  have o2 : Ow h2 v T_runglaw24_thing 4 s.most ring := o.ke k2 fun i hi hh => (f i hi).1 hh
  have hfp : ∀ i, i = p → Gr F h h1 i := fun i hi => by subst hi; exact C.fp
  have hgr : ∀ {a : AH}, Ke (Gr F h h1) h1 a → Ke F h a ∧ ∀ i, Gr (Gr F h h1) h1 a i → Gr F h a i := fun {a} k => by
    refine ⟨k1.new k fun i hi => ?_, fun i hi => ?_⟩
    · rcases hi with hi | hi
      · exact .inl hi
      · exact .inr hi.1
    · have := k.n
      have := k1.n
      rcases hi with (hi | hi) | hi
      · exact .inl hi
      · exact .inr ⟨hi.1, by omega⟩
      · exact .inr ⟨by omega, hi.2⟩
  have g02 := k2.gt (k1.gt g0 nf) (fun e => nf (by have := C.fp; rcases this with hh | hh; (rw [e]; exact hh); (have := w.lt _ _ g0; omega)))
  have lq2 : rLoadA 4 (.ptr (some (q0, 0))) h2 = some (.agg yy) ∧ ((h2.row q0).bind fun cs => if 4 ≤ cs.length then some (AVal.agg (List.take 4 cs)) else none) = some (.agg yy) := by
    have hr := row_rw g02
    constructor
    · rw [rLoadA_ptr, hr, Option.bind_some, if_pos (by omega), List.drop_zero, List.take_of_length_le (by omega)]
    · rw [hr, Option.bind_some, if_pos (by omega), List.take_of_length_le (by omega)]
  have hm1 : 1 ≤ s.most := C.m1; have h64 : s.most ≤ 64 := C.m64; have hat : s.at_ < s.most := C.at_; have hn : s.w.length ≤ s.most := C.n
  (try simp -dsimp (disch := omega) only [↓pre, sp, sp2, wp_some, Int.cast_ofNat_Int, Nat.reduceAdd, Nat.reduceMul, Nat.reduceSub, Nat.reduceLeDiff, Nat.reduceEqDiff, Nat.reducePow, Int.reduceToNat, Int.reducePow, Int.reduceAdd, Int.reduceSub, Int.reduceMul, Int.reduceLT, Int.reduceLE, Int.reduceEq, Int.reduceNeg, row_rw g2, b5, b8])
  refine wp_ite (fun c => ?_) (fun c => ?_)
  · have c' : s.w.length = s.most := by omega
    have ep : s.push (.agg yy) = { s with ref := s.ref + 1, made := true } := by unfold QSt.push; rw [if_pos c']
    rw [ep, if_pos c']
    have b10 : (cs.set 0 (.int .i32 1))[10]? = some (.int .u64 s.ref) := by rw [List.getElem?_set_ne (by omega)]; exact C.c10
    (try simp -dsimp (disch := omega) only [↓pre, sp, sp2, wp_some, Int.cast_ofNat_Int, Nat.reduceAdd, Nat.reduceMul, Nat.reduceSub, Nat.reduceLeDiff, Nat.reduceEqDiff, Nat.reducePow, Int.reduceToNat, Int.reducePow, Int.reduceAdd, Int.reduceSub, Int.reduceMul, Int.reduceLT, Int.reduceLE, Int.reduceEq, Int.reduceNeg])
    refine Wp.bind (uadd_spec X (n + 4) k2.w' g2 b10) fun v3 h3 ⟨e3, k3, n3, g3⟩ => ?_
    have ew : IntKind.wrap .u64 ((s.ref : Int) + 1) = ((s.ref + 1 : Nat) : Int) := by rw [num.2.2.2.2.2.2.2.1 _ (by omega) (by omega)]; omega
    rw [ew, splice_one _ _ _ (by simp; omega)] at g3
    have b0 : ((cs.set 0 (.int .i32 1)).set 10 (.int .u64 ((s.ref + 1 : Nat) : Int)))[0]? = some (.int .i32 1) := by
      rw [List.getElem?_set_ne (by omega), List.getElem?_set, if_pos rfl, if_pos (by omega)]
    (try simp -dsimp (disch := omega) only [↓pre, sp, sp2, wp_some, Int.cast_ofNat_Int, Nat.reduceAdd, Nat.reduceMul, Nat.reduceSub, Nat.reduceLeDiff, Nat.reduceEqDiff, Nat.reducePow, Int.reduceToNat, Int.reducePow, Int.reduceAdd, Int.reduceSub, Int.reduceMul, Int.reduceLT, Int.reduceLE, Int.reduceEq, Int.reduceNeg])
    refine Wp.bind (unlock_specD X (n + 4) k3.w' g3 b0) fun v4 h4 ⟨e4, k4, n4, g4⟩ => ?_
    rw [splice_one _ _ _ (by simp; omega)] at g4
    have kp : Ke (· = p) h1 h4 := (k2.trans k3).trans k4
    obtain ⟨K, G⟩ := hgr (kp.mono hfp)
    refine Wp.ret ⟨K, rfl, Qu4.grow (F := Gr (Gr F h h1) h1 h4) ⟨_, ⟨_, g4⟩, by simp [hl], ?_, ?_, ?_, ?_, ?_, ?_, ?_, ?_, ?_, C.m1, C.m64, C.at_, C.n, fun hh => (by cases hh), fun _ => ⟨v, ring, ?_, o.ke kp fun i hi hh => (f i hi).1 hh, fun i hi => ⟨(f i hi).1, .inl (f i hi).2⟩, rg⟩, .inl C.fp, fun i hi => ?_⟩ G fun i hi => ?_⟩
    · rw [List.getElem?_set, if_pos rfl, if_pos (by simp; omega)]
    · simp only [ne_eq, List.getElem?_set_ne, Nat.reduceEqDiff, not_false_eq_true]; exact C.c2
    · simp only [ne_eq, List.getElem?_set_ne, Nat.reduceEqDiff, not_false_eq_true]; exact C.c3
    · simp only [ne_eq, List.getElem?_set_ne, Nat.reduceEqDiff, not_false_eq_true]; exact C.c5
    · simp only [ne_eq, List.getElem?_set_ne, Nat.reduceEqDiff, not_false_eq_true]; exact C.c7
    · simp only [ne_eq, List.getElem?_set_ne, Nat.reduceEqDiff, not_false_eq_true]; exact C.c8
    · simp only [ne_eq, List.getElem?_set_ne, Nat.reduceEqDiff, not_false_eq_true]; exact C.c9
    · rw [List.getElem?_set_ne (by omega), List.getElem?_set, if_pos rfl, if_pos (by simp; omega)]
    · simp only [ne_eq, List.getElem?_set_ne, Nat.reduceEqDiff, not_false_eq_true]; exact C.c11
    · simp only [ne_eq, List.getElem?_set_ne, Nat.reduceEqDiff, not_false_eq_true]; exact e6
    · rcases hi with hi | hi
      · have := C.fl i hi; have := kp.n; omega
      · exact hi.2
    · rcases hi with hi | hi
      · have : Gr F h h1 i := .inl hi
        have := C.fl i this; have := kp.n; omega
      · exact hi.2
  · have c' : ¬ s.w.length = s.most := by omega
    have ep : s.push (.agg yy) = { s with w := s.w ++ [.agg yy], put := s.put + 1, made := true } := by unfold QSt.push; rw [if_neg c']
    rw [ep, if_neg c']
    have eat : (s.at_ : Int) + s.w.length = ((s.at_ + s.w.length : Nat) : Int) := by omega
    have hm0 : ¬ ((s.most : Nat) : Int) = 0 := by omega
    have er : Int.tmod ((s.at_ + s.w.length : Nat) : Int) ((s.most : Nat) : Int) = (((s.at_ + s.w.length) % s.most : Nat) : Int) := (Int.ofNat_tmod _ _).symm
    have hmod := Nat.mod_lt (s.at_ + s.w.length) (show 0 < s.most by omega)
    have ha := o2.rd.at (k := .i64) (i := (((s.at_ + s.w.length) % s.most : Nat) : Int)) (by omega) (by omega)
    rw [Int.toNat_natCast] at ha
    (try simp -dsimp (disch := omega) only [↓pre, sp, sp2, wp_some, Int.cast_ofNat_Int, Nat.reduceAdd, Nat.reduceMul, Nat.reduceSub, Nat.reduceLeDiff, Nat.reduceEqDiff, Nat.reducePow, Int.reduceToNat, Int.reducePow, Int.reduceAdd, Int.reduceSub, Int.reduceMul, Int.reduceLT, Int.reduceLE, Int.reduceEq, Int.reduceNeg, row_rw g2, b5, b6, b7, b8, eat, er, ha, lq2])
    refine wp_storeOw (vs := yy) k2.w' o2 rfl rfl hyl (by omega) (by omega) hy fun h3 o3 k3 n3 => ?_
    have g3 := k3.gt g2 fun hh => (f p hh).1 rfl
    have ew8 : (s.w.length : Int) + 1 = ((s.w.length + 1 : Nat) : Int) := by omega
    (try simp -dsimp (disch := omega) only [↓pre, sp, sp2, wp_some, Int.cast_ofNat_Int, Nat.reduceAdd, Nat.reduceMul, Nat.reduceSub, Nat.reduceLeDiff, Nat.reduceEqDiff, Nat.reducePow, Int.reduceToNat, Int.reducePow, Int.reduceAdd, Int.reduceSub, Int.reduceMul, Int.reduceLT, Int.reduceLE, Int.reduceEq, Int.reduceNeg, row_rw g3, b5, b6, b7, b8, ew8])
    refine wp_store k3.w' g3 rfl rfl (by rw [List.length_set]; omega) rfl fun h4 k4 n4 g4 => ?_
    rw [splice_one _ _ _ (by rw [List.length_set]; omega)] at g4
    have b9 : ((cs.set 0 (.int .i32 1)).set 8 (.int .i64 ((s.w.length + 1 : Nat) : Int)))[9]? = some (.int .u64 s.put) := by rw [List.getElem?_set_ne (by omega), List.getElem?_set_ne (by omega)]; exact C.c9
    (try simp -dsimp (disch := omega) only [↓pre, sp, sp2, wp_some, Int.cast_ofNat_Int, Nat.reduceAdd, Nat.reduceMul, Nat.reduceSub, Nat.reduceLeDiff, Nat.reduceEqDiff, Nat.reducePow, Int.reduceToNat, Int.reducePow, Int.reduceAdd, Int.reduceSub, Int.reduceMul, Int.reduceLT, Int.reduceLE, Int.reduceEq, Int.reduceNeg])
    refine Wp.bind (uadd_spec X (n + 4) k4.w' g4 b9) fun v5 h5 ⟨e5, k5, n5, g5⟩ => ?_
    have ew : IntKind.wrap .u64 ((s.put : Int) + 1) = ((s.put + 1 : Nat) : Int) := by rw [num.2.2.2.2.2.2.2.1 _ (by omega) (by omega)]; omega
    rw [ew, splice_one _ _ _ (by simp; omega)] at g5
    have b0 : (((cs.set 0 (.int .i32 1)).set 8 (.int .i64 ((s.w.length + 1 : Nat) : Int))).set 9 (.int .u64 ((s.put + 1 : Nat) : Int)))[0]? = some (.int .i32 1) := by
      rw [List.getElem?_set_ne (by omega), List.getElem?_set_ne (by omega), List.getElem?_set, if_pos rfl, if_pos (by omega)]
    (try simp -dsimp (disch := omega) only [↓pre, sp, sp2, wp_some, Int.cast_ofNat_Int, Nat.reduceAdd, Nat.reduceMul, Nat.reduceSub, Nat.reduceLeDiff, Nat.reduceEqDiff, Nat.reducePow, Int.reduceToNat, Int.reducePow, Int.reduceAdd, Int.reduceSub, Int.reduceMul, Int.reduceLT, Int.reduceLE, Int.reduceEq, Int.reduceNeg])
    refine Wp.bind (unlock_specD X (n + 4) k5.w' g5 b0) fun v6 h6 ⟨e6', k6, n6, g6⟩ => ?_
    rw [splice_one _ _ _ (by simp; omega)] at g6
    have kp : Ke (· = p) h3 h6 := (k4.trans k5).trans k6
    have K16 : Ke (Gr F h h1) h1 h6 := ((k2.mono hfp).trans (k3.mono fun i hi => (f i hi).2)).trans (kp.mono hfp)
    obtain ⟨K, G⟩ := hgr K16
    refine Wp.ret ⟨K, rfl, Qu4.grow (F := Gr (Gr F h h1) h1 h6) ⟨_, ⟨_, g6⟩, by simp [hl], ?_, ?_, ?_, ?_, ?_, ?_, ?_, ?_, ?_, C.m1, C.m64, C.at_, by simp only [List.length_append, List.length_cons, List.length_nil]; omega, fun hh => (by cases hh), fun _ => ⟨v, _, ?_, o3.ke kp fun i hi hh => (f i hi).1 hh, fun i hi => ⟨(f i hi).1, .inl (f i hi).2⟩, fun k z hk => ?_⟩, .inl C.fp, fun i hi => ?_⟩ G fun i hi => ?_⟩
    · rw [List.getElem?_set, if_pos rfl, if_pos (by simp; omega)]
    · simp only [ne_eq, List.getElem?_set_ne, Nat.reduceEqDiff, not_false_eq_true]; exact C.c2
    · simp only [ne_eq, List.getElem?_set_ne, Nat.reduceEqDiff, not_false_eq_true]; exact C.c3
    · simp only [ne_eq, List.getElem?_set_ne, Nat.reduceEqDiff, not_false_eq_true]; exact C.c5
    · simp only [ne_eq, List.getElem?_set_ne, Nat.reduceEqDiff, not_false_eq_true]; exact C.c7
    · rw [List.getElem?_set_ne (by omega), List.getElem?_set_ne (by omega), List.getElem?_set, if_pos rfl, if_pos (by simp; omega)]; simp
    · rw [List.getElem?_set_ne (by omega), List.getElem?_set, if_pos rfl, if_pos (by simp; omega)]
    · simp only [ne_eq, List.getElem?_set_ne, Nat.reduceEqDiff, not_false_eq_true]; exact C.c10
    · simp only [ne_eq, List.getElem?_set_ne, Nat.reduceEqDiff, not_false_eq_true]; exact C.c11
    · simp only [ne_eq, List.getElem?_set_ne, Nat.reduceEqDiff, not_false_eq_true]; exact e6
    · simp only at hk ⊢
      by_cases ck : k < s.w.length
      · rw [List.getElem?_append_left ck] at hk
        rw [splice4_ne hmod (Nat.mod_lt _ (by omega)) ?_ hrl hyl]
        · exact rg k z hk
        · intro hh
          have e1 : ∀ a : Nat, a < s.most → (s.at_ + a) % s.most = if s.at_ + a < s.most then s.at_ + a else s.at_ + a - s.most := fun a ha => by
            split
            · rename_i q; exact Nat.mod_eq_of_lt q
            · rw [Nat.mod_eq_sub_mod (by omega), Nat.mod_eq_of_lt (by omega)]
          have q1 := e1 k (by omega)
          have q2 := e1 s.w.length (by omega)
          split at q1 <;> split at q2 <;> omega
      · have hkl := lt_of_at hk
        rw [List.length_append, List.length_cons, List.length_nil] at hkl
        have : k = s.w.length := by omega
        subst this
        simp only [List.getElem?_append_right (Nat.le_refl _), Nat.sub_self, List.getElem?_cons_zero, Option.some.injEq] at hk
        subst hk
        rw [splice4_at hmod hrl hyl]
    · rcases hi with hi | hi
      · have := C.fl i hi; have := K16.n; omega
      · exact hi.2
    · rcases hi with hi | hi
      · have : Gr F h h1 i := .inl hi
        have := C.fl i this; have := K16.n; omega
      · exact hi.2
theorem put_spec (X : Xs ov) (n : Nat) (w : Wf h) (Q : Qu4 T_queue_Queue_runglaw24_thing_ T_runglaw24_thing h p s 0 F) (hc : s.put < 2 ^ 62 ∧ s.ref < 2 ^ 62) {yy : List AVal} (hy : yy.all AVal.isCell = true) (hyl : yy.length = 4) :
    Wp (kc ov (n + 7) N_queue_Queue_runglaw24_thing__Put [.ptr (some (p, 0)), .agg yy] h) fun r h' => Ke F h h' ∧ r = .int .i64 (if s.w.length = s.most then 240 else 0) ∧ Qu4 T_queue_Queue_runglaw24_thing_ T_runglaw24_thing h' p (s.push (.agg yy)) 0 (Gr F h h') := by
  rw [C_queue_Queue_runglaw24_thing__Put X.p]; unfold F_queue_Queue_runglaw24_thing__Put
  have hFl : ∀ i, F i → i < h.n := by obtain ⟨cs, C⟩ := Q; exact C.fl
  refine wp_box w rfl hy fun q0 ha e0 ka na g0 => ?_
  refine (put_body X n ka.w' (Q.ke ka fun i hi => hi.elim) hc hy hyl g0 (fun hf => by have := hFl _ hf; omega)).mono fun r h' ⟨k, e, q⟩ => ?_
  obtain ⟨cs, C⟩ := id q
  refine ⟨(Kp.ke ka).trans k, e, q.grow (fun i hi => ?_) fun i hi => ?_⟩
  · rcases hi with hi | hi
    · exact .inl hi
    · exact .inr ⟨by omega, hi.2⟩
  · rcases hi with hi | hi
    · have := hFl i hi; have := k.n; omega
    · exact hi.2
theorem len_spec (X : Xs ov) (n : Nat) (w : Wf h) (Q : Qu4 T_queue_Queue_runglaw24_thing_ T_runglaw24_thing h p s 0 F) :
    Wp (kc ov (n + 4) N_queue_Queue_runglaw24_thing__Len [.ptr (some (p, 0))] h) fun r h' => r = .int .i64 s.w.length ∧ Ke F h h' ∧ h'.n = h.n ∧ Qu4 T_queue_Queue_runglaw24_thing_ T_runglaw24_thing h' p s 0 F := by
  rw [C_queue_Queue_runglaw24_thing__Len X.p]; unfold F_queue_Queue_runglaw24_thing__Len
  (try simp -dsimp (disch := omega) only [↓pre, sp, sp2, wp_some, Int.cast_ofNat_Int, Nat.reduceAdd, Nat.reduceMul, Nat.reduceSub, Nat.reduceLeDiff, Nat.reduceEqDiff, Nat.reducePow, Int.reduceToNat, Int.reducePow, Int.reduceAdd, Int.reduceSub, Int.reduceMul, Int.reduceLT, Int.reduceLE, Int.reduceEq, Int.reduceNeg, Nat.add_zero])
  refine Wp.bind (Q.dolock X n w) fun v1 h1 ⟨k1, n1, Q1⟩ => ?_
  obtain ⟨cs, C⟩ := id Q1
  obtain ⟨par, g⟩ := C.g
  (try simp -dsimp (disch := omega) only [↓pre, sp, sp2, wp_some, Int.cast_ofNat_Int, Nat.reduceAdd, Nat.reduceMul, Nat.reduceSub, Nat.reduceLeDiff, Nat.reduceEqDiff, Nat.reducePow, Int.reduceToNat, Int.reducePow, Int.reduceAdd, Int.reduceSub, Int.reduceMul, Int.reduceLT, Int.reduceLE, Int.reduceEq, Int.reduceNeg, row_rw g, C.c8])
  refine Wp.bind (Q1.unlock X (n + 1) k1.w') fun v3 h3 ⟨k3, n3, Q3⟩ => ?_
  exact Wp.ret ⟨rfl, k1.trans k3, by omega, Q3⟩
end Go.Proofs.Ytfppdfmffdkogaa.AI.QTh
