/- The statements of chapter 7: what their texts come to. -/
import Derived.Test.YtpbkgmcpelhlpaaLine
namespace Go.Proofs.Ytpbkgmcpelhlpaa.AI
open Go
set_option linter.unusedSimpArgs false
set_option linter.unusedVariables false
variable {ov : AOver} {h : AH} {v a b : AVal} {md md' : AMode} {p : Nat}

theorem known_spec (K : ov N_runglaw7_known = some knownYes) (n : Nat) : kc ov (n + 1) N_runglaw7_known [] h = some (.bool true, h) := by
  unfold kc; simp only [kcall, K]; rfl
/-- A line that touches nothing of N. -/
def Li (N : Nat → Prop) (h : AH) (p : Nat) (s : LS) : Prop := (∃ F, Lin h p s F ∧ ∀ i, F i → ¬ N i) ∧ ∀ i, N i → i < h.n
/-- N, and what was made. -/
def Mo (N : Nat → Prop) (h h' : AH) (i : Nat) : Prop := N i ∨ (h.n ≤ i ∧ i < h'.n)
theorem Li.more {N S : Nat → Prop} {h' : AH} {s : LS} (L : Li N h p s) (k : Ke S h h') (hS : ∀ i, S i → N i) : Li (Mo N h h') h' p s := by
  obtain ⟨⟨F, L, f⟩, hn⟩ := L
  have fl : ∀ i, F i → i < h.n := by obtain ⟨cs, v, C⟩ := L; exact C.fl
  refine ⟨⟨F, L.ke k fun i hi hf => f i hf (hS i hi), fun i hi hm => ?_⟩, fun i hi => ?_⟩
  · rcases hm with hm | hm
    · exact f i hi hm
    · have := fl i hi; omega
  · rcases hi with hi | hi
    · have := hn i hi; have := k.n; omega
    · exact hi.2
theorem Li.kp {N : Nat → Prop} {h' : AH} {s : LS} (L : Li N h p s) (k : Kp h h') : Li N h' p s := by
  obtain ⟨⟨F, L, f⟩, hn⟩ := L
  exact ⟨⟨F, L.kp k, f⟩, fun i hi => Nat.lt_of_lt_of_le (hn i hi) k.n⟩
theorem Li.gr {F N : Nat → Prop} {h' : AH} {s : LS} (L : Lin h' p s (Gr F h h')) (f : ∀ i, F i → ¬ N i) (hn : ∀ i, N i → i < h.n) (hh : h.n ≤ h'.n) : Li N h' p s :=
  ⟨⟨_, L, fun i hi hN => by
    rcases hi with hi | hi
    · exact f i hi hN
    · have := hn i hN; omega⟩, fun i hi => by have := hn i hi; omega⟩
abbrev KeN (N : Nat → Prop) (h h' : AH) : Prop := Ke (fun i => ¬ N i) h h'
theorem li_new (H : Plain ov) (n : Nat) (w : Wf h) (u : UInt8) (k : Int) : Wp (kc ov (n + 1) N_line_New [.int .u8 u.toNat, .int .i64 k] h) fun r h' => Kp h h' ∧ ∃ p, r = .ptr (some (p, 0)) ∧ Li (fun i => i < h.n) h' p ⟨u, max k 1, 0, [], 0, []⟩ :=
  (new_line_spec H n w u k).mono fun r h' ⟨k1, p, e, hp, L⟩ => ⟨k1, p, e, ⟨⟨_, L, fun i hi hN => by omega⟩, fun i hi => by have := k1.n; omega⟩⟩
theorem li_feed (H : Plain ov) (n : Nat) (w : Wf h) {s : LS} {N : Nat → Prop} (L : Li N h p s) {x : List UInt8} (sb : Bs h b x md) (hb : md = .ro ∨ N (bk b)) (hx : x.length ≤ 2 ^ 40) :
    Wp (kc ov (n + 1) N_line_Line_Feed [.ptr (some (p, 0)), b] h) fun r h' => r = .tuple [] ∧ KeN N h h' ∧ Li N h' p (feedL s x) := by
  obtain ⟨⟨F, L, f⟩, hn⟩ := L
  refine (lfeed_spec H n w L sb (hb.imp id fun hb hF => f _ hF hb) hx).mono ?_
  rintro r h' ⟨e, k, L'⟩
  exact ⟨e, k.mono f, Li.gr L' f hn k.n⟩
theorem li_tick (H : Plain ov) (n : Nat) (w : Wf h) {s : LS} {N : Nat → Prop} (L : Li N h p s) (hs : s.still < 2 ^ 62) :
    Wp (kc ov (n + 5) N_line_Line_Tick [.ptr (some (p, 0))] h) fun r h' => r = .tuple [] ∧ KeN N h h' ∧ Li N h' p (tickL s) := by
  obtain ⟨⟨F, L, f⟩, hn⟩ := L
  refine (ltick_spec H n w L hs).mono ?_
  rintro r h' ⟨e, k, L'⟩
  exact ⟨e, k.mono f, Li.gr L' f hn k.n⟩
theorem li_next (H : Plain ov) (n : Nat) (w : Wf h) {s : LS} {N : Nat → Prop} (L : Li N h p s) :
    Wp (kc ov (n + 1) N_line_Line_Next [.ptr (some (p, 0))] h) fun r h' => KeN N h h' ∧ match s.wait with
      | [] => r = .tuple [.int .u8 0, .slice none 0 0, .bool false] ∧ Li N h' p s
      | f :: _ => ∃ u, r = .tuple [.int .u8 f.1.toNat, u, .bool true] ∧ Bs h' u f.2 .rw ∧ Li N h' p (popL s) := by
  obtain ⟨⟨F, L, f⟩, hn⟩ := L
  refine (lnext_spec H n w L).mono ?_
  rintro r h' ⟨k, q⟩
  refine ⟨k.mono f, ?_⟩
  cases hw : s.wait with
  | nil =>
    rw [hw] at q
    exact ⟨q.1, Li.gr q.2 f hn k.n⟩
  | cons g gs =>
    rw [hw] at q
    obtain ⟨u, e, b, L'⟩ := q
    exact ⟨u, e, b, Li.gr L' f hn k.n⟩
theorem li_left (H : Plain ov) (n : Nat) {s : LS} {N : Nat → Prop} (L : Li N h p s) : kc ov (n + 1) N_line_Line_Left [.ptr (some (p, 0))] h = some (.int .i64 s.held.length, h) := by
  obtain ⟨⟨F, L, _⟩, _⟩ := L; exact lleft_spec H n L
theorem li_waits (H : Plain ov) (n : Nat) {s : LS} {N : Nat → Prop} (L : Li N h p s) : kc ov (n + 1) N_line_Line_Waits [.ptr (some (p, 0))] h = some (.int .i64 s.wait.length, h) := by
  obtain ⟨⟨F, L, _⟩, _⟩ := L; exact lwaits_spec H n L
theorem openR_write {x : UInt8} {l : List UInt8} (c : ¬ (l.length < 1 ∨ 253 < l.length)) : openR (x :: l ++ sumB (x :: l)) = (x, l, 0) := by
  have hl : (x :: l ++ sumB (x :: l)).length = l.length + 3 := by simp [sumB_len]
  have ht : (x :: l ++ sumB (x :: l)).take (l.length + 3 - 2) = x :: l := List.take_left' (by simp)
  unfold openR
  rw [hl, if_neg (by omega), ht, if_pos rfl]
  rfl
/-- A right frame that is ended. -/
theorem tick_frame {s : LS} {x : UInt8} {l : List UInt8} (c : ¬ (l.length < 1 ∨ 253 < l.length)) (hs : s.held = x :: l ++ sumB (x :: l)) (hu : s.unit = x) (hw : s.wait = []) (hq : ¬ ((s.still + 1 : Nat) : Int) < s.sil) :
    tickL s = { s with still := 0, held := [], wait := [(x, l)] } := by
  have ho : openR s.held = (x, l, 0) := by rw [hs]; exact openR_write c
  have hg : goodL s := ⟨by rw [ho], .inl (by rw [ho, hu]), by rw [hw]; decide⟩
  unfold tickL
  rw [if_neg (by rw [hs]; simp), if_neg hq, if_pos hg, ho, hw]
  rfl

theorem lineLong (H : Plain ov) (K : ov N_runglaw7_known = some knownYes) (n : Nat) (w : Wf h) {x : UInt8} {k : Int} {l : List UInt8} (hk : -9223372036854775808 ≤ k ∧ k < 9223372036854775808) (s : Bs h v l .ro) :
    Wp (kc ov (n + 6) N_runglaw7_LineLong [.int .u8 x.toNat, .int .i64 k, v] h) fun r h' => r = .bool true := by
  rw [C_runglaw7_LineLong H]; unfold F_runglaw7_LineLong
  (try simp -dsimp (disch := omega) only [↓pre, sp, sp2, wp_some, Int.cast_ofNat_Int, Nat.reduceAdd, Nat.reduceMul, Nat.reduceSub, Nat.reduceLeDiff, Nat.reduceEqDiff, Nat.reducePow, Int.reduceToNat, Int.reducePow, Int.reduceAdd, Int.reduceSub, Int.reduceMul, Int.reduceLT, Int.reduceLE, Int.reduceEq, Int.reduceNeg, known_spec K, s.len])
  refine wp_kT (.bool (decide (l.length < 1 ∨ 253 < l.length))) (fun j hj => ?_) ?_
  · by_cases c : (l.length : Int) < 1
    · (try simp -dsimp (disch := omega) only [↓pre, sp, sp2, wp_some, Int.cast_ofNat_Int, Nat.reduceAdd, Nat.reduceMul, Nat.reduceSub, Nat.reduceLeDiff, Nat.reduceEqDiff, Nat.reducePow, Int.reduceToNat, Int.reducePow, Int.reduceAdd, Int.reduceSub, Int.reduceMul, Int.reduceLT, Int.reduceLE, Int.reduceEq, Int.reduceNeg, c, decide_true]); simpa [show l.length < 1 by omega] using hj
    · (try simp -dsimp (disch := omega) only [↓pre, sp, sp2, wp_some, Int.cast_ofNat_Int, Nat.reduceAdd, Nat.reduceMul, Nat.reduceSub, Nat.reduceLeDiff, Nat.reduceEqDiff, Nat.reducePow, Int.reduceToNat, Int.reducePow, Int.reduceAdd, Int.reduceSub, Int.reduceMul, Int.reduceLT, Int.reduceLE, Int.reduceEq, Int.reduceNeg, c, decide_false, s.len])
      have e : ((l.length : Int) > 253) ↔ 253 < l.length := by omega
      have e2 : ¬ l.length < 1 := by omega
      simpa only [e, e2, false_or] using hj
  (try simp -dsimp (disch := omega) only [↓pre, sp, sp2, wp_some, Int.cast_ofNat_Int, Nat.reduceAdd, Nat.reduceMul, Nat.reduceSub, Nat.reduceLeDiff, Nat.reduceEqDiff, Nat.reducePow, Int.reduceToNat, Int.reducePow, Int.reduceAdd, Int.reduceSub, Int.reduceMul, Int.reduceLT, Int.reduceLE, Int.reduceEq, Int.reduceNeg])
  refine wp_ite (fun c => ?_) (fun c => ?_)
  · (try simp -dsimp (disch := omega) only [↓pre, sp, sp2, wp_some, Int.cast_ofNat_Int, Nat.reduceAdd, Nat.reduceMul, Nat.reduceSub, Nat.reduceLeDiff, Nat.reduceEqDiff, Nat.reducePow, Int.reduceToNat, Int.reducePow, Int.reduceAdd, Int.reduceSub, Int.reduceMul, Int.reduceLT, Int.reduceLE, Int.reduceEq, Int.reduceNeg])
  obtain ⟨i, hi, e1, _⟩ := place_spec (h := h) H (n + 4) hk (m := 3000) (by omega) (by omega)
  have e1' : kc ov (n + 5) N_runghelp_Place [.int .i64 k, .int .i64 3000] h = some (.int .i64 i, h) := e1
  have e2 : (257 : Int) + i = ((257 + i : Nat) : Int) := by omega
  (try simp -dsimp (disch := omega) only [↓pre, sp, sp2, wp_some, Int.cast_ofNat_Int, Nat.reduceAdd, Nat.reduceMul, Nat.reduceSub, Nat.reduceLeDiff, Nat.reduceEqDiff, Nat.reducePow, Int.reduceToNat, Int.reducePow, Int.reduceAdd, Int.reduceSub, Int.reduceMul, Int.reduceLT, Int.reduceLE, Int.reduceEq, Int.reduceNeg, e1', e2])
  refine Wp.bind (li_new H (n + 4) w x 1) fun v2 h2 ⟨k2, p, e3, L2⟩ => ?_
  subst e3
  (try simp -dsimp (disch := omega) only [↓pre, sp, sp2, wp_some, Int.cast_ofNat_Int, Nat.reduceAdd, Nat.reduceMul, Nat.reduceSub, Nat.reduceLeDiff, Nat.reduceEqDiff, Nat.reducePow, Int.reduceToNat, Int.reducePow, Int.reduceAdd, Int.reduceSub, Int.reduceMul, Int.reduceLT, Int.reduceLE, Int.reduceEq, Int.reduceNeg])
  refine wp_makeSl k2.w' (by omega) (by omega) (by omega) (by omega) rfl (by omega) rfl fun q h3 hq k3 n3 g3 => ?_
  rw [Int.toNat_natCast, manyT_u8] at g3
  rw [Int.toNat_natCast]
  have s3 : Bs h3 (.slice (some (q, 0, 1)) (257 + i) (257 + i)) (List.replicate (257 + i) 0) .rw := (Ow.rd (e := T_uint8) (Ow.new g3 (by omega) (257 + i) (by simp [bytesOf]) (isCell_bytes _))).to rfl (by simp)
  have L3 := L2.more (S := fun _ => False) k3 (fun _ f => f.elim)
  refine Wp.bind (li_feed H (n + 4) k3.w' L3 s3 (.inr (.inr ⟨by simp only [bk]; omega, by simp only [bk]; omega⟩)) (by simp; omega)) fun v4 h4 ⟨e4, k4, L4⟩ => ?_
  have ef : feedL ⟨x, max 1 1, 0, [], 0, []⟩ (List.replicate (257 + i) 0) = ⟨x, 1, 0, List.replicate 257 0, 0, []⟩ := by
    unfold feedL
    rw [if_neg (by intro e; have e2 := congrArg List.length e; rw [List.length_replicate] at e2; have : 257 + i = 0 := e2; omega)]
    show LS.mk x (max 1 1) 0 ([] ++ (List.replicate (257 + i) 0).take (257 - 0)) 0 [] = _
    rw [List.take_replicate, Nat.min_eq_left (by omega), List.nil_append]
    rfl
  rw [ef] at L4
  have hl4 := li_left H (n + 4) L4
  have h257 : (((List.replicate 257 (0 : UInt8)).length : Nat) : Int) = 257 := by rw [List.length_replicate]; rfl
  simp only [h257] at hl4
  (try simp -dsimp (disch := omega) only [↓pre, sp, sp2, wp_some, Int.cast_ofNat_Int, Nat.reduceAdd, Nat.reduceMul, Nat.reduceSub, Nat.reduceLeDiff, Nat.reduceEqDiff, Nat.reducePow, Int.reduceToNat, Int.reducePow, Int.reduceAdd, Int.reduceSub, Int.reduceMul, Int.reduceLT, Int.reduceLE, Int.reduceEq, Int.reduceNeg, hl4])
  refine Wp.bind (li_tick H n k4.w' L4 (by simp)) fun v5 h5 ⟨e5, k5, L5⟩ => ?_
  have et : tickL ⟨x, 1, 0, List.replicate 257 0, 0, []⟩ = ⟨x, 1, 0, [], 0, []⟩ := by
    have hng : ¬ goodL ⟨x, 1, 0, List.replicate 257 0, 0, []⟩ := by
      intro hg
      have := hg.1
      simp only at this
      unfold openR at this
      rw [if_pos (by rw [List.length_replicate]; omega)] at this
      simp at this
    unfold tickL
    rw [if_neg (by intro e; have := congrArg List.length e; rw [List.length_replicate] at this; simp at this), if_neg (by simp), if_neg hng]
  rw [et] at L5
  have hl5 := li_left H (n + 4) L5
  have hw5 := li_waits H (n + 4) L5
  simp only [List.length_nil, Int.cast_ofNat_Int] at hl5 hw5
  have K5 : Kp h h5 := by
    refine ((Kp.ke (S := fun i => h.n ≤ i) (k2.trans k3)).trans ((k4.mono fun i hi => ?_).trans (k5.mono fun i hi => ?_))).new_pp
    · exact Nat.le_of_not_lt fun hlt => hi (.inl hlt)
    · exact Nat.le_of_not_lt fun hlt => hi (.inl hlt)
  have s5 := s.kp K5
  (try simp -dsimp (disch := omega) only [↓pre, sp, sp2, wp_some, Int.cast_ofNat_Int, Nat.reduceAdd, Nat.reduceMul, Nat.reduceSub, Nat.reduceLeDiff, Nat.reduceEqDiff, Nat.reducePow, Int.reduceToNat, Int.reducePow, Int.reduceAdd, Int.reduceSub, Int.reduceMul, Int.reduceLT, Int.reduceLE, Int.reduceEq, Int.reduceNeg, hl5])
  refine wp_kTh (fun v h6 => h5 = h6 ∧ v = .bool false) (fun j hj => ?_) ?_
  · (try simp -dsimp (disch := omega) only [↓pre, sp, sp2, wp_some, Int.cast_ofNat_Int, Nat.reduceAdd, Nat.reduceMul, Nat.reduceSub, Nat.reduceLeDiff, Nat.reduceEqDiff, Nat.reducePow, Int.reduceToNat, Int.reducePow, Int.reduceAdd, Int.reduceSub, Int.reduceMul, Int.reduceLT, Int.reduceLE, Int.reduceEq, Int.reduceNeg, hw5])
    exact hj _ _ ⟨rfl, rfl⟩
  rintro _ _ ⟨rfl, rfl⟩
  (try simp -dsimp (disch := omega) only [↓pre, sp, sp2, wp_some, Int.cast_ofNat_Int, Nat.reduceAdd, Nat.reduceMul, Nat.reduceSub, Nat.reduceLeDiff, Nat.reduceEqDiff, Nat.reducePow, Int.reduceToNat, Int.reducePow, Int.reduceAdd, Int.reduceSub, Int.reduceMul, Int.reduceLT, Int.reduceLE, Int.reduceEq, Int.reduceNeg])
  refine Wp.bind (rref_write_spec H (n + 3) K5.w' s5 (x := x)) fun v6 h6 ⟨k6, e6⟩ => ?_
  rw [if_neg c] at e6
  obtain ⟨v7, rfl, o7, f7⟩ := e6
  have L6 := L5.more (S := fun _ => False) k6 (fun _ f => f.elim)
  have hB : (x :: l ++ sumB (x :: l)).length = l.length + 3 := by simp [sumB_len]
  have hb7 : isBk v7 (bk v7) := o7.bkIs (by omega)
  (try simp -dsimp (disch := omega) only [↓pre, sp, sp2, wp_some, Int.cast_ofNat_Int, Nat.reduceAdd, Nat.reduceMul, Nat.reduceSub, Nat.reduceLeDiff, Nat.reduceEqDiff, Nat.reducePow, Int.reduceToNat, Int.reducePow, Int.reduceAdd, Int.reduceSub, Int.reduceMul, Int.reduceLT, Int.reduceLE, Int.reduceEq, Int.reduceNeg])
  refine Wp.bind (li_feed H (n + 4) k6.w' L6 o7.rd (.inr (.inr ⟨f7 _ hb7, Ow.bk_lt k6.w' o7 hb7⟩)) (by omega)) fun v8 h8 ⟨e8, k8, L8⟩ => ?_
  have ef8 : feedL ⟨x, 1, 0, [], 0, []⟩ (x :: l ++ sumB (x :: l)) = ⟨x, 1, 0, x :: l ++ sumB (x :: l), 0, []⟩ := by
    unfold feedL
    rw [if_neg (by simp), List.take_of_length_le (by rw [hB]; simp; omega)]
    rfl
  rw [ef8] at L8
  (try simp -dsimp (disch := omega) only [↓pre, sp, sp2, wp_some, Int.cast_ofNat_Int, Nat.reduceAdd, Nat.reduceMul, Nat.reduceSub, Nat.reduceLeDiff, Nat.reduceEqDiff, Nat.reducePow, Int.reduceToNat, Int.reducePow, Int.reduceAdd, Int.reduceSub, Int.reduceMul, Int.reduceLT, Int.reduceLE, Int.reduceEq, Int.reduceNeg])
  refine Wp.bind (li_tick H n k8.w' L8 (by simp)) fun v9 h9 ⟨e9, k9, L9⟩ => ?_
  rw [tick_frame c rfl rfl rfl (by simp)] at L9
  (try simp -dsimp (disch := omega) only [↓pre, sp, sp2, wp_some, Int.cast_ofNat_Int, Nat.reduceAdd, Nat.reduceMul, Nat.reduceSub, Nat.reduceLeDiff, Nat.reduceEqDiff, Nat.reducePow, Int.reduceToNat, Int.reducePow, Int.reduceAdd, Int.reduceSub, Int.reduceMul, Int.reduceLT, Int.reduceLE, Int.reduceEq, Int.reduceNeg])
  refine Wp.bind (li_next H (n + 4) k9.w' L9) fun v10 h10 ⟨k10, q10⟩ => ?_
  obtain ⟨u, rfl, bu, L10⟩ := q10
  have s10 : Bs h10 v l .ro := ((s5.kp k6).ro k8 |>.ro k9).ro k10
  have hb10 := fun n => bytes_spec H n bu s10
  (try simp -dsimp (disch := omega) only [↓pre, sp, sp2, wp_some, Int.cast_ofNat_Int, Nat.reduceAdd, Nat.reduceMul, Nat.reduceSub, Nat.reduceLeDiff, Nat.reduceEqDiff, Nat.reducePow, Int.reduceToNat, Int.reducePow, Int.reduceAdd, Int.reduceSub, Int.reduceMul, Int.reduceLT, Int.reduceLE, Int.reduceEq, Int.reduceNeg])
  refine wp_kTh (fun v h6 => v = .bool true) (fun j hj => ?_) ?_
  · (try simp -dsimp (disch := omega) only [↓pre, sp, sp2, wp_some, Int.cast_ofNat_Int, Nat.reduceAdd, Nat.reduceMul, Nat.reduceSub, Nat.reduceLeDiff, Nat.reduceEqDiff, Nat.reducePow, Int.reduceToNat, Int.reducePow, Int.reduceAdd, Int.reduceSub, Int.reduceMul, Int.reduceLT, Int.reduceLE, Int.reduceEq, Int.reduceNeg, hb10, decide_true])
    exact hj _ _ rfl
  · rintro _ h11 rfl
    (try simp -dsimp (disch := omega) only [↓pre, sp, sp2, wp_some, Int.cast_ofNat_Int, Nat.reduceAdd, Nat.reduceMul, Nat.reduceSub, Nat.reduceLeDiff, Nat.reduceEqDiff, Nat.reducePow, Int.reduceToNat, Int.reducePow, Int.reduceAdd, Int.reduceSub, Int.reduceMul, Int.reduceLT, Int.reduceLE, Int.reduceEq, Int.reduceNeg])

/-- Texts that are read alone. -/
def BsL (h : AH) (vs : List AVal) (ls : List (List UInt8)) : Prop := vs.length = ls.length ∧ ∀ (i : Nat) l, ls[i]? = some l → ∃ v, vs[i]? = some v ∧ Bs h v l .ro ∧ l.length ≤ 2 ^ 48
theorem BsL.ke {S : Nat → Prop} {h' : AH} {vs : List AVal} {ls : List (List UInt8)} (b : BsL h vs ls) (k : Ke S h h') : BsL h' vs ls :=
  ⟨b.1, fun i l hl => by obtain ⟨v, e, s, m⟩ := b.2 i l hl; exact ⟨v, e, s.ro k, m⟩⟩
/-- As long as it was still. -/
def okL (s : LS) (x : UInt8) (S : Nat) : Prop := s.unit = x ∧ s.sil = (S : Int) ∧ s.still < S
theorem okL.feed {s : LS} {x : UInt8} {S : Nat} (o : okL s x S) (b : List UInt8) : okL (feedL s b) x S := by
  obtain ⟨h1, h2, h3⟩ := o
  unfold feedL
  split
  · exact ⟨h1, h2, h3⟩
  · exact ⟨h1, h2, by simp only; omega⟩
theorem okL.tick {s : LS} {x : UInt8} {S : Nat} (o : okL s x S) : okL (tickL s) x S := by
  obtain ⟨h1, h2, h3⟩ := o
  unfold tickL
  split
  · exact ⟨h1, h2, h3⟩
  · split
    · rename_i h4; rw [h2] at h4; exact ⟨h1, h2, by simp only; omega⟩
    · exact ⟨h1, h2, by simp only; omega⟩
theorem tick_quiet {s : LS} {x : UInt8} {S t : Nat} (o : okL s x S) (h : s.held = [] ∨ t ≤ s.still) : (tickL s).held = [] ∨ t + 1 ≤ (tickL s).still := by
  unfold tickL
  split
  · rename_i h1; exact .inl h1
  · rename_i h1
    split
    · rcases h with h | h
      · exact absurd h h1
      · exact .inr (by simp only; omega)
    · exact .inl rfl
theorem lineHears (H : Plain ov) (K : ov N_runglaw7_known = some knownYes) (n : Nat) (w : Wf h) {x : UInt8} {k : Int} {vs : List AVal} {ls : List (List UInt8)} {l cuts : List UInt8} {a b c : AVal} (hk : -9223372036854775808 ≤ k ∧ k < 9223372036854775808)
    (sa : Sz h a 1 vs.length vs .ro) (bl : BsL h vs ls) (s : Bs h b l .ro) (sc : Bs h c cuts .ro) :
    Wp (kc ov (n + 6) N_runglaw7_LineHears [.int .u8 x.toNat, .int .i64 k, a, b, c] h) fun r h' => r = .bool true := by
  have hvl := bl.1
  rw [C_runglaw7_LineHears H]; unfold F_runglaw7_LineHears
  (try simp -dsimp (disch := omega) only [↓pre, sp, sp2, wp_some, Int.cast_ofNat_Int, Nat.reduceAdd, Nat.reduceMul, Nat.reduceSub, Nat.reduceLeDiff, Nat.reduceEqDiff, Nat.reducePow, Int.reduceToNat, Int.reducePow, Int.reduceAdd, Int.reduceSub, Int.reduceMul, Int.reduceLT, Int.reduceLE, Int.reduceEq, Int.reduceNeg, known_spec K, sa.len])
  refine wp_kT (.bool (decide (vs.length > 20 ∨ l.length < 1 ∨ 253 < l.length ∨ cuts.length > 100))) (fun j hj => ?_) ?_
  · by_cases c0 : (vs.length : Int) > 20
    · (try simp -dsimp (disch := omega) only [↓pre, sp, sp2, wp_some, Int.cast_ofNat_Int, Nat.reduceAdd, Nat.reduceMul, Nat.reduceSub, Nat.reduceLeDiff, Nat.reduceEqDiff, Nat.reducePow, Int.reduceToNat, Int.reducePow, Int.reduceAdd, Int.reduceSub, Int.reduceMul, Int.reduceLT, Int.reduceLE, Int.reduceEq, Int.reduceNeg, c0, decide_true]); simpa [show vs.length > 20 by omega] using hj
    · by_cases c1 : (l.length : Int) < 1
      · (try simp -dsimp (disch := omega) only [↓pre, sp, sp2, wp_some, Int.cast_ofNat_Int, Nat.reduceAdd, Nat.reduceMul, Nat.reduceSub, Nat.reduceLeDiff, Nat.reduceEqDiff, Nat.reducePow, Int.reduceToNat, Int.reducePow, Int.reduceAdd, Int.reduceSub, Int.reduceMul, Int.reduceLT, Int.reduceLE, Int.reduceEq, Int.reduceNeg, c0, c1, decide_true, decide_false, s.len]); simpa [show l.length < 1 by omega] using hj
      · by_cases c2 : (l.length : Int) > 253
        · (try simp -dsimp (disch := omega) only [↓pre, sp, sp2, wp_some, Int.cast_ofNat_Int, Nat.reduceAdd, Nat.reduceMul, Nat.reduceSub, Nat.reduceLeDiff, Nat.reduceEqDiff, Nat.reducePow, Int.reduceToNat, Int.reducePow, Int.reduceAdd, Int.reduceSub, Int.reduceMul, Int.reduceLT, Int.reduceLE, Int.reduceEq, Int.reduceNeg, c0, c1, c2, decide_true, decide_false, s.len]); simpa [show 253 < l.length by omega] using hj
        · (try simp -dsimp (disch := omega) only [↓pre, sp, sp2, wp_some, Int.cast_ofNat_Int, Nat.reduceAdd, Nat.reduceMul, Nat.reduceSub, Nat.reduceLeDiff, Nat.reduceEqDiff, Nat.reducePow, Int.reduceToNat, Int.reducePow, Int.reduceAdd, Int.reduceSub, Int.reduceMul, Int.reduceLT, Int.reduceLE, Int.reduceEq, Int.reduceNeg, c0, c1, c2, decide_false, s.len, sc.len])
          have e : ((cuts.length : Int) > 100) ↔ cuts.length > 100 := by omega
          simpa only [e, show ¬ vs.length > 20 by omega, show ¬ l.length < 1 by omega, show ¬ 253 < l.length by omega, false_or] using hj
  (try simp -dsimp (disch := omega) only [↓pre, sp, sp2, wp_some, Int.cast_ofNat_Int, Nat.reduceAdd, Nat.reduceMul, Nat.reduceSub, Nat.reduceLeDiff, Nat.reduceEqDiff, Nat.reducePow, Int.reduceToNat, Int.reducePow, Int.reduceAdd, Int.reduceSub, Int.reduceMul, Int.reduceLT, Int.reduceLE, Int.reduceEq, Int.reduceNeg])
  refine wp_ite (fun c0 => ?_) (fun c0 => ?_)
  · (try simp -dsimp (disch := omega) only [↓pre, sp, sp2, wp_some, Int.cast_ofNat_Int, Nat.reduceAdd, Nat.reduceMul, Nat.reduceSub, Nat.reduceLeDiff, Nat.reduceEqDiff, Nat.reducePow, Int.reduceToNat, Int.reducePow, Int.reduceAdd, Int.reduceSub, Int.reduceMul, Int.reduceLT, Int.reduceLE, Int.reduceEq, Int.reduceNeg])
  have cl : ¬ (l.length < 1 ∨ 253 < l.length) := fun hh => c0 (by omega)
  obtain ⟨i0, hi0, e1, _⟩ := place_spec (h := h) H (n + 4) hk (m := 6) (by omega) (by omega)
  have e1' : kc ov (n + 5) N_runghelp_Place [.int .i64 k, .int .i64 6] h = some (.int .i64 i0, h) := e1
  have e2 : (1 : Int) + i0 = ((1 + i0 : Nat) : Int) := by omega
  (try simp -dsimp (disch := omega) only [↓pre, sp, sp2, wp_some, Int.cast_ofNat_Int, Nat.reduceAdd, Nat.reduceMul, Nat.reduceSub, Nat.reduceLeDiff, Nat.reduceEqDiff, Nat.reducePow, Int.reduceToNat, Int.reducePow, Int.reduceAdd, Int.reduceSub, Int.reduceMul, Int.reduceLT, Int.reduceLE, Int.reduceEq, Int.reduceNeg, e1', e2])
  generalize hS : 1 + i0 = S at *
  refine Wp.bind (li_new H (n + 4) w x S) fun v2 h2 ⟨k2, p, e3, L2⟩ => ?_
  subst e3
  have hmax : max (S : Int) 1 = (S : Int) := by omega
  rw [hmax] at L2
  (try simp -dsimp (disch := omega) only [↓pre, sp, sp2, wp_some, Int.cast_ofNat_Int, Nat.reduceAdd, Nat.reduceMul, Nat.reduceSub, Nat.reduceLeDiff, Nat.reduceEqDiff, Nat.reducePow, Int.reduceToNat, Int.reducePow, Int.reduceAdd, Int.reduceSub, Int.reduceMul, Int.reduceLT, Int.reduceLE, Int.reduceEq, Int.reduceNeg])
  refine wp_loop (fun m y h3 => ∃ (i : Nat) (st : LS), y = [.int .i64 i] ∧ i + m = vs.length ∧ Wf h3 ∧ Ke (fun _ => True) h h3 ∧ Li (fun i => i < h.n) h3 p st ∧ okL st x S) vs.length (by omega)
    ⟨0, _, rfl, by omega, k2.w', k2.mono fun _ f => f.elim, L2, rfl, rfl, by simp only; omega⟩ ?_
  rintro m _ h3 j ⟨i, st, rfl, him, w3, K3, L3, ok3⟩ hj
  have sa3 := sa.ro K3
  unfold L_runglaw7_LineHears_4
  (try simp -dsimp (disch := omega) only [↓pre, sp, sp2, wp_some, Int.cast_ofNat_Int, Nat.reduceAdd, Nat.reduceMul, Nat.reduceSub, Nat.reduceLeDiff, Nat.reduceEqDiff, Nat.reducePow, Int.reduceToNat, Int.reducePow, Int.reduceAdd, Int.reduceSub, Int.reduceMul, Int.reduceLT, Int.reduceLE, Int.reduceEq, Int.reduceNeg, sa3.len])
  refine wp_ite (fun c1 => ?_) (fun c1 => ?_)
  · obtain ⟨y, hy⟩ : ∃ y, ls[i]? = some y := ⟨_, List.getElem?_eq_getElem (by omega)⟩
    obtain ⟨u, hu, su0, hyl⟩ := bl.2 i y hy
    have su := su0.ro K3
    have hld : rLoad (ea a i) h3 = some u := by rw [sa3.ld (by omega), hu]
    (try simp -dsimp (disch := omega) only [↓pre, sp, sp2, wp_some, Int.cast_ofNat_Int, Nat.reduceAdd, Nat.reduceMul, Nat.reduceSub, Nat.reduceLeDiff, Nat.reduceEqDiff, Nat.reducePow, Int.reduceToNat, Int.reducePow, Int.reduceAdd, Int.reduceSub, Int.reduceMul, Int.reduceLT, Int.reduceLE, Int.reduceEq, Int.reduceNeg, sa3.at, hld, su.len])
    refine wp_ite (fun c2 => ?_) (fun c2 => ?_)
    · (try simp -dsimp (disch := omega) only [↓pre, sp, sp2, wp_some, Int.cast_ofNat_Int, Nat.reduceAdd, Nat.reduceMul, Nat.reduceSub, Nat.reduceLeDiff, Nat.reduceEqDiff, Nat.reducePow, Int.reduceToNat, Int.reducePow, Int.reduceAdd, Int.reduceSub, Int.reduceMul, Int.reduceLT, Int.reduceLE, Int.reduceEq, Int.reduceNeg])
    (try simp -dsimp (disch := omega) only [↓pre, sp, sp2, wp_some, Int.cast_ofNat_Int, Nat.reduceAdd, Nat.reduceMul, Nat.reduceSub, Nat.reduceLeDiff, Nat.reduceEqDiff, Nat.reducePow, Int.reduceToNat, Int.reducePow, Int.reduceAdd, Int.reduceSub, Int.reduceMul, Int.reduceLT, Int.reduceLE, Int.reduceEq, Int.reduceNeg])
    refine Wp.bind (li_feed H (n + 4) w3 L3 su (.inl rfl) (by omega)) fun v4 h4 ⟨e4, k4, L4⟩ => ?_
    (try simp -dsimp (disch := omega) only [↓pre, sp, sp2, wp_some, Int.cast_ofNat_Int, Nat.reduceAdd, Nat.reduceMul, Nat.reduceSub, Nat.reduceLeDiff, Nat.reduceEqDiff, Nat.reducePow, Int.reduceToNat, Int.reducePow, Int.reduceAdd, Int.reduceSub, Int.reduceMul, Int.reduceLT, Int.reduceLE, Int.reduceEq, Int.reduceNeg])
    refine Wp.bind (li_tick H n k4.w' L4 (by have := (ok3.feed y).2.2; omega)) fun v5 h5 ⟨e5, k5, L5⟩ => ?_
    have ei : ((i : Int) + 1) = ((i + 1 : Nat) : Int) := by omega
    (try simp -dsimp (disch := omega) only [↓pre, sp, sp2, wp_some, Int.cast_ofNat_Int, Nat.reduceAdd, Nat.reduceMul, Nat.reduceSub, Nat.reduceLeDiff, Nat.reduceEqDiff, Nat.reducePow, Int.reduceToNat, Int.reducePow, Int.reduceAdd, Int.reduceSub, Int.reduceMul, Int.reduceLT, Int.reduceLE, Int.reduceEq, Int.reduceNeg, ei])
    exact hj (m - 1) _ _ (by omega) ⟨i + 1, _, rfl, by omega, k5.w', (K3.trans (k4.mono fun _ _ => trivial)).trans (k5.mono fun _ _ => trivial), L5, (ok3.feed y).tick⟩
  clear hj
  (try simp -dsimp (disch := omega) only [↓pre, sp, sp2, wp_some, Int.cast_ofNat_Int, Nat.reduceAdd, Nat.reduceMul, Nat.reduceSub, Nat.reduceLeDiff, Nat.reduceEqDiff, Nat.reducePow, Int.reduceToNat, Int.reducePow, Int.reduceAdd, Int.reduceSub, Int.reduceMul, Int.reduceLT, Int.reduceLE, Int.reduceEq, Int.reduceNeg])
  refine wp_loop (fun m y h4 => ∃ (t : Nat) (st : LS), y = [.int .i64 t] ∧ t + m = S ∧ Wf h4 ∧ Ke (fun _ => True) h h4 ∧ Li (fun i => i < h.n) h4 p st ∧ okL st x S ∧ (st.held = [] ∨ t ≤ st.still)) S (by omega)
    ⟨0, st, rfl, by omega, w3, K3, L3, ok3, .inr (Nat.zero_le _)⟩ ?_
  rintro m4 _ h4 j4 ⟨t, st4, rfl, htm, w4, K4, L4, ok4, q4⟩ hj4
  unfold L_runglaw7_LineHears_3
  (try simp -dsimp (disch := omega) only [↓pre, sp, sp2, wp_some, Int.cast_ofNat_Int, Nat.reduceAdd, Nat.reduceMul, Nat.reduceSub, Nat.reduceLeDiff, Nat.reduceEqDiff, Nat.reducePow, Int.reduceToNat, Int.reducePow, Int.reduceAdd, Int.reduceSub, Int.reduceMul, Int.reduceLT, Int.reduceLE, Int.reduceEq, Int.reduceNeg])
  refine wp_ite (fun c1 => ?_) (fun c1 => ?_)
  · (try simp -dsimp (disch := omega) only [↓pre, sp, sp2, wp_some, Int.cast_ofNat_Int, Nat.reduceAdd, Nat.reduceMul, Nat.reduceSub, Nat.reduceLeDiff, Nat.reduceEqDiff, Nat.reducePow, Int.reduceToNat, Int.reducePow, Int.reduceAdd, Int.reduceSub, Int.reduceMul, Int.reduceLT, Int.reduceLE, Int.reduceEq, Int.reduceNeg])
    refine Wp.bind (li_tick H n w4 L4 (by have := ok4.2.2; omega)) fun v5 h5 ⟨e5, k5, L5⟩ => ?_
    have ei : ((t : Int) + 1) = ((t + 1 : Nat) : Int) := by omega
    (try simp -dsimp (disch := omega) only [↓pre, sp, sp2, wp_some, Int.cast_ofNat_Int, Nat.reduceAdd, Nat.reduceMul, Nat.reduceSub, Nat.reduceLeDiff, Nat.reduceEqDiff, Nat.reducePow, Int.reduceToNat, Int.reducePow, Int.reduceAdd, Int.reduceSub, Int.reduceMul, Int.reduceLT, Int.reduceLE, Int.reduceEq, Int.reduceNeg, ei])
    exact hj4 (m4 - 1) _ _ (by omega) ⟨t + 1, _, rfl, by omega, k5.w', K4.trans (k5.mono fun _ _ => trivial), L5, ok4.tick, tick_quiet ok4 q4⟩
  clear hj4
  have hh4 : st4.held = [] := by
    rcases q4 with q | q
    · exact q
    · have := ok4.2.2; omega
  (try simp -dsimp (disch := omega) only [↓pre, sp, sp2, wp_some, Int.cast_ofNat_Int, Nat.reduceAdd, Nat.reduceMul, Nat.reduceSub, Nat.reduceLeDiff, Nat.reduceEqDiff, Nat.reducePow, Int.reduceToNat, Int.reducePow, Int.reduceAdd, Int.reduceSub, Int.reduceMul, Int.reduceLT, Int.reduceLE, Int.reduceEq, Int.reduceNeg])
  -- one frame is asked for
  have ask : ∀ (h5 : AH) (st : LS), Wf h5 → Ke (fun _ => True) h h5 → Li (fun i => i < h.n) h5 p st → okL st x S → st.held = [] →
      Wp (kc ov (n + 5) N_line_Line_Next [.ptr (some (p, 0))] h5) fun r h6 => Wf h6 ∧ Ke (fun _ => True) h h6 ∧ ∃ u v bb st', r = .tuple [u, v, .bool bb] ∧ Li (fun i => i < h.n) h6 p st' ∧ okL st' x S ∧ st'.held = [] ∧
        (bb = false → st'.wait = []) ∧ st'.wait.length + (if bb then 1 else 0) ≤ st.wait.length := by
    intro h5 st w5 K5 L5 ok5 hh5
    refine (li_next H (n + 4) w5 L5).mono ?_
    rintro r h6 ⟨k6, q⟩
    refine ⟨k6.w', K5.trans (k6.mono fun _ _ => trivial), ?_⟩
    cases hw : st.wait with
    | nil =>
      rw [hw] at q
      exact ⟨_, _, false, st, q.1, q.2, ok5, hh5, fun _ => hw, by rw [hw]; simp⟩
    | cons f fs =>
      rw [hw] at q
      obtain ⟨u, e, b, L'⟩ := q
      exact ⟨_, _, true, popL st, e, L', ok5, hh5, (fun hh => by cases hh), by simp [popL, hw]⟩
  refine Wp.bind (ask h4 st4 w4 K4 L4 ok4 hh4) fun v5 h5 ⟨w5, K5, u5, v5', bb, st5, e5, L5, ok5, hh5, hb5, hl5⟩ => ?_
  subst e5
  (try simp -dsimp (disch := omega) only [↓pre, sp, sp2, wp_some, Int.cast_ofNat_Int, Nat.reduceAdd, Nat.reduceMul, Nat.reduceSub, Nat.reduceLeDiff, Nat.reduceEqDiff, Nat.reducePow, Int.reduceToNat, Int.reducePow, Int.reduceAdd, Int.reduceSub, Int.reduceMul, Int.reduceLT, Int.reduceLE, Int.reduceEq, Int.reduceNeg])
  refine wp_loop (fun m y h6 => ∃ (bb : Bool) (st : LS), y = [.bool bb] ∧ st.wait.length + (if bb then 1 else 0) ≤ m ∧ Wf h6 ∧ Ke (fun _ => True) h h6 ∧ Li (fun i => i < h.n) h6 p st ∧ okL st x S ∧ st.held = [] ∧ (bb = false → st.wait = [])) st4.wait.length (by
      obtain ⟨⟨F, ⟨cs, v, C⟩, _⟩, _⟩ := L4; have := C.n8; omega)
    ⟨bb, st5, rfl, hl5, w5, K5, L5, ok5, hh5, hb5⟩ ?_
  rintro m6 _ h6 j6 ⟨bb, st6, rfl, hm6, w6, K6, L6, ok6, hh6, hb6⟩ hj6
  unfold L_runglaw7_LineHears_2
  (try simp -dsimp (disch := omega) only [↓pre, sp, sp2, wp_some, Int.cast_ofNat_Int, Nat.reduceAdd, Nat.reduceMul, Nat.reduceSub, Nat.reduceLeDiff, Nat.reduceEqDiff, Nat.reducePow, Int.reduceToNat, Int.reducePow, Int.reduceAdd, Int.reduceSub, Int.reduceMul, Int.reduceLT, Int.reduceLE, Int.reduceEq, Int.reduceNeg])
  cases bb with
  | true =>
    (try simp -dsimp (disch := omega) only [↓pre, sp, sp2, wp_some, Int.cast_ofNat_Int, Nat.reduceAdd, Nat.reduceMul, Nat.reduceSub, Nat.reduceLeDiff, Nat.reduceEqDiff, Nat.reducePow, Int.reduceToNat, Int.reducePow, Int.reduceAdd, Int.reduceSub, Int.reduceMul, Int.reduceLT, Int.reduceLE, Int.reduceEq, Int.reduceNeg])
    refine Wp.bind (ask h6 st6 w6 K6 L6 ok6 hh6) fun v7 h7 ⟨w7, K7, u7, v7', bb, st7, e7, L7, ok7, hh7, hb7, hl7⟩ => ?_
    subst e7
    (try simp -dsimp (disch := omega) only [↓pre, sp, sp2, wp_some, Int.cast_ofNat_Int, Nat.reduceAdd, Nat.reduceMul, Nat.reduceSub, Nat.reduceLeDiff, Nat.reduceEqDiff, Nat.reducePow, Int.reduceToNat, Int.reducePow, Int.reduceAdd, Int.reduceSub, Int.reduceMul, Int.reduceLT, Int.reduceLE, Int.reduceEq, Int.reduceNeg])
    simp only [if_true] at hm6
    exact hj6 (m6 - 1) _ _ (by omega) ⟨bb, st7, rfl, by omega, w7, K7, L7, ok7, hh7, hb7⟩
  | false =>
    clear hj6
    have hw6 := hb6 rfl
    have s6 := s.ro K6
    (try simp -dsimp (disch := omega) only [↓pre, sp, sp2, wp_some, Int.cast_ofNat_Int, Nat.reduceAdd, Nat.reduceMul, Nat.reduceSub, Nat.reduceLeDiff, Nat.reduceEqDiff, Nat.reducePow, Int.reduceToNat, Int.reducePow, Int.reduceAdd, Int.reduceSub, Int.reduceMul, Int.reduceLT, Int.reduceLE, Int.reduceEq, Int.reduceNeg])
    refine Wp.bind (rref_write_spec H (n + 3) w6 s6 (x := x)) fun v7 h7 ⟨k7, e7⟩ => ?_
    rw [if_neg cl] at e7
    obtain ⟨v8, rfl, o8, f8⟩ := e7
    have L7 := L6.more (S := fun _ => False) k7 (fun _ f => f.elim)
    have hB : (x :: l ++ sumB (x :: l)).length = l.length + 3 := by simp [sumB_len]
    have hb8 : isBk v8 (bk v8) := o8.bkIs (by omega)
    have hN8 : ∀ i, isBk v8 i → Mo (fun i => i < h.n) h6 h7 i := fun i hi => .inr ⟨f8 i hi, Ow.bk_lt k7.w' o8 hi⟩
    generalize hBB : x :: l ++ sumB (x :: l) = B at *
    generalize Mo (fun i => i < h.n) h6 h7 = N at *
    (try simp -dsimp (disch := omega) only [↓pre, sp, sp2, wp_some, Int.cast_ofNat_Int, Nat.reduceAdd, Nat.reduceMul, Nat.reduceSub, Nat.reduceLeDiff, Nat.reduceEqDiff, Nat.reducePow, Int.reduceToNat, Int.reducePow, Int.reduceAdd, Int.reduceSub, Int.reduceMul, Int.reduceLT, Int.reduceLE, Int.reduceEq, Int.reduceNeg])
    refine wp_loop (fun m y h9 => ∃ (at_ i : Nat) (st : LS), y = [.int .i64 at_, .int .i64 i] ∧ at_ + m = B.length ∧ i ≤ at_ ∧ Wf h9 ∧ Ke (fun _ => True) h h9 ∧ Ob h9 v8 B ∧ Li N h9 p st ∧ okL st x S ∧ st.held = B.take at_ ∧ st.wait = [] ∧ (at_ = 0 ∨ st.still = S - 1)) B.length (by omega)
      ⟨0, 0, st6, rfl, by omega, by omega, k7.w', K6.trans (k7.mono fun _ f => f.elim), o8, L7, ok6, by rw [hh6]; simp, hw6, .inl rfl⟩ ?_
    rintro m9 _ h9 j9 ⟨at_, i, st9, rfl, hat, hia, w9, K9, o9, L9, ok9, hh9, hw9, q9⟩ hj9
    have sc9 := sc.ro K9
    unfold L_runglaw7_LineHears_1
    (try simp -dsimp (disch := omega) only [↓pre, sp, sp2, wp_some, Int.cast_ofNat_Int, Nat.reduceAdd, Nat.reduceMul, Nat.reduceSub, Nat.reduceLeDiff, Nat.reduceEqDiff, Nat.reducePow, Int.reduceToNat, Int.reducePow, Int.reduceAdd, Int.reduceSub, Int.reduceMul, Int.reduceLT, Int.reduceLE, Int.reduceEq, Int.reduceNeg, o9.rd.len])
    refine wp_ite (fun c1 => ?_) (fun c1 => ?_)
    · (try simp -dsimp (disch := omega) only [↓pre, sp, sp2, wp_some, Int.cast_ofNat_Int, Nat.reduceAdd, Nat.reduceMul, Nat.reduceSub, Nat.reduceLeDiff, Nat.reduceEqDiff, Nat.reducePow, Int.reduceToNat, Int.reducePow, Int.reduceAdd, Int.reduceSub, Int.reduceMul, Int.reduceLT, Int.reduceLE, Int.reduceEq, Int.reduceNeg, o9.rd.len, sc9.len])
      refine wp_kJ (fun y h10 => h9 = h10 ∧ ∃ nn : Nat, y = [.int .i64 nn] ∧ 0 < nn ∧ nn ≤ B.length - at_) (fun j2 hj2 => ?_) ?_
      · refine wp_kIf (fun c2 => ?_) (fun c2 => ?_)
        · have c2 := of_decide_eq_true c2
          have hg := gb_lt cuts i
          have er : Int.tmod (gb cuts i : Nat) 9 = ((gb cuts i % 9 : Nat) : Int) := (Int.ofNat_tmod _ 9).symm
          have e3 : min ((B.length : Int) - at_) (1 + ((gb cuts i % 9 : Nat) : Int)) = ((min (B.length - at_) (1 + gb cuts i % 9) : Nat) : Int) := by omega
          (try simp -dsimp (disch := omega) only [↓pre, sp, sp2, wp_some, Int.cast_ofNat_Int, Nat.reduceAdd, Nat.reduceMul, Nat.reduceSub, Nat.reduceLeDiff, Nat.reduceEqDiff, Nat.reducePow, Int.reduceToNat, Int.reducePow, Int.reduceAdd, Int.reduceSub, Int.reduceMul, Int.reduceLT, Int.reduceLE, Int.reduceEq, Int.reduceNeg, sc9.at, sc9.ldb, er, e3])
          exact hj2 _ _ ⟨rfl, _, rfl, by omega, Nat.min_le_left _ _⟩
        · have e3 : ((B.length : Int) - at_) = ((B.length - at_ : Nat) : Int) := by omega
          rw [e3]
          exact hj2 _ _ ⟨rfl, _, rfl, by omega, Nat.le_refl _⟩
      rintro _ _ ⟨rfl, nn, rfl, hn0, hn1⟩
      obtain ⟨v10, e10, s10, hbk10⟩ := o9.rd.cut2 (p := .i64) (q := .i64) (a := (at_ : Int)) (b := (at_ : Int) + nn) (by omega) (by omega) (by omega)
      have hxl : ((B.drop at_).take nn).length = nn := by rw [List.length_take, List.length_drop]; omega
      have s10' : Bs h9 v10 ((B.drop at_).take nn) .rw := s10.to (by rw [bytesOf_take, bytesOf_drop, Nat.mul_one, Nat.mul_one, List.drop_take, Int.toNat_natCast, show ((at_ : Int) + nn).toNat - at_ = nn by omega]) (by rw [hxl]; omega)
      have hbk : bk v10 = bk v8 := hbk10.resolve_left (by omega)
      (try simp -dsimp (disch := omega) only [↓pre, sp, sp2, wp_some, Int.cast_ofNat_Int, Nat.reduceAdd, Nat.reduceMul, Nat.reduceSub, Nat.reduceLeDiff, Nat.reduceEqDiff, Nat.reducePow, Int.reduceToNat, Int.reducePow, Int.reduceAdd, Int.reduceSub, Int.reduceMul, Int.reduceLT, Int.reduceLE, Int.reduceEq, Int.reduceNeg, e10])
      refine Wp.bind (li_feed H (n + 4) w9 L9 s10' (.inr (by rw [hbk]; exact hN8 _ hb8)) (by omega)) fun v11 h11 ⟨e11, k11, L11⟩ => ?_
      have hxn : (B.drop at_).take nn ≠ [] := fun e => by have := congrArg List.length e; rw [hxl] at this; simp at this; omega
      have hf : feedL st9 ((B.drop at_).take nn) = { st9 with still := 0, held := B.take (at_ + nn) } := by
        unfold feedL
        rw [if_neg hxn, hh9, List.length_take, List.take_of_length_le (l := (B.drop at_).take nn) (by rw [hxl]; omega), List.take_add]
      have ok11 := ok9.feed ((B.drop at_).take nn)
      rw [hf] at L11 ok11
      have o11 : Ob h11 v8 B := o9.ke k11 fun i hi hh => hh (hN8 i hi)
      have ea : ((at_ : Int) + nn) = ((at_ + nn : Nat) : Int) := by omega
      have ei : ((i : Int) + 1) = ((i + 1 : Nat) : Int) := by omega
      (try simp -dsimp (disch := omega) only [↓pre, sp, sp2, wp_some, Int.cast_ofNat_Int, Nat.reduceAdd, Nat.reduceMul, Nat.reduceSub, Nat.reduceLeDiff, Nat.reduceEqDiff, Nat.reducePow, Int.reduceToNat, Int.reducePow, Int.reduceAdd, Int.reduceSub, Int.reduceMul, Int.reduceLT, Int.reduceLE, Int.reduceEq, Int.reduceNeg, ea])
      refine wp_loop (fun m y h12 => ∃ (kk : Nat) (st : LS), y = [.int .i64 kk] ∧ kk + m = S ∧ 1 ≤ kk ∧ Wf h12 ∧ Ke (fun _ => True) h h12 ∧ Ob h12 v8 B ∧ Li N h12 p st ∧ okL st x S ∧ st.held = B.take (at_ + nn) ∧ st.wait = [] ∧ st.still + 1 = kk) (S - 1) (by omega)
        ⟨1, _, rfl, by omega, by omega, k11.w', K9.trans (k11.mono fun _ _ => trivial), o11, L11, ok11, rfl, hw9, rfl⟩ ?_
      rintro m12 _ h12 j12 ⟨kk, st12, rfl, hkm, hk1, w12, K12, o12, L12, ok12, hh12, hw12, q12⟩ hj12
      unfold L_runglaw7_LineHears_0
      (try simp -dsimp (disch := omega) only [↓pre, sp, sp2, wp_some, Int.cast_ofNat_Int, Nat.reduceAdd, Nat.reduceMul, Nat.reduceSub, Nat.reduceLeDiff, Nat.reduceEqDiff, Nat.reducePow, Int.reduceToNat, Int.reducePow, Int.reduceAdd, Int.reduceSub, Int.reduceMul, Int.reduceLT, Int.reduceLE, Int.reduceEq, Int.reduceNeg])
      refine wp_ite (fun c2 => ?_) (fun c2 => ?_)
      · (try simp -dsimp (disch := omega) only [↓pre, sp, sp2, wp_some, Int.cast_ofNat_Int, Nat.reduceAdd, Nat.reduceMul, Nat.reduceSub, Nat.reduceLeDiff, Nat.reduceEqDiff, Nat.reducePow, Int.reduceToNat, Int.reducePow, Int.reduceAdd, Int.reduceSub, Int.reduceMul, Int.reduceLT, Int.reduceLE, Int.reduceEq, Int.reduceNeg])
        refine Wp.bind (li_tick H n w12 L12 (by omega)) fun v13 h13 ⟨e13, k13, L13⟩ => ?_
        have hne : st12.held ≠ [] := by rw [hh12]; intro e; have t2 := congrArg List.length e; rw [List.length_take] at t2; have t3 : min (at_ + nn) B.length = 0 := t2; omega
        have ht : tickL st12 = { st12 with still := st12.still + 1 } := by unfold tickL; rw [if_neg hne, if_pos (by rw [ok12.2.1]; omega)]
        have okt := ok12.tick
        rw [ht] at L13 okt
        have ek : ((kk : Int) + 1) = ((kk + 1 : Nat) : Int) := by omega
        (try simp -dsimp (disch := omega) only [↓pre, sp, sp2, wp_some, Int.cast_ofNat_Int, Nat.reduceAdd, Nat.reduceMul, Nat.reduceSub, Nat.reduceLeDiff, Nat.reduceEqDiff, Nat.reducePow, Int.reduceToNat, Int.reducePow, Int.reduceAdd, Int.reduceSub, Int.reduceMul, Int.reduceLT, Int.reduceLE, Int.reduceEq, Int.reduceNeg, ek])
        exact hj12 (m12 - 1) _ _ (by omega) ⟨kk + 1, _, rfl, by omega, by omega, k13.w', K12.trans (k13.mono fun _ _ => trivial), o12.ke k13 fun i hi hh => hh (hN8 i hi), L13, okt, hh12, hw12, by simp only; omega⟩
      · (try simp -dsimp (disch := omega) only [↓pre, sp, sp2, wp_some, Int.cast_ofNat_Int, Nat.reduceAdd, Nat.reduceMul, Nat.reduceSub, Nat.reduceLeDiff, Nat.reduceEqDiff, Nat.reducePow, Int.reduceToNat, Int.reducePow, Int.reduceAdd, Int.reduceSub, Int.reduceMul, Int.reduceLT, Int.reduceLE, Int.reduceEq, Int.reduceNeg, ei])
        exact hj9 (m9 - nn) _ _ (by omega) ⟨at_ + nn, i + 1, st12, rfl, by omega, by omega, w12, K12, o12, L12, ok12, hh12, hw12, .inr (by omega)⟩
    · have hab : at_ = B.length := by omega
      have hst : st9.still = S - 1 := by
        rcases q9 with q | q
        · omega
        · exact q
      have hhB : st9.held = x :: l ++ sumB (x :: l) := by rw [hh9, hab, List.take_length, hBB]
      (try simp -dsimp (disch := omega) only [↓pre, sp, sp2, wp_some, Int.cast_ofNat_Int, Nat.reduceAdd, Nat.reduceMul, Nat.reduceSub, Nat.reduceLeDiff, Nat.reduceEqDiff, Nat.reducePow, Int.reduceToNat, Int.reducePow, Int.reduceAdd, Int.reduceSub, Int.reduceMul, Int.reduceLT, Int.reduceLE, Int.reduceEq, Int.reduceNeg])
      refine Wp.bind (li_next H (n + 4) w9 L9) fun v10 h10 ⟨k10, q10⟩ => ?_
      rw [hw9] at q10
      obtain ⟨rfl, L10⟩ := q10
      (try simp -dsimp (disch := omega) only [↓pre, sp, sp2, wp_some, Int.cast_ofNat_Int, Nat.reduceAdd, Nat.reduceMul, Nat.reduceSub, Nat.reduceLeDiff, Nat.reduceEqDiff, Nat.reducePow, Int.reduceToNat, Int.reducePow, Int.reduceAdd, Int.reduceSub, Int.reduceMul, Int.reduceLT, Int.reduceLE, Int.reduceEq, Int.reduceNeg])
      refine Wp.bind (li_tick H n k10.w' L10 (by omega)) fun v11 h11 ⟨e11, k11, L11⟩ => ?_
      rw [tick_frame cl hhB ok9.1 hw9 (by rw [ok9.2.1]; omega)] at L11
      (try simp -dsimp (disch := omega) only [↓pre, sp, sp2, wp_some, Int.cast_ofNat_Int, Nat.reduceAdd, Nat.reduceMul, Nat.reduceSub, Nat.reduceLeDiff, Nat.reduceEqDiff, Nat.reducePow, Int.reduceToNat, Int.reducePow, Int.reduceAdd, Int.reduceSub, Int.reduceMul, Int.reduceLT, Int.reduceLE, Int.reduceEq, Int.reduceNeg])
      refine Wp.bind (li_next H (n + 4) k11.w' L11) fun v12 h12 ⟨k12, q12⟩ => ?_
      obtain ⟨u, rfl, bu, L12⟩ := q12
      have s12 : Bs h12 b l .ro := (((s.ro K9).ro k10).ro k11).ro k12
      have hb12 := fun n => bytes_spec H n bu s12
      have hl12 := li_left H (n + 4) L12
      have e0 : (popL { st9 with still := 0, held := [], wait := [(x, l)] }).held = [] := rfl
      rw [e0] at hl12
      simp only [List.length_nil, Int.cast_ofNat_Int] at hl12
      have et : decide ((x.toNat : Int) = (x.toNat : Nat)) = true := decide_eq_true rfl
      (try simp -dsimp (disch := omega) only [↓pre, sp, sp2, wp_some, Int.cast_ofNat_Int, Nat.reduceAdd, Nat.reduceMul, Nat.reduceSub, Nat.reduceLeDiff, Nat.reduceEqDiff, Nat.reducePow, Int.reduceToNat, Int.reducePow, Int.reduceAdd, Int.reduceSub, Int.reduceMul, Int.reduceLT, Int.reduceLE, Int.reduceEq, Int.reduceNeg])
      refine wp_kTh (fun v h6 => v = .bool true) (fun j hj => ?_) ?_
      · (try simp -dsimp (disch := omega) only [↓pre, sp, sp2, wp_some, Int.cast_ofNat_Int, Nat.reduceAdd, Nat.reduceMul, Nat.reduceSub, Nat.reduceLeDiff, Nat.reduceEqDiff, Nat.reducePow, Int.reduceToNat, Int.reducePow, Int.reduceAdd, Int.reduceSub, Int.reduceMul, Int.reduceLT, Int.reduceLE, Int.reduceEq, Int.reduceNeg, et, hb12, hl12, decide_true])
        exact hj _ _ rfl
      · rintro _ h13 rfl
        (try simp -dsimp (disch := omega) only [↓pre, sp, sp2, wp_some, Int.cast_ofNat_Int, Nat.reduceAdd, Nat.reduceMul, Nat.reduceSub, Nat.reduceLeDiff, Nat.reduceEqDiff, Nat.reducePow, Int.reduceToNat, Int.reducePow, Int.reduceAdd, Int.reduceSub, Int.reduceMul, Int.reduceLT, Int.reduceLE, Int.reduceEq, Int.reduceNeg])
end Go.Proofs.Ytpbkgmcpelhlpaa.AI
