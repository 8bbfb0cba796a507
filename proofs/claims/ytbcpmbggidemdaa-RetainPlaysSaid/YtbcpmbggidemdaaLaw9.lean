/- Chapter 9: the statements' steps. -/
import Derived.Test.YtbcpmbggidemdaaRet5
import Derived.Test.YtbcpmbggidemdaaHelpP
namespace Go.Proofs.Ytbcpmbggidemdaa.AI
open Go
set_option linter.unusedSimpArgs false
set_option linter.unusedVariables false
variable {ov : AOver} {h : AH} {v a b : AVal} {md md' : AMode} {p q : Nat} {s : BSt} {lv : AVal} {vs : List AVal}

def IsI (x : Int) : Prop := -9223372036854775808 ≤ x ∧ x < 9223372036854775808
theorem known_spec (K : ov N_runglaw9_known = some knownYes) (n : Nat) : kc ov (n + 1) N_runglaw9_known [] h = some (.bool true, h) := ov_call K []
/-- The store lies there, as new or not. -/
structure On9 (h : AH) (p : Nat) (s : BSt) (lv : AVal) (vs : List AVal) (c : Nat) : Prop where
  w : Wf h
  t : Sto h p s lv vs
  I : Inv s c
  d : s.dead = false
  wr : s.writes ≤ 2 * c
  c : c < 2 ^ 40
theorem On9.kp {h' : AH} {c : Nat} (L : On9 h p s lv vs c) (k : Kp h h') : On9 h' p s lv vs c := ⟨k.w', L.t.kp k, L.I, L.d, L.wr, L.c⟩
theorem On9.room {c : Nat} (L : On9 h p s lv vs c) : roomM s = (s.size - 28) / 8 := by
  have := L.I.bl; have := L.I.sz
  unfold roomM; rw [if_neg (by omega)]
theorem store_spec (H : Plain ov) (n : Nat) (w : Wf h) {size : Int} (hs : -9223372036854775808 ≤ size ∧ size < 9223372036854775808) :
    Wp (kc ov (n + 2) N_runglaw9_store [.int .i64 size] h) fun r h' => Kp h h' ∧ ∃ p s lv vs, r = .ptr (some (p, 0)) ∧ On9 h' p s lv vs 0 ∧ (∀ i, Mine p lv vs i → h.n ≤ i) ∧ LowS s ∧ Empty s ∧ s.left = -1 ∧ s.size ≤ 427 ∧ 128 ≤ s.size ∧ s.bl.length = 8 := by
  rw [C_runglaw9_store H]; unfold F_runglaw9_store
  obtain ⟨i, hi, e, -⟩ := place_spec (h := h) H n hs (m := 300) (by omega) (by omega)
  have e' : kc ov (n + 1) N_runghelp_Place [.int .i64 size, .int .i64 300] h = some (.int .i64 i, h) := e
  (try simp -dsimp (disch := omega) only [↓pre, sp, sp2, wp_some, Int.cast_ofNat_Int, Nat.reduceAdd, Nat.reduceMul, Nat.reduceSub, Nat.reduceLeDiff, Nat.reduceEqDiff, Nat.reducePow, Int.reduceToNat, Int.reducePow, Int.reduceAdd, Int.reduceSub, Int.reduceMul, Int.reduceLT, Int.reduceLE, Int.reduceEq, Int.reduceNeg, e'])
  refine Wp.bind (new_spec H n w 8 (128 + i)) fun v1 h1 ⟨k1, p, lv, vs, e1, t1, f1⟩ => ?_
  subst e1
  (try simp -dsimp (disch := omega) only [↓pre, sp, sp2, wp_some, Int.cast_ofNat_Int, Nat.reduceAdd, Nat.reduceMul, Nat.reduceSub, Nat.reduceLeDiff, Nat.reduceEqDiff, Nat.reducePow, Int.reduceToNat, Int.reducePow, Int.reduceAdd, Int.reduceSub, Int.reduceMul, Int.reduceLT, Int.reduceLE, Int.reduceEq, Int.reduceNeg])
  obtain ⟨n1, n2, n3, n4, n5, n6, n7, n8⟩ := new_inv 8 (128 + i) (by omega) (by omega)
  exact ⟨k1, p, _, lv, vs, rfl, ⟨k1.w', t1, n1, n5, by omega, by omega⟩, f1, n2, n3, n6, by rw [n4]; omega, by rw [n4]; omega, by rw [n8]; rfl⟩
def listO : Option (Nat × Nat × List Int) → List Int
  | some (_, _, l) => l
  | none => []
theorem open9 (H : Plain ov) (n : Nat) {c k : Nat} {o : Option (Nat × Nat × List Int)} (L : On9 h p s lv vs c) (hk : k ≤ roomM s) (Hs : Has s k o) :
    Wp (kc ov (n + 5) N_retain_Open [.ptr (some (p, 0)), .int .i64 k] h) fun r h' => Kp h h' ∧ ∃ q lv2 j, r = .tuple [.ptr (some (q, 0)), lv2, .int .i64 (if o.isSome then 1 else 0 : Nat), .int .i64 0] ∧ Jr h' q p j ∧ h.n ≤ q ∧ Oi h' lv2 (listO o) ∧ Rdy s j k c o ∧ j.laid = 0 := by
  have hb := L.I.bl
  have hsz := L.I.sz
  have hc := L.c
  refine (open_spec H n L.w L.t L.d (by omega) k (fun i => by have := L.I.nums i; unfold bAt at this; omega)).mono ?_
  rintro r h' ⟨k1, ⟨hbad, _⟩ | ⟨_, q, lv2, e, g, hq, ol, -, -⟩⟩
  · unfold openBad at hbad; omega
  · rw [Int.toNat_natCast] at e g ol
    obtain ⟨R, e1, e2⟩ := open_has L.I Hs
    rw [e1] at e
    refine ⟨k1, q, lv2, _, e, g, hq, ?_, R, rfl⟩
    have : listO o = (openM s k).best.l := by
      rw [e2]
      cases o with
      | none => rfl
      | some x => obtain ⟨N, sc, l⟩ := x; rfl
    rw [this]; exact ol
theorem openS (H : Plain ov) (n : Nat) {c k N sc : Nat} {l : List Int} (L : On9 h p s lv vs c) (hk : k ≤ roomM s) (Hs : Has s k (some (N, sc, l))) :
    Wp (kc ov (n + 5) N_retain_Open [.ptr (some (p, 0)), .int .i64 k] h) fun r h' => Kp h h' ∧ ∃ q lv2 j, r = .tuple [.ptr (some (q, 0)), lv2, .int .i64 1, .int .i64 0] ∧ Jr h' q p j ∧ h.n ≤ q ∧ Oi h' lv2 l ∧ Rdy s j k c (some (N, sc, l)) ∧ j.laid = 0 ∧ j.scan = sc :=
  (open9 H n L hk Hs).mono fun _ _ ⟨k1, q, l2, j, e, g, hq, o, R, e2⟩ => ⟨k1, q, l2, j, e, g, hq, o, R, e2, by obtain ⟨_, _, _, h3, _⟩ := R.2.2; exact h3⟩
theorem openE (H : Plain ov) (n : Nat) {c k : Nat} (L : On9 h p s lv vs c) (hk : k ≤ roomM s) (Hs : Empty s) :
    Wp (kc ov (n + 5) N_retain_Open [.ptr (some (p, 0)), .int .i64 k] h) fun r h' => Kp h h' ∧ ∃ q lv2 j, r = .tuple [.ptr (some (q, 0)), lv2, .int .i64 0, .int .i64 0] ∧ Jr h' q p j ∧ h.n ≤ q ∧ Oi h' lv2 [] ∧ Rdy s j k c none ∧ j.laid = 0 :=
  (open9 H n L hk (o := none) Hs).mono fun _ _ x => x
theorem lay9 (X : Xs ov) (n : Nat) {c k : Nat} {o : Option (Nat × Nat × List Int)} {j : JSt} (L : On9 h p s lv vs c) (hk : k ≤ roomM s) (R : Rdy s j k c o) (g : Jr h q p j) (hq : ¬ Mine p lv vs q) (hlaid : j.laid < 2 ^ 62)
    {x : AVal} {l : List Int} (sx : Sz h x 1 l.length (i64s l) md) (hl : l.length = k) (hi : ∀ x ∈ l, InI64 x) {scan : Nat} (hscan : scan < 2 ^ 64) (hlf : s.left = -1 ∨ 2 ≤ s.left) (hc1 : c + 1 < 2 ^ 40) :
    Wp (kc ov (n + 4) N_retain_Journal_Lay [.ptr (some (q, 0)), .int .u64 scan, x] h) fun r h' => r = .int .i64 0 ∧ Ke (fun i => Mine p lv vs i ∨ i = q) h h' ∧ ∃ s', On9 h' p s' lv vs (c + 1) ∧ (LowS s → c + 1 < 256 → LowS s') ∧ s'.size = s.size ∧ s'.left = max (s.left - 2) (-1) ∧ roomM s' = roomM s ∧
      Rdy s' { j with scan := scan, at_ := layAt j, next := j.next + 1, laid := j.laid + 1 } k (c + 1) (some (j.next, scan, l)) ∧ Jr h' q p { j with scan := scan, at_ := layAt j, next := j.next + 1, laid := j.laid + 1 } ∧ (bAt s' (layAt j) = slotBytes s.size j.next scan l ∧ bAt s' (2 + layAt j) = markBytes s.size j.next ∧ ∀ i, i ≠ layAt j → i ≠ 2 + layAt j → bAt s' i = bAt s i) := by
  have hsz := L.I.sz
  have hc := L.c
  have hwr := L.wr
  have hrm := L.room
  obtain ⟨h1, h2, h3, h4, h5⟩ := R.at
  have hn1 : j.n = k := R.1
  have hn2 : j.next ≤ c + 1 := R.2.1
  obtain ⟨s', e, I', hLow, R', d', sz', wr', lf', bl', hb⟩ := lay_ok L.I R hl (by omega) hi hscan (by omega) L.d hlf
  refine (lay_spec X n L.w L.t g hq sx hscan (by omega) ⟨h2, h3⟩ (by omega) hlaid (by omega) (by omega) (by omega)).mono ?_
  rintro r h' ⟨rfl, t', g', k'⟩
  rw [e] at t' g' ⊢
  have L' : On9 h' p s' lv vs (c + 1) := ⟨k'.w', t', I', d', by omega, hc1⟩
  exact ⟨rfl, k', s', L', hLow, sz', lf', by rw [L'.room, hrm, sz'], R', g', hb⟩
theorem new9 (H : Plain ov) (n : Nat) (w : Wf h) {blocks size : Int} (hb : 4 ≤ blocks) (hs : 64 ≤ size) :
    Wp (kc ov (n + 1) N_block_New [.int .i64 blocks, .int .i64 size] h) fun r h' => Kp h h' ∧ ∃ p s lv vs, r = .ptr (some (p, 0)) ∧ On9 h' p s lv vs 0 ∧ (∀ i, Mine p lv vs i → h.n ≤ i) ∧ LowS s ∧ Empty s ∧ s.left = -1 ∧ s.size = (min size 4096).toNat ∧ s.bl.length = (min blocks 64).toNat := by
  refine (new_spec H n w blocks size).mono ?_
  rintro r h' ⟨k1, p, lv, vs, e1, t1, f1⟩
  obtain ⟨n1, n2, n3, n4, n5, n6, n7, n8⟩ := new_inv blocks size hb hs
  exact ⟨k1, p, _, lv, vs, e1, ⟨k1.w', t1, n1, n5, by omega, by omega⟩, f1, n2, n3, n6, n4, n8⟩
theorem lay90 (X : Xs ov) (n : Nat) {c k : Nat} {o : Option (Nat × Nat × List Int)} {j : JSt} (L : On9 h p s lv vs c) (hk : k ≤ roomM s) (R : Rdy s j k c o) (g : Jr h q p j) (hq : ¬ Mine p lv vs q) (hlaid : j.laid < 2 ^ 62)
    {x : AVal} {l : List Int} (sx : Sz h x 1 l.length (i64s l) md) (hl : l.length ≠ k) (hl2 : l.length ≤ 2 ^ 20) {scan : Nat} (hscan : scan < 2 ^ 64) (hc1 : c + 1 < 2 ^ 40) :
    Wp (kc ov (n + 4) N_retain_Journal_Lay [.ptr (some (q, 0)), .int .u64 scan, x] h) fun r h' => r = .int .i64 90 ∧ Ke (fun i => Mine p lv vs i ∨ i = q) h h' ∧ On9 h' p s lv vs c ∧ Jr h' q p j := by
  have hsz := L.I.sz
  have hwr := L.wr
  obtain ⟨h1, h2, h3, h4, h5⟩ := R.at
  have hn1 : j.n = k := R.1
  have hn2 : j.next ≤ c + 1 := R.2.1
  refine (lay_spec X n L.w L.t g hq sx hscan (by omega) ⟨h2, h3⟩ (by omega) hlaid (by omega) (by omega) (by omega)).mono ?_
  rintro r h' ⟨rfl, t', g', k'⟩
  have e : layM s j scan l = (s, j, 90) := by unfold layM; rw [if_pos (by omega)]
  rw [e] at t' g' ⊢
  exact ⟨rfl, k', ⟨k'.w', t', L.I, L.d, L.wr, L.c⟩, g'⟩
theorem openBad9 (H : Plain ov) (n : Nat) {c : Nat} (L : On9 h p s lv vs c) (hc1 : c < 2 ^ 40) {k : Int} (hk : k < 0 ∨ roomM s < k) :
    Wp (kc ov (n + 5) N_retain_Open [.ptr (some (p, 0)), .int .i64 k] h) fun r h' => Kp h h' ∧ r = .tuple [.ptr none, .slice none 0 0, .int .i64 0, .int .i64 90] := by
  have hb := L.I.bl
  refine (open_spec H n L.w L.t L.d (by omega) k (fun i => by have := L.I.nums i; unfold bAt at this; omega)).mono ?_
  rintro r h' ⟨k1, ⟨hbad, e⟩ | ⟨hg, _⟩⟩
  · exact ⟨k1, e⟩
  · unfold openBad at hg; omega
theorem known_holds (X : Xs ov) (hk : ov N_runglaw9_known = none) (n : Nat) (w : Wf h) : Wp (kcall Try.prog [] ov (n + 6) N_runglaw9_known [] h) fun r h' => r = .bool true := by
  have H := X.p
  rw [C_runglaw9_known hk]
  change Wp (F_runglaw9_known (kc ov (n + 5)) (kd ov (n + 5)) h) _
  unfold F_runglaw9_known
  (try simp -dsimp (disch := omega) only [↓pre, sp, sp2, wp_some, Int.cast_ofNat_Int, Nat.reduceAdd, Nat.reduceMul, Nat.reduceSub, Nat.reduceLeDiff, Nat.reduceEqDiff, Nat.reducePow, Int.reduceToNat, Int.reducePow, Int.reduceAdd, Int.reduceSub, Int.reduceMul, Int.reduceLT, Int.reduceLE, Int.reduceEq, Int.reduceNeg])
  refine Wp.bind (new9 H (n + 4) w (blocks := 8) (size := 128) (by omega) (by omega)) fun v1 h1 ⟨k1, p, s, lv, vs, e1, L1, f1, low, E, lf, sz, b8⟩ => ?_
  subst e1
  have hrm := L1.room
  have hsz : s.size = 128 := by rw [sz]; rfl
  have hr12 : roomM s = 12 := by rw [hrm, hsz]
  have er := room_spec H (n + 3) L1.t
  rw [hr12] at er
  have er' : kc ov (n + 5) N_retain_Room [.ptr (some (p, 0))] h1 = some (.int .i64 12, h1) := er
  (try simp -dsimp (disch := omega) only [↓pre, sp, sp2, wp_some, Int.cast_ofNat_Int, Nat.reduceAdd, Nat.reduceMul, Nat.reduceSub, Nat.reduceLeDiff, Nat.reduceEqDiff, Nat.reducePow, Int.reduceToNat, Int.reducePow, Int.reduceAdd, Int.reduceSub, Int.reduceMul, Int.reduceLT, Int.reduceLE, Int.reduceEq, Int.reduceNeg, er'])
  refine wp_kTh (fun r h' => r = .bool false ∧ Kp h1 h') (fun jj hjj => ?_) ?_
  · (try simp -dsimp (disch := omega) only [↓pre, sp, sp2, wp_some, Int.cast_ofNat_Int, Nat.reduceAdd, Nat.reduceMul, Nat.reduceSub, Nat.reduceLeDiff, Nat.reduceEqDiff, Nat.reducePow, Int.reduceToNat, Int.reducePow, Int.reduceAdd, Int.reduceSub, Int.reduceMul, Int.reduceLT, Int.reduceLE, Int.reduceEq, Int.reduceNeg, er', decide_false])
    refine Wp.bind (new_spec H (n + 4) k1.w' 3 512) fun v2 h2 ⟨k2, p2, lv2, vs2, e2, t2, f2⟩ => ?_
    subst e2
    have er2 := room_spec H (n + 3) t2
    have e0 : roomM (newM 3 512) = 0 := by
      unfold roomM; rw [if_pos (.inl (by unfold newM; simp; decide))]
    rw [e0] at er2
    have er2' : kc ov (n + 5) N_retain_Room [.ptr (some (p2, 0))] h2 = some (.int .i64 0, h2) := er2
    (try simp -dsimp (disch := omega) only [↓pre, sp, sp2, wp_some, Int.cast_ofNat_Int, Nat.reduceAdd, Nat.reduceMul, Nat.reduceSub, Nat.reduceLeDiff, Nat.reduceEqDiff, Nat.reducePow, Int.reduceToNat, Int.reducePow, Int.reduceAdd, Int.reduceSub, Int.reduceMul, Int.reduceLT, Int.reduceLE, Int.reduceEq, Int.reduceNeg, er2', not_true_eq_false, decide_false])
    exact hjj _ _ ⟨rfl, k2⟩
  rintro _ h2 ⟨rfl, k2⟩
  have L2 := L1.kp k2
  (try simp -dsimp (disch := omega) only [↓pre, sp, sp2, wp_some, Int.cast_ofNat_Int, Nat.reduceAdd, Nat.reduceMul, Nat.reduceSub, Nat.reduceLeDiff, Nat.reduceEqDiff, Nat.reducePow, Int.reduceToNat, Int.reducePow, Int.reduceAdd, Int.reduceSub, Int.reduceMul, Int.reduceLT, Int.reduceLE, Int.reduceEq, Int.reduceNeg])
  refine Wp.bind (openE H n L2 (k := 2) (by omega) E) fun v3 h3 ⟨k3, q, l2, j, e3, g3, hq3, o3, R3, hj3⟩ => ?_
  subst e3
  have L3 := L2.kp k3
  have hqm : ¬ Mine p lv vs q := fun hm => by have := L2.t.lt L2.w hm; omega
  have z0 : ((0 : Nat) : Int) = 0 := rfl
  (try simp -dsimp (disch := omega) only [↓pre, sp, sp2, wp_some, Int.cast_ofNat_Int, Nat.reduceAdd, Nat.reduceMul, Nat.reduceSub, Nat.reduceLeDiff, Nat.reduceEqDiff, Nat.reducePow, Int.reduceToNat, Int.reducePow, Int.reduceAdd, Int.reduceSub, Int.reduceMul, Int.reduceLT, Int.reduceLE, Int.reduceEq, Int.reduceNeg, (Ow.rd o3).len, List.length_nil, z0, not_true_eq_false, decide_false])
  refine wp_kT (.bool false) (fun jj hjj => ?_) ?_
  · (try simp -dsimp (disch := omega) only [↓pre, sp, sp2, wp_some, Int.cast_ofNat_Int, Nat.reduceAdd, Nat.reduceMul, Nat.reduceSub, Nat.reduceLeDiff, Nat.reduceEqDiff, Nat.reducePow, Int.reduceToNat, Int.reducePow, Int.reduceAdd, Int.reduceSub, Int.reduceMul, Int.reduceLT, Int.reduceLE, Int.reduceEq, Int.reduceNeg, (Ow.rd o3).len, List.length_nil, z0, not_true_eq_false, decide_false])
    exact hjj
  (try simp -dsimp (disch := omega) only [↓pre, sp, sp2, wp_some, Int.cast_ofNat_Int, Nat.reduceAdd, Nat.reduceMul, Nat.reduceSub, Nat.reduceLeDiff, Nat.reduceEqDiff, Nat.reducePow, Int.reduceToNat, Int.reducePow, Int.reduceAdd, Int.reduceSub, Int.reduceMul, Int.reduceLT, Int.reduceLE, Int.reduceEq, Int.reduceNeg])
  refine wp_buildSl k3.w' (by simp) rfl rfl fun b4 h4 hb4 k4 n4 g4 => ?_
  have o4 : Oi h4 (.slice (some (b4, 0, 1)) 2 2) [5, -6] := by subst hb4; exact Ow.new g4 (by omega) 2 rfl rfl
  (try simp -dsimp (disch := omega) only [↓pre, sp, sp2, wp_some, Int.cast_ofNat_Int, Nat.reduceAdd, Nat.reduceMul, Nat.reduceSub, Nat.reduceLeDiff, Nat.reduceEqDiff, Nat.reducePow, Int.reduceToNat, Int.reducePow, Int.reduceAdd, Int.reduceSub, Int.reduceMul, Int.reduceLT, Int.reduceLE, Int.reduceEq, Int.reduceNeg])
  refine Wp.bind (lay9 X (n + 1) (L3.kp k4) (k := 2) (by omega) R3 (g3.kp k4) hqm (by omega) (Ow.rd o4) rfl (by intro x hx; simp at hx; rcases hx with rfl | rfl <;> (unfold InI64; omega)) (scan := 4) (by omega) (.inl lf) (by omega)) fun v5 h5 ⟨e5, k5, s', L5, _, hs5, _, hr5, R5, g5, hb5⟩ => ?_
  subst e5
  (try simp -dsimp (disch := omega) only [↓pre, sp, sp2, wp_some, Int.cast_ofNat_Int, Nat.reduceAdd, Nat.reduceMul, Nat.reduceSub, Nat.reduceLeDiff, Nat.reduceEqDiff, Nat.reducePow, Int.reduceToNat, Int.reducePow, Int.reduceAdd, Int.reduceSub, Int.reduceMul, Int.reduceLT, Int.reduceLE, Int.reduceEq, Int.reduceNeg])
  refine wp_buildSl k5.w' (by simp) rfl rfl fun b6 h6 hb6 k6 n6 g6 => ?_
  have o6 : Oi h6 (.slice (some (b6, 0, 1)) 1 1) [1] := by subst hb6; exact Ow.new g6 (by omega) 1 rfl rfl
  refine Wp.bind (lay90 X (n + 1) (L5.kp k6) (k := 2) (by omega) R5 (g5.kp k6) hqm (by show j.laid + 1 < _; omega) (Ow.rd o6) (by decide) (by decide) (scan := 5) (by omega) (by omega)) fun v7 h7 ⟨e7, k7, L7, g7⟩ => ?_
  subst e7
  (try simp -dsimp (disch := omega) only [↓pre, sp, sp2, wp_some, Int.cast_ofNat_Int, Nat.reduceAdd, Nat.reduceMul, Nat.reduceSub, Nat.reduceLeDiff, Nat.reduceEqDiff, Nat.reducePow, Int.reduceToNat, Int.reducePow, Int.reduceAdd, Int.reduceSub, Int.reduceMul, Int.reduceLT, Int.reduceLE, Int.reduceEq, Int.reduceNeg])
  refine Wp.bind (openS H n L7 (k := 2) (by omega) R5.has) fun v8 h8 ⟨k8, q8, l8, j8, e8, g8, hq8, o8, R8, hj8, _⟩ => ?_
  subst e8
  (try simp -dsimp (disch := omega) only [↓pre, sp, sp2, wp_some, Int.cast_ofNat_Int, Nat.reduceAdd, Nat.reduceMul, Nat.reduceSub, Nat.reduceLeDiff, Nat.reduceEqDiff, Nat.reducePow, Int.reduceToNat, Int.reducePow, Int.reduceAdd, Int.reduceSub, Int.reduceMul, Int.reduceLT, Int.reduceLE, Int.reduceEq, Int.reduceNeg])
  refine Wp.bind (openBad9 H n (L7.kp k8) (by omega) (k := 1000) (.inr (by omega))) fun v9 h9 ⟨k9, e9⟩ => ?_
  subst e9
  (try simp -dsimp (disch := omega) only [↓pre, sp, sp2, wp_some, Int.cast_ofNat_Int, Nat.reduceAdd, Nat.reduceMul, Nat.reduceSub, Nat.reduceLeDiff, Nat.reduceEqDiff, Nat.reducePow, Int.reduceToNat, Int.reducePow, Int.reduceAdd, Int.reduceSub, Int.reduceMul, Int.reduceLT, Int.reduceLE, Int.reduceEq, Int.reduceNeg, decide_true])
  refine wp_kTh (fun r h' => r = .bool true) (fun jj hjj => ?_) ?_
  · (try simp -dsimp (disch := omega) only [↓pre, sp, sp2, wp_some, Int.cast_ofNat_Int, Nat.reduceAdd, Nat.reduceMul, Nat.reduceSub, Nat.reduceLeDiff, Nat.reduceEqDiff, Nat.reducePow, Int.reduceToNat, Int.reducePow, Int.reduceAdd, Int.reduceSub, Int.reduceMul, Int.reduceLT, Int.reduceLE, Int.reduceEq, Int.reduceNeg, decide_true])
    refine wp_buildSl k9.w' (by simp) rfl rfl fun b10 h10 hb10 k10 n10 g10 => ?_
    have o10 : Oi h10 (.slice (some (b10, 0, 1)) 2 2) [5, -6] := by subst hb10; exact Ow.new g10 (by omega) 2 rfl rfl
    have en := nums_spec H (n + 4) ((Ow.rd o8).kp (k9.trans k10)) (Ow.rd o10) (by decide)
    have g10' := g7.kp (k8.trans (k9.trans k10))
    have hl := laid_spec X (n + 2) g10'
    have hs := scan_spec H (n + 4) g10'
    have hl' : kc ov (n + 5) N_retain_Journal_Laid [.ptr (some (q, 0))] h10 = some (.int .u64 1, h10) := by
      rw [hl]
      show some (AVal.int .u64 ((j.laid + 1 : Nat) : Int), h10) = _
      rw [hj3]; rfl
    (try simp -dsimp (disch := omega) only [↓pre, sp, sp2, wp_some, Int.cast_ofNat_Int, Nat.reduceAdd, Nat.reduceMul, Nat.reduceSub, Nat.reduceLeDiff, Nat.reduceEqDiff, Nat.reducePow, Int.reduceToNat, Int.reducePow, Int.reduceAdd, Int.reduceSub, Int.reduceMul, Int.reduceLT, Int.reduceLE, Int.reduceEq, Int.reduceNeg, en, decide_true, hl', hs])
    exact hjj _ _ rfl
  · rintro _ h8 rfl
    (try simp -dsimp (disch := omega) only [↓pre, sp, sp2, wp_some, Int.cast_ofNat_Int, Nat.reduceAdd, Nat.reduceMul, Nat.reduceSub, Nat.reduceLeDiff, Nat.reduceEqDiff, Nat.reducePow, Int.reduceToNat, Int.reducePow, Int.reduceAdd, Int.reduceSub, Int.reduceMul, Int.reduceLT, Int.reduceLE, Int.reduceEq, Int.reduceNeg])
/-- A store that is cut. -/
theorem cut9 (H : Plain ov) (n : Nat) {c k : Nat} {o : Option (Nat × Nat × List Int)} {j : JSt} (L : On9 h p s lv vs c) (w : Nat) (hw : w < 2 ^ 40) {pr : Int} (hp : IsI pr) (low : LowS s) (R : Rdy s j k c o) :
    Wp (kc ov (n + 1) N_block_Store_Cut [.ptr (some (p, 0)), .int .i64 w, .int .i64 pr] h) fun r h' => r = .tuple [] ∧ Ke (Mine p lv vs) h h' ∧ ∃ s', On9 h' p s' lv vs c ∧ s'.left = w ∧ LowS s' ∧ Rdy s' j k c o ∧ roomM s' = roomM s ∧ s'.size = s.size := by
  refine (cut_spec H n L.w L.t w pr (by omega) hp).mono ?_
  rintro r h' ⟨e, t, k'⟩
  have hI := L.I
  exact ⟨e, k', _, ⟨k'.w', t, ⟨hI.bl, hI.sz, hI.len, hI.nums⟩, L.d, L.wr, L.c⟩, by show max (w : Int) (-1) = w; omega, low, R.1 |> fun _ => by
    obtain ⟨r1, r2, r3⟩ := R
    refine ⟨r1, r2, ?_⟩
    cases o with
    | none => exact ⟨⟨r3.1.m2, r3.1.m3, r3.1.z2, r3.1.z3⟩, r3.2⟩
    | some x => obtain ⟨N, sc, l⟩ := x; obtain ⟨a, G, h1⟩ := r3; exact ⟨a, ⟨G.a1, G.pos, G.slot, G.len, G.mark, G.other⟩, h1⟩, rfl, rfl⟩
theorem power9 (H : Plain ov) (n : Nat) {c k : Nat} {o : Option (Nat × Nat × List Int)} (w : Wf h) (t : Sto h p s lv vs) (I : Inv s c) (hwr : s.writes ≤ 2 * c) (hc : c < 2 ^ 40) (low : LowS s) (Hs : Has s k o) :
    Wp (kc ov (n + 1) N_block_Store_Power [.ptr (some (p, 0))] h) fun r h' => r = .tuple [] ∧ Ke (Mine p lv vs) h h' ∧ ∃ s', On9 h' p s' lv vs c ∧ s'.left = -1 ∧ LowS s' ∧ Has s' k o ∧ roomM s' = roomM s ∧ s'.size = s.size := by
  refine (power_spec H n w t).mono ?_
  rintro r h' ⟨e, t', k'⟩
  refine ⟨e, k', _, ⟨k'.w', t', ⟨I.bl, I.sz, I.len, I.nums⟩, rfl, hwr, hc⟩, rfl, low, ?_, rfl, rfl⟩
  cases o with
  | none => exact ⟨Hs.m2, Hs.m3, Hs.z2, Hs.z3⟩
  | some x => obtain ⟨N, sc, l⟩ := x; obtain ⟨a, G⟩ := Hs; exact ⟨a, ⟨G.a1, G.pos, G.slot, G.len, G.mark, G.other⟩⟩
theorem lay9c (X : Xs ov) (n : Nat) {c k : Nat} {o : Option (Nat × Nat × List Int)} {j : JSt} (L : On9 h p s lv vs c) (hk : k ≤ roomM s) (low : LowS s) (R : Rdy s j k c o) (g : Jr h q p j) (hq : ¬ Mine p lv vs q) (hlaid : j.laid < 2 ^ 62)
    {x : AVal} {l : List Int} (sx : Sz h x 1 l.length (i64s l) md) (hl : l.length = k) (hi : ∀ x ∈ l, InI64 x) {scan : Nat} (hscan : scan < 2 ^ 64) (hlf : 0 ≤ s.left) (hc1 : c + 1 < 256) :
    Wp (kc ov (n + 4) N_retain_Journal_Lay [.ptr (some (q, 0)), .int .u64 scan, x] h) fun r h' => Ke (fun i => Mine p lv vs i ∨ i = q) h h' ∧ ∃ s' now, r = .int .i64 (if now = some true then 0 else 82) ∧ Sto h' p s' lv vs ∧ Inv s' (c + 1) ∧ LowS s' ∧ s'.writes ≤ 2 * (c + 1) ∧ roomM s' = roomM s ∧ s'.size = s.size ∧
      (match now with | some _ => Has s' k (some (j.next, scan, l)) | none => Has s' k o) := by
  have hsz := L.I.sz
  have hc := L.c
  have hwr := L.wr
  have hrm := L.room
  obtain ⟨h1, h2, h3, h4, h5⟩ := R.at
  have hn1 : j.n = k := R.1
  have hn2 : j.next ≤ c + 1 := R.2.1
  have hroom : ∀ s' : BSt, Inv s' (c + 1) → s'.size = s.size → roomM s' = roomM s := fun s' I' e => by
    have := I'.bl; have := I'.sz
    rw [hrm]; unfold roomM; rw [if_neg (by omega), e]
  refine (lay_spec X n L.w L.t g hq sx hscan (by omega) ⟨h2, h3⟩ (by omega) hlaid (by omega) (by omega) (by omega)).mono ?_
  rintro r h' ⟨rfl, t', g', k'⟩
  refine ⟨k', ?_⟩
  by_cases c2 : 2 ≤ s.left
  · obtain ⟨s', e, I', hLow, R', d', sz', wr', lf', bl', hb⟩ := lay_ok L.I R hl (by omega) hi hscan (by omega) L.d (.inr c2)
    rw [e] at t' ⊢
    exact ⟨s', some true, rfl, t', I', hLow low (by omega), by omega, hroom s' I' sz', sz', R'.has⟩
  · obtain ⟨s', e, I', hLow, hH, sz', wr'⟩ := lay_cut L.I low R hl (by omega) hi hscan hc1 L.d (by omega)
    rw [e] at t' ⊢
    rcases hH with hH | hH
    · exact ⟨s', some false, rfl, t', I', hLow, by omega, hroom s' I' sz', sz', hH⟩
    · exact ⟨s', none, rfl, t', I', hLow, by omega, hroom s' I' sz', sz', hH⟩
end Go.Proofs.Ytbcpmbggidemdaa.AI
