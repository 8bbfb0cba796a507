/- stream: what its functions come to. -/
import Derived.Test.YtfnmgclalcoplaaConcat
import Derived.Test.YtfnmgclalcoplaaTold
namespace Go.Proofs.Ytfnmgclalcoplaa.AI
open Go
set_option linter.unusedSimpArgs false
set_option linter.unusedVariables false
variable {ov : AOver} {h : AH} {v : AVal} {md : AMode} {p : Nat} {l : List UInt8} {e c : Nat}

/-- The stream at p holds l; its first error; how many frames were told. -/
def Str (h : AH) (p : Nat) (l : List UInt8) (e c : Nat) : Prop :=
  ∃ v, h.get p = some ⟨.row [v, .int .i64 e, .int .u64 c] T_stream_Stream false, .rw, []⟩ ∧ Ob h v l ∧ ∀ i, isBk v i → i ≠ p
theorem Str.ke {S : Nat → Prop} {h' : AH} (s : Str h p l e c) (k : Ke S h h') (hS : ∀ i, S i → h.n ≤ i) (w : Wf h) : Str h' p l e c := by
  obtain ⟨v, g, o, f⟩ := s
  exact ⟨v, k.gt g (fun hp => by have := hS p hp; have := w.lt _ _ g; omega), o.ke k (fun i hi hs => by have := hS i hs; have := Ow.bk_lt w o hi; omega), f⟩
/-- The bytes held lie elsewhere. -/
def NotHeld (h : AH) (p i : Nat) : Prop := ∀ v a b, h.row p = some [v, a, b] → ¬ isBk v i
theorem NotHeld.of {v a b : AVal} {i : Nat} (r : h.row p = some [v, a, b]) (hi : ¬ isBk v i) : NotHeld h p i := by
  intro v' a' b' r' hb
  rw [r] at r'
  simp only [Option.some.injEq, List.cons.injEq] at r'
  obtain ⟨rfl, _⟩ := r'
  exact hi hb
theorem Str.new_not (s : Str h p l e c) (w : Wf h) {i : Nat} (hi : h.n ≤ i) : NotHeld h p i := by
  obtain ⟨v, g, o, f⟩ := s
  exact NotHeld.of (row_rw g) fun hb => by have := Ow.bk_lt w o hb; omega
theorem Str.not_ke (s : Str h p l e c) {S : Nat → Prop} {h' : AH} (k : Ke S h h') (hp : ¬ S p) {i : Nat} (n : NotHeld h p i) : NotHeld h' p i := by
  obtain ⟨v, g, o, f⟩ := s
  exact NotHeld.of (row_rw (k.gt g hp)) (n _ _ _ (row_rw g))
theorem Str.keN {S : Nat → Prop} {h' : AH} (s : Str h p l e c) (k : Ke S h h') (hS : ∀ i, S i → i ≠ p ∧ NotHeld h p i) : Str h' p l e c := by
  obtain ⟨v, g, o, f⟩ := s
  exact ⟨v, k.gt g (fun hp => (hS p hp).1 rfl), o.ke k (fun i hi hs => (hS i hs).2 _ _ _ (row_rw g) hi), f⟩
theorem Str.lt (s : Str h p l e c) (w : Wf h) : p < h.n := by obtain ⟨v, g, _⟩ := s; exact w.lt _ _ g
theorem Str.kp {h' : AH} (s : Str h p l e c) (k : Kp h h') : Str h' p l e c := s.ke k (fun _ f => f.elim) k.w

theorem new_stream_spec (H : Plain ov) (n : Nat) (w : Wf h) : Wp (kc ov (n + 1) N_stream_New [] h) fun r h' => Kp h h' ∧ ∃ p, r = .ptr (some (p, 0)) ∧ h.n ≤ p ∧ Str h' p [] 0 0 := by
  rw [C_stream_New H]; unfold F_stream_New
  simp -dsimp (disch := omega) only [↓pre, sp, sp2, wp_some, Int.cast_ofNat_Int, Nat.reduceAdd, Nat.reduceMul, Nat.reduceSub, Nat.reduceLeDiff, Nat.reduceEqDiff, Nat.reducePow, Int.reduceToNat, Int.reducePow, Int.reduceAdd, Int.reduceSub, Int.reduceMul, Int.reduceLT, Int.reduceLE, Int.reduceEq, Int.reduceNeg]
  refine wp_box w rfl rfl fun q h1 hq k1 n1 g1 => ?_
  simp -dsimp (disch := omega) only [↓pre, sp, sp2, wp_some, Int.cast_ofNat_Int, Nat.reduceAdd, Nat.reduceMul, Nat.reduceSub, Nat.reduceLeDiff, Nat.reduceEqDiff, Nat.reducePow, Int.reduceToNat, Int.reducePow, Int.reduceAdd, Int.reduceSub, Int.reduceMul, Int.reduceLT, Int.reduceLE, Int.reduceEq, Int.reduceNeg]
  exact ⟨k1, q, rfl, by omega, _, g1, Ow.nil _ _ _ (by omega), fun i hi => hi.elim⟩
theorem left_spec (H : Plain ov) (n : Nat) (s : Str h p l e c) : kc ov (n + 1) N_stream_Stream_Left [.ptr (some (p, 0))] h = some (.int .i64 l.length, h) := by
  obtain ⟨v, g, o, f⟩ := s
  rw [C_stream_Stream_Left H]; unfold F_stream_Stream_Left
  simp -dsimp (disch := omega) only [↓pre, sp, sp2, wp_some, Int.cast_ofNat_Int, Nat.reduceAdd, Nat.reduceMul, Nat.reduceSub, Nat.reduceLeDiff, Nat.reduceEqDiff, Nat.reducePow, Int.reduceToNat, Int.reducePow, Int.reduceAdd, Int.reduceSub, Int.reduceMul, Int.reduceLT, Int.reduceLE, Int.reduceEq, Int.reduceNeg, row_rw g, o.bs.len]
theorem frames_count_spec (H : Plain ov) (HL : ov N_sync_atomic_LoadUint64 = some (xLoad .u64)) (n : Nat) (s : Str h p l e c) : kc ov (n + 3) N_stream_Stream_Frames [.ptr (some (p, 0))] h = some (.int .u64 c, h) := by
  obtain ⟨v, g, o, f⟩ := s
  have hx : kc ov (n + 1) N_sync_atomic_LoadUint64 [.ptr (some (p, 2))] h = some (.int .u64 c, h) := by
    unfold kc; simp only [kcall, HL]
    exact xLoad_eq (row_rw g) rfl
  have hy : kc ov (n + 2) N_sync_atomic_Uint64_Load [.ptr (some (p, 2))] h = some (.int .u64 c, h) := by
    rw [C_sync_atomic_Uint64_Load H]; unfold F_sync_atomic_Uint64_Load
    simp -dsimp (disch := omega) only [↓pre, sp, sp2, wp_some, Int.cast_ofNat_Int, Nat.reduceAdd, Nat.reduceMul, Nat.reduceSub, Nat.reduceLeDiff, Nat.reduceEqDiff, Nat.reducePow, Int.reduceToNat, Int.reducePow, Int.reduceAdd, Int.reduceSub, Int.reduceMul, Int.reduceLT, Int.reduceLE, Int.reduceEq, Int.reduceNeg, hx]
  rw [C_stream_Stream_Frames H]; unfold F_stream_Stream_Frames
  simp -dsimp (disch := omega) only [↓pre, sp, sp2, wp_some, Int.cast_ofNat_Int, Nat.reduceAdd, Nat.reduceMul, Nat.reduceSub, Nat.reduceLeDiff, Nat.reduceEqDiff, Nat.reducePow, Int.reduceToNat, Int.reducePow, Int.reduceAdd, Int.reduceSub, Int.reduceMul, Int.reduceLT, Int.reduceLE, Int.reduceEq, Int.reduceNeg, hy]
theorem add_spec (H : Plain ov) (HA : ov N_sync_atomic_AddUint64 = some (xAdd .u64)) (n : Nat) (w : Wf h) {cs : List AVal} {t : TypeId} {ob : Bool} {par : List Nat} {off : Nat} {x y : Int} (g : h.get p = some ⟨.row cs t ob, .rw, par⟩) (hx : cs[off]? = some (.int .u64 x)) :
    Wp (kc ov (n + 2) N_sync_atomic_Uint64_Add [.ptr (some (p, off)), .int .u64 y] h) fun r h1 => r = .int .u64 (IntKind.wrap .u64 (x + y)) ∧ Ke (· = p) h h1 ∧ h1.n = h.n ∧ h1.get p = some ⟨.row (splice cs off [.int .u64 (IntKind.wrap .u64 (x + y))]) t ob, .rw, []⟩ := by
  have hx : kc ov (n + 1) N_sync_atomic_AddUint64 [.ptr (some (p, off)), .int .u64 y] h = xAdd .u64 [.ptr (some (p, off)), .int .u64 y] h := by
    unfold kc; simp only [kcall, HA]
  rw [C_sync_atomic_Uint64_Add H]; unfold F_sync_atomic_Uint64_Add
  simp -dsimp (disch := omega) only [↓pre, sp, sp2, wp_some, Int.cast_ofNat_Int, Nat.reduceAdd, Nat.reduceMul, Nat.reduceSub, Nat.reduceLeDiff, Nat.reduceEqDiff, Nat.reducePow, Int.reduceToNat, Int.reducePow, Int.reduceAdd, Int.reduceSub, Int.reduceMul, Int.reduceLT, Int.reduceLE, Int.reduceEq, Int.reduceNeg, hx, Nat.add_zero]
  refine Wp.bind (xAdd_wp w g ‹_›) fun v1 h1 q => ?_
  simp -dsimp (disch := omega) only [↓pre, sp, sp2, wp_some, Int.cast_ofNat_Int, Nat.reduceAdd, Nat.reduceMul, Nat.reduceSub, Nat.reduceLeDiff, Nat.reduceEqDiff, Nat.reducePow, Int.reduceToNat, Int.reducePow, Int.reduceAdd, Int.reduceSub, Int.reduceMul, Int.reduceLT, Int.reduceLE, Int.reduceEq, Int.reduceNeg]
  exact q

/-- How many bytes are taken. -/
def takes (l b : List UInt8) (e : Nat) : Nat := if e = 0 then min b.length (260 - l.length) else 0
theorem feed_spec (H : Plain ov) (n : Nat) (w : Wf h) (s : Str h p l e c) {b : List UInt8} (sb : Bs h v b md) (hb : b.length ≤ 2 ^ 40) (hl : l.length ≤ 260) :
    Wp (kc ov (n + 3) N_stream_Stream_Feed [.ptr (some (p, 0)), v] h) fun r h' => r = .int .i64 (takes l b e) ∧ Str h' p (l ++ b.take (takes l b e)) e c ∧ Ke (· = p) h h' ∧ (e = 0 → ∀ i, i < h.n → NotHeld h' p i) ∧ ∀ i, i < h.n → NotHeld h p i → NotHeld h' p i := by
  obtain ⟨u, g, o, f⟩ := s
  rw [C_stream_Stream_Feed H]; unfold F_stream_Stream_Feed
  simp -dsimp (disch := omega) only [↓pre, sp, sp2, wp_some, Int.cast_ofNat_Int, Nat.reduceAdd, Nat.reduceMul, Nat.reduceSub, Nat.reduceLeDiff, Nat.reduceEqDiff, Nat.reducePow, Int.reduceToNat, Int.reducePow, Int.reduceAdd, Int.reduceSub, Int.reduceMul, Int.reduceLT, Int.reduceLE, Int.reduceEq, Int.reduceNeg, row_rw g]
  refine wp_ite (fun c1 => ?_) (fun c1 => ?_)
  · have : takes l b e = 0 := by unfold takes; rw [if_neg (by omega)]
    rw [this]
    simp -dsimp (disch := omega) only [↓pre, sp, sp2, wp_some, Int.cast_ofNat_Int, Nat.reduceAdd, Nat.reduceMul, Nat.reduceSub, Nat.reduceLeDiff, Nat.reduceEqDiff, Nat.reducePow, Int.reduceToNat, Int.reducePow, Int.reduceAdd, Int.reduceSub, Int.reduceMul, Int.reduceLT, Int.reduceLE, Int.reduceEq, Int.reduceNeg]
    exact ⟨⟨u, g, by simpa using o, f⟩, Ke.refl w, fun e0 => by omega, fun i _ hn => hn⟩
  · have ht : takes l b e = min b.length (260 - l.length) := by unfold takes; rw [if_pos (by omega)]
    have e1 : min (b.length : Int) (260 - l.length) = (takes l b e : Nat) := by omega
    obtain ⟨v', e2, s2, _⟩ := sb.cutR (q := .i64) (b := (takes l b e : Nat)) (by omega) (by omega)
    simp -dsimp (disch := omega) only [↓pre, sp, sp2, wp_some, Int.cast_ofNat_Int, Nat.reduceAdd, Nat.reduceMul, Nat.reduceSub, Nat.reduceLeDiff, Nat.reduceEqDiff, Nat.reducePow, Int.reduceToNat, Int.reducePow, Int.reduceAdd, Int.reduceSub, Int.reduceMul, Int.reduceLT, Int.reduceLE, Int.reduceEq, Int.reduceNeg, row_rw g, sb.len, o.bs.len, e1, e2]
    refine wp_buildSl (cs := [u, v']) w ⟨by decide, rfl, by decide⟩ ?_ ?_ fun q h1 hq k1 n1 g1 => ?_
    · simp [aFill, cells_of o.isCell, cells_of s2.isCell, manyT, splice]
    · simp only [ic, o.isCell, s2.isCell]
    have g' := k1.gt g
    have s2' : Bs h v' (b.take (takes l b e)) md := s2.to (by rw [bytesOf_take]; simp) (by rw [List.length_take]; simp; omega)
    have sq : Sz h1 (.slice (some (q, 0, 1)) 2 2) 1 [u, v'].length [u, v'] .rw := Ow.rd (e := T___uint8) (Ow.new g1 (by omega) 2 rfl (by simp only [ic, o.isCell, s2.isCell]))
    simp -dsimp (disch := omega) only [↓pre, sp, sp2, wp_some, Int.cast_ofNat_Int, Nat.reduceAdd, Nat.reduceMul, Nat.reduceSub, Nat.reduceLeDiff, Nat.reduceEqDiff, Nat.reducePow, Int.reduceToNat, Int.reducePow, Int.reduceAdd, Int.reduceSub, Int.reduceMul, Int.reduceLT, Int.reduceLE, Int.reduceEq, Int.reduceNeg, row_rw g']
    refine Wp.bind (concat_spec H (n) k1.w' (ls := [l, b.take (takes l b e)]) sq ⟨⟨_, (o.kp k1).rd⟩, ⟨_, s2'.kp k1⟩, trivial⟩ (by simp; omega) (by simp)) fun v3 h3 ⟨k3, o3, f3⟩ => ?_
    have g3 := k3.gt g'
    simp -dsimp (disch := omega) only [↓pre, sp, sp2, wp_some, Int.cast_ofNat_Int, Nat.reduceAdd, Nat.reduceMul, Nat.reduceSub, Nat.reduceLeDiff, Nat.reduceEqDiff, Nat.reducePow, Int.reduceToNat, Int.reducePow, Int.reduceAdd, Int.reduceSub, Int.reduceMul, Int.reduceLT, Int.reduceLE, Int.reduceEq, Int.reduceNeg, row_rw g3]
    refine wp_store k3.w' g3 (cells_of o3.isCell) rfl (by simp) (by simp only [ic, o3.isCell]) fun h4 k4 n4 g4 => ?_
    (try simp -dsimp (disch := omega) only [↓pre, sp, sp2, wp_some, Int.cast_ofNat_Int, Nat.reduceAdd, Nat.reduceMul, Nat.reduceSub, Nat.reduceLeDiff, Nat.reduceEqDiff, Nat.reducePow, Int.reduceToNat, Int.reducePow, Int.reduceAdd, Int.reduceSub, Int.reduceMul, Int.reduceLT, Int.reduceLE, Int.reduceEq, Int.reduceNeg])
    simp only [splice, List.take_zero, List.nil_append, List.length_cons, List.length_nil, List.drop_succ_cons, List.drop_zero, List.cons_append, Nat.zero_add] at g4
    have hp := k3.w'.lt _ _ g3
    have nh : ∀ i, i < h.n → NotHeld h4 p i := fun i hi => NotHeld.of (row_rw g4) fun hb => by have := f3 i hb; omega
    refine ⟨⟨v3, g4, (o3.ke k4 fun i hi hip => ?_).to (by simp) (by simp), fun i hi hip => ?_⟩, (Kp.ke (k1.trans k3)).trans k4, fun _ => nh, fun i hi _ => nh i hi⟩
    · have := f3 i hi; have := k1.w'.lt _ _ g'; omega
    · have := f3 i hi; have := k1.w'.lt _ _ g'; omega

/-- What is told next: the frame, whether, an error; what is held then. -/
def NextQ (h h' : AH) (p : Nat) (l : List UInt8) (e c : Nat) (r : AVal) : Prop := Ke (· = p) h h' ∧ (∀ i, i < h.n → NotHeld h p i → NotHeld h' p i) ∧ ∃ pv,
      if e ≠ 0 then r = .tuple [.agg [.int .u16 0, .int .u8 0, .slice none 0 0], .bool false, .int .i64 e] ∧ Str h' p l e c
      else if (openM l).2.2.2.1 = 0 then r = .tuple [.agg [.int .u16 0, .int .u8 0, .slice none 0 0], .bool false, .int .i64 (openM l).2.2.2.2] ∧ Str h' p l (openM l).2.2.2.2 c
      else r = .tuple [.agg [.int .u16 (openM l).1, .int .u8 (openM l).2.1, pv], .bool true, .int .i64 0] ∧ Bs h' pv (openM l).2.2.1 .rw ∧ Fresh h pv ∧ Str h' p (l.drop (openM l).2.2.2.1) 0 (c + 1)
theorem next_spec (H : Plain ov) (HA : ov N_sync_atomic_AddUint64 = some (xAdd .u64)) (n : Nat) (w : Wf h) (s : Str h p l e c) (hl : l.length ≤ 260) (hc : c < 2 ^ 62) :
    Wp (kc ov (n + 3) N_stream_Stream_Next [.ptr (some (p, 0))] h) fun r h' => NextQ h h' p l e c r := by
  obtain ⟨u, g, o, f⟩ := s
  rw [C_stream_Stream_Next H]; unfold F_stream_Stream_Next
  refine wp_box w rfl rfl fun q h1 hq k1 n1 g1 => ?_
  have gp := k1.gt g
  have hpl := w.lt _ _ g
  have o1 := o.kp k1
  (try simp -dsimp (disch := omega) only [↓pre, sp, sp2, wp_some, Int.cast_ofNat_Int, Nat.reduceAdd, Nat.reduceMul, Nat.reduceSub, Nat.reduceLeDiff, Nat.reduceEqDiff, Nat.reducePow, Int.reduceToNat, Int.reducePow, Int.reduceAdd, Int.reduceSub, Int.reduceMul, Int.reduceLT, Int.reduceLE, Int.reduceEq, Int.reduceNeg, row_rw gp])
  refine wp_ite (fun c1 => ?_) (fun c1 => ?_)
  · (try simp -dsimp (disch := omega) only [↓pre, sp, sp2, wp_some, Int.cast_ofNat_Int, Nat.reduceAdd, Nat.reduceMul, Nat.reduceSub, Nat.reduceLeDiff, Nat.reduceEqDiff, Nat.reducePow, Int.reduceToNat, Int.reducePow, Int.reduceAdd, Int.reduceSub, Int.reduceMul, Int.reduceLT, Int.reduceLE, Int.reduceEq, Int.reduceNeg, row_rw gp])
    refine wp_store k1.w' g1 rfl rfl (by decide) rfl fun h2 k2 n2 g2 => ?_
    have gp2 := k2.gt gp (by omega)
    simp -dsimp (disch := omega) only [↓pre, sp, sp2, wp_some, Int.cast_ofNat_Int, Nat.reduceAdd, Nat.reduceMul, Nat.reduceSub, Nat.reduceLeDiff, Nat.reduceEqDiff, Nat.reducePow, Int.reduceToNat, Int.reducePow, Int.reduceAdd, Int.reduceSub, Int.reduceMul, Int.reduceLT, Int.reduceLE, Int.reduceEq, Int.reduceNeg, row_rw gp2, row_rw g2, splice_def]
    refine ⟨(Ke.new_p k1 k2 fun i hi => by omega).ke, fun i _ hn => NotHeld.of (row_rw gp2) (hn _ _ _ (row_rw g)), .slice none 0 0, ?_⟩
    rw [if_pos (by omega)]
    exact ⟨rfl, u, gp2, o1.ke k2 (fun i hi hh => by have := Ow.bk_lt w o hi; omega), f⟩
  have he : e = 0 := by omega
  subst he
  (try simp -dsimp (disch := omega) only [↓pre, sp, sp2, wp_some, Int.cast_ofNat_Int, Nat.reduceAdd, Nat.reduceMul, Nat.reduceSub, Nat.reduceLeDiff, Nat.reduceEqDiff, Nat.reducePow, Int.reduceToNat, Int.reducePow, Int.reduceAdd, Int.reduceSub, Int.reduceMul, Int.reduceLT, Int.reduceLE, Int.reduceEq, Int.reduceNeg, row_rw gp])
  refine Wp.bind (open_specF H n k1.w' o1.rd (by omega)) fun v2 h2 ⟨k2, pd, e2, s2, f2⟩ => ?_
  subst e2
  have hM := openM_n l
  simp -dsimp (disch := omega) only [↓pre, sp, sp2, wp_some, Int.cast_ofNat_Int, Nat.reduceAdd, Nat.reduceMul, Nat.reduceSub, Nat.reduceLeDiff, Nat.reduceEqDiff, Nat.reducePow, Int.reduceToNat, Int.reducePow, Int.reduceAdd, Int.reduceSub, Int.reduceMul, Int.reduceLT, Int.reduceLE, Int.reduceEq, Int.reduceNeg]
  refine wp_box k2.w' rfl rfl fun q2 h3 hq2 k3 n3 g3 => ?_
  have hqq : q < h2.n := by have := k2.n; omega
  refine wp_store k3.w' g3 rfl rfl (by decide) (by simp only [ic, s2.isCell]) fun h4 k4 n4 g4 => ?_
  have K4 : Kp h2 h4 := Ke.new_p k3 k4 fun i hi => by omega
  have K14 : Kp h1 h4 := k2.trans K4
  have gp4 := K14.gt gp
  have gq4 := K14.gt g1
  simp -dsimp (disch := omega) only [↓pre, sp, sp2, wp_some, Int.cast_ofNat_Int, Nat.reduceAdd, Nat.reduceMul, Nat.reduceSub, Nat.reduceLeDiff, Nat.reduceEqDiff, Nat.reducePow, Int.reduceToNat, Int.reducePow, Int.reduceAdd, Int.reduceSub, Int.reduceMul, Int.reduceLT, Int.reduceLE, Int.reduceEq, Int.reduceNeg]
  refine wp_store K4.w' gp4 rfl rfl (by simp) rfl fun h5 k5 n5 g5 => ?_
  simp only [splice_def] at g5
  have gq5 := k5.gt gq4 (by omega)
  have o5 : Ob h5 u l := (o1.kp K14).ke k5 fun i hi hip => f i hi hip
  have s5 : Bs h5 pd (openM l).2.2.1 .rw := (s2.kp K4).keF k5 fun i hi hip => by have := f2 i hi; omega
  have g4' := k5.gt g4 (by have := k2.n; omega)
  simp -dsimp (disch := omega) only [↓pre, sp, sp2, wp_some, Int.cast_ofNat_Int, Nat.reduceAdd, Nat.reduceMul, Nat.reduceSub, Nat.reduceLeDiff, Nat.reduceEqDiff, Nat.reducePow, Int.reduceToNat, Int.reducePow, Int.reduceAdd, Int.reduceSub, Int.reduceMul, Int.reduceLT, Int.reduceLE, Int.reduceEq, Int.reduceNeg]
  refine wp_kT (.bool (decide ((openM l).2.2.2.1 = 0))) (fun j hj => ?_) ?_
  · by_cases c2 : (((openM l).2.2.2.2 : Nat) : Int) = 0
    · simp -dsimp (disch := omega) only [↓pre, sp, sp2, wp_some, Int.cast_ofNat_Int, Nat.reduceAdd, Nat.reduceMul, Nat.reduceSub, Nat.reduceLeDiff, Nat.reduceEqDiff, Nat.reducePow, Int.reduceToNat, Int.reducePow, Int.reduceAdd, Int.reduceSub, Int.reduceMul, Int.reduceLT, Int.reduceLE, Int.reduceEq, Int.reduceNeg, c2]
      have e3 : (((openM l).2.2.2.1 : Nat) : Int) = 0 ↔ (openM l).2.2.2.1 = 0 := by omega
      simpa only [e3] using hj
    · simp -dsimp (disch := omega) only [↓pre, sp, sp2, wp_some, Int.cast_ofNat_Int, Nat.reduceAdd, Nat.reduceMul, Nat.reduceSub, Nat.reduceLeDiff, Nat.reduceEqDiff, Nat.reducePow, Int.reduceToNat, Int.reducePow, Int.reduceAdd, Int.reduceSub, Int.reduceMul, Int.reduceLT, Int.reduceLE, Int.reduceEq, Int.reduceNeg, c2]
      have e3 : (openM l).2.2.2.1 = 0 := by
        rcases Nat.eq_zero_or_pos (openM l).2.2.2.1 with e | e
        · exact e
        · have := (hM.2.2.1 (by omega)).1; omega
      simpa only [e3, decide_true] using hj
  simp -dsimp (disch := omega) only [↓pre, sp, sp2, wp_some, Int.cast_ofNat_Int, Nat.reduceAdd, Nat.reduceMul, Nat.reduceSub, Nat.reduceLeDiff, Nat.reduceEqDiff, Nat.reducePow, Int.reduceToNat, Int.reducePow, Int.reduceAdd, Int.reduceSub, Int.reduceMul, Int.reduceLT, Int.reduceLE, Int.reduceEq, Int.reduceNeg]
  refine wp_ite (fun c2 => ?_) (fun c2 => ?_)
  · (try simp -dsimp (disch := omega) only [↓pre, sp, sp2, wp_some, Int.cast_ofNat_Int, Nat.reduceAdd, Nat.reduceMul, Nat.reduceSub, Nat.reduceLeDiff, Nat.reduceEqDiff, Nat.reducePow, Int.reduceToNat, Int.reducePow, Int.reduceAdd, Int.reduceSub, Int.reduceMul, Int.reduceLT, Int.reduceLE, Int.reduceEq, Int.reduceNeg])
    refine wp_store k5.w' gq5 rfl rfl (by decide) rfl fun h6 k6 n6 g6 => ?_
    have gp6 := k6.gt g5 (by omega)
    simp -dsimp (disch := omega) only [↓pre, sp, sp2, wp_some, Int.cast_ofNat_Int, Nat.reduceAdd, Nat.reduceMul, Nat.reduceSub, Nat.reduceLeDiff, Nat.reduceEqDiff, Nat.reducePow, Int.reduceToNat, Int.reducePow, Int.reduceAdd, Int.reduceSub, Int.reduceMul, Int.reduceLT, Int.reduceLE, Int.reduceEq, Int.reduceNeg, row_rw g6, splice_def]
    refine ⟨((Kp.ke (k1.trans K14)).trans k5).new k6 (fun i hi => .inr (by omega)), fun i _ hn => NotHeld.of (row_rw gp6) (hn _ _ _ (row_rw g)), .slice none 0 0, ?_⟩
    rw [if_neg (by omega), if_pos c2]
    exact ⟨rfl, u, gp6, o5.ke k6 (fun i hi hh => by have := Ow.bk_lt w o hi; omega), f⟩
  obtain ⟨v7, e7, s7, _⟩ := o5.rd.cutL (p := .i64) (a := (((openM l).2.2.2.1 : Nat) : Int)) (by omega) (by omega)
  have s7' : Bs h5 v7 (l.drop (openM l).2.2.2.1) .rw := s7.to (by rw [bytesOf_drop]; simp) (by rw [List.length_drop]; simp)
  simp -dsimp (disch := omega) only [↓pre, sp, sp2, wp_some, Int.cast_ofNat_Int, Nat.reduceAdd, Nat.reduceMul, Nat.reduceSub, Nat.reduceLeDiff, Nat.reduceEqDiff, Nat.reducePow, Int.reduceToNat, Int.reducePow, Int.reduceAdd, Int.reduceSub, Int.reduceMul, Int.reduceLT, Int.reduceLE, Int.reduceEq, Int.reduceNeg, row_rw g5, e7]
  refine Wp.bind (clone_spec H (n + 1) k5.w' s7' (by rw [List.length_drop]; omega)) fun v8 h8 ⟨k8, o8, f8⟩ => ?_
  have g8 := k8.gt g5
  simp -dsimp (disch := omega) only [↓pre, sp, sp2, wp_some, Int.cast_ofNat_Int, Nat.reduceAdd, Nat.reduceMul, Nat.reduceSub, Nat.reduceLeDiff, Nat.reduceEqDiff, Nat.reducePow, Int.reduceToNat, Int.reducePow, Int.reduceAdd, Int.reduceSub, Int.reduceMul, Int.reduceLT, Int.reduceLE, Int.reduceEq, Int.reduceNeg]
  refine wp_store k8.w' g8 (cells_of o8.isCell) rfl (by simp) (by simp only [ic, o8.isCell]) fun h9 k9 n9 g9 => ?_
  simp only [splice_def] at g9
  simp -dsimp (disch := omega) only [↓pre, sp, sp2, wp_some, Int.cast_ofNat_Int, Nat.reduceAdd, Nat.reduceMul, Nat.reduceSub, Nat.reduceLeDiff, Nat.reduceEqDiff, Nat.reducePow, Int.reduceToNat, Int.reducePow, Int.reduceAdd, Int.reduceSub, Int.reduceMul, Int.reduceLT, Int.reduceLE, Int.reduceEq, Int.reduceNeg]
  refine Wp.bind (add_spec H HA n k9.w' (off := 2) g9 rfl) fun v10 h10 ⟨e10, k10, n10, g10⟩ => ?_
  subst e10
  have hw : IntKind.wrap .u64 ((c : Int) + 1) = ((c + 1 : Nat) : Int) := by rw [num.2.2.2.2.2.2.2.1 _ (by omega) (by omega)]; omega
  simp only [splice_def, hw] at g10
  have K59 : Ke (· = p) h5 h10 := ((Kp.ke k8).trans k9).trans k10
  have gq10 := K59.gt gq5 (by omega)
  have g410 := K59.gt g4' (by have := k2.n; omega)
  simp -dsimp (disch := omega) only [↓pre, sp, sp2, wp_some, Int.cast_ofNat_Int, Nat.reduceAdd, Nat.reduceMul, Nat.reduceSub, Nat.reduceLeDiff, Nat.reduceEqDiff, Nat.reducePow, Int.reduceToNat, Int.reducePow, Int.reduceAdd, Int.reduceSub, Int.reduceMul, Int.reduceLT, Int.reduceLE, Int.reduceEq, Int.reduceNeg, row_rw g410, splice_def]
  refine wp_store k10.w' gq10 rfl rfl (by decide) (by simp only [ic, s2.isCell]) fun h11 k11 n11 g11 => ?_
  have gp11 := k11.gt g10 (by omega)
  simp -dsimp (disch := omega) only [↓pre, sp, sp2, wp_some, Int.cast_ofNat_Int, Nat.reduceAdd, Nat.reduceMul, Nat.reduceSub, Nat.reduceLeDiff, Nat.reduceEqDiff, Nat.reducePow, Int.reduceToNat, Int.reducePow, Int.reduceAdd, Int.reduceSub, Int.reduceMul, Int.reduceLT, Int.reduceLE, Int.reduceEq, Int.reduceNeg, row_rw g11, splice_def]
  have hh8 := k8.n
  have o11 : Ob h11 v8 (l.drop (openM l).2.2.2.1) := ((o8.ke k9 fun i hi hip => by have := f8 i hi; have := K14.n; omega).ke k10 fun i hi hip => by have := f8 i hi; have := K14.n; omega).ke k11 fun i hi hip => by have := f8 i hi; have := K14.n; omega
  refine ⟨(((Kp.ke (k1.trans K14)).trans k5).trans K59).new k11 (fun i hi => .inr (by omega)), fun i hi _ => NotHeld.of (row_rw gp11) (fun hb => by have := f8 i hb; have := K14.n; omega), pd, ?_⟩
  rw [if_neg (by omega), if_neg c2]
  rw [(hM.2.2.1 c2).1] at gp11
  refine ⟨rfl, ?_, fun i hi => by have := f2 i hi; omega, v8, gp11, o11, fun i hi hip => by have := f8 i hi; have := K14.n; omega⟩
  exact ((s5.keF K59 fun i hi hip => by have := f2 i hi; omega).keF k11 fun i hi hip => by have := f2 i hi; omega)
/-- The same, at one. -/
def nextM (l : List UInt8) (e : Nat) : Nat × Nat × List UInt8 × Nat × Nat := if e = 0 then openM l else (0, 0, [], 0, e)
theorem NextQ.one {h' : AH} {r : AVal} (q : NextQ h h' p l e c r) : Ke (· = p) h h' ∧ (∀ i, i < h.n → NotHeld h p i → NotHeld h' p i) ∧ ∃ pv c',
    r = .tuple [.agg [.int .u16 (nextM l e).1, .int .u8 (nextM l e).2.1, pv], .bool (decide (0 < (nextM l e).2.2.2.1)), .int .i64 (nextM l e).2.2.2.2] ∧ Bs h' pv (nextM l e).2.2.1 .rw ∧ Fresh h pv ∧ c' ≤ c + 1 ∧ Str h' p (l.drop (nextM l e).2.2.2.1) (nextM l e).2.2.2.2 c' := by
  obtain ⟨k, hn, pv, q⟩ := q
  refine ⟨k, hn, ?_⟩
  have hM := openM_n l
  by_cases c1 : e = 0
  · subst c1
    rw [if_neg (by omega)] at q
    have en : nextM l 0 = openM l := by unfold nextM; rw [if_pos rfl]
    rw [en]
    by_cases c2 : (openM l).2.2.2.1 = 0
    · rw [if_pos c2] at q
      obtain ⟨rfl, s⟩ := q
      obtain ⟨e1, e2, e3⟩ := hM.2.2.2.2 c2
      refine ⟨.slice none 0 0, c, ?_, ?_, fun i hi => hi.elim, by omega, by rw [c2]; simpa using s⟩
      · rw [e1, e2, c2]; rfl
      · rw [e3]; exact Sz.nil _ _ (by omega) _
    · rw [if_neg c2] at q
      obtain ⟨rfl, b, f, s⟩ := q
      refine ⟨pv, c + 1, ?_, b, f, by omega, by rw [(hM.2.2.1 c2).1]; exact s⟩
      rw [(hM.2.2.1 c2).1, decide_eq_true (by omega : 0 < (openM l).2.2.2.1)]; rfl
  · rw [if_pos c1] at q
    obtain ⟨rfl, s⟩ := q
    have en : nextM l e = (0, 0, [], 0, e) := by unfold nextM; rw [if_neg c1]
    rw [en]
    exact ⟨.slice none 0 0, c, rfl, Sz.nil _ _ (by omega) _, fun i hi => hi.elim, by omega, by simpa using s⟩
end Go.Proofs.Ytfnmgclalcoplaa.AI
