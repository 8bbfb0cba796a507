/- Chapter 6: frames out of a stream that comes in pieces. -/
import Derived.Test.YtfnmgclalcoplaaStr
import Derived.Test.YtfnmgclalcoplaaFrame
namespace Go.Proofs.Ytfnmgclalcoplaa.AI
open Go
set_option linter.unusedSimpArgs false
set_option linter.unusedVariables false
variable {ov : AOver} {h : AH} {v out : AVal} {md : AMode} {p : Nat} {l : List UInt8} {e c : Nat} {fs : List Frm}

def knownAns : List AVal → AH → Ans := fun args h => match args with
  | [] => some (.bool true, h)
  | _ => none
structure Ov6 (ov : AOver) : Prop where
  p : Plain ov
  k : ov N_runglaw6_known = some knownAns
  a : ov N_sync_atomic_AddUint64 = some (xAdd .u64)
  l : ov N_sync_atomic_LoadUint64 = some (xLoad .u64)
theorem known_spec (H : Ov6 ov) (n : Nat) : kc ov (n + 1) N_runglaw6_known [] h = some (.bool true, h) := by
  unfold kc; simp only [kcall, H.k]; rfl

/-- Frames' cells. -/
def FrA (h : AH) (md : AMode) (R : AVal → Prop) (cs : List AVal) (fs : List Frm) : Prop := cs.length = fs.length * 3 ∧
  ∀ (i : Nat) f, fs[i]? = some f → ∃ v, (cs.drop (i * 3)).take 3 = [.int .u16 f.1, .int .u8 f.2.1, v] ∧ Bs h v f.2.2 md ∧ R v
theorem FrA.mono {h' : AH} {md' : AMode} {R R' : AVal → Prop} {cs : List AVal} (a : FrA h md R cs fs) (m : ∀ v x, x ∈ fs → Bs h v x.2.2 md → R v → Bs h' v x.2.2 md' ∧ R' v) : FrA h' md' R' cs fs :=
  ⟨a.1, fun i f hf => by
    obtain ⟨v, e1, b, r⟩ := a.2 i f hf
    obtain ⟨b', r'⟩ := m v f (List.mem_of_getElem? hf) b r
    exact ⟨v, e1, b', r'⟩⟩
theorem FrA.add {R : AVal → Prop} {cs : List AVal} {f : Frm} (a : FrA h md R cs fs) (b : Bs h v f.2.2 md) (r : R v) : FrA h md R (cs ++ [.int .u16 f.1, .int .u8 f.2.1, v]) (fs ++ [f]) := by
  refine ⟨by simp [a.1]; omega, fun i f' hf => ?_⟩
  have hl := a.1
  by_cases hi : i < fs.length
  · rw [List.getElem?_append_left hi] at hf
    obtain ⟨v', e1, b', r'⟩ := a.2 i f' hf
    refine ⟨v', ?_, b', r'⟩
    rw [List.drop_append_of_le_length (by omega), List.take_append_of_le_length (by rw [List.length_drop]; omega)]
    exact e1
  · have hi' : i = fs.length := by
      have := lt_of_at' hf
      simp at this; omega
    subst hi'
    simp only [List.getElem?_append_right (Nat.le_refl _), Nat.sub_self, List.getElem?_cons_zero, Option.some.injEq] at hf
    subst hf
    refine ⟨v, ?_, b, r⟩
    rw [← hl, List.drop_left]; rfl
where
  lt_of_at' {α : Type} {cs : List α} {off : Nat} {x : α} (hx : cs[off]? = some x) : off < cs.length := by
    rcases Nat.lt_or_ge off cs.length with h | h
    · exact h
    · rw [List.getElem?_eq_none h] at hx; cases hx
/-- The frames told. -/
def OutP (h : AH) (p : Nat) (out : AVal) (fs : List Frm) : Prop := ∃ cs, Ow h out T_api_Frame 3 fs.length cs ∧ FrA h .rw (fun v => ∀ i, isBk v i → i ≠ p ∧ ¬ isBk out i) cs fs ∧ ∀ x ∈ fs, 0 < x.2.2.length
theorem Ow.ne_elem {e1 e2 : TypeId} {sz n : Nat} {c : List AVal} (o : Ow h v e1 sz n c) (hne : e1 ≠ e2) {i : Nat} {cs : List AVal} {ob : Bool} {m : AMode} {par : List Nat} (g : h.get i = some ⟨.row cs e2 ob, m, par⟩) : ¬ isBk v i := by
  intro hi
  obtain ⟨_, _, _, ho⟩ := o
  rcases ho with ⟨rfl, _⟩ | ⟨j, off, cs', opn, par', rfl, hg, _⟩
  · exact hi
  · simp only [isBk] at hi
    subst hi
    rw [hg] at g
    simp only [Option.some.injEq, ABlk.mk.injEq, AObj.row.injEq] at g
    exact hne g.1.2.1
theorem Ow.ne_ow {e1 e2 : TypeId} {sz n sz' n' : Nat} {c c' : List AVal} {u : AVal} (o : Ow h v e1 sz n c) (o2 : Ow h u e2 sz' n' c') (hne : e1 ≠ e2) {i : Nat} (hi : isBk v i) : ¬ isBk u i := by
  intro hu
  obtain ⟨_, _, _, ho⟩ := o2
  rcases ho with ⟨rfl, _⟩ | ⟨j, off, cs', opn, par', rfl, hg, _⟩
  · exact hu
  · simp only [isBk] at hu
    subst hu
    exact o.ne_elem hne hg hi
theorem OutP.keP {h' : AH} (o : OutP h p out fs) (s : Str h p l e c) (k : Ke (· = p) h h') : OutP h' p out fs := by
  obtain ⟨cs, o, a, hx⟩ := o
  obtain ⟨v, g, _, _⟩ := s
  exact ⟨cs, o.ke k fun i hi hp => (o.ne_elem (e2 := T_stream_Stream) (by decide) g) (by subst hp; exact hi), a.mono fun v x _ b r => ⟨b.keF k fun i hi hp => (r i hi).1 hp, r⟩, hx⟩
theorem OutP.kp {h' : AH} (o : OutP h p out fs) (k : Kp h h') : OutP h' p out fs := by
  obtain ⟨cs, o, a, hx⟩ := o
  exact ⟨cs, o.kp k, a.mono fun v x _ b r => ⟨b.kp k, r⟩, hx⟩
theorem Str.keO {h' : AH} (s : Str h p l e c) (o : OutP h p out fs) (k : Ke (isBk out) h h') : Str h' p l e c := by
  obtain ⟨cs, o, _⟩ := o
  refine s.keN k fun i hi => ?_
  obtain ⟨v, g, o2, _⟩ := s
  refine ⟨fun hp => (o.ne_elem (e2 := T_stream_Stream) (by decide) g) (by subst hp; exact hi), fun v' a b hr hb => ?_⟩
  rw [row_rw g] at hr
  simp only [Option.some.injEq, List.cons.injEq] at hr
  obtain ⟨rfl, _⟩ := hr
  exact o.ne_ow o2 (by decide) hi hb
/-- One frame more. -/
theorem wp_addFrm {Q : AVal → AH → Prop} {K : AVal → AH → Ans} (w : Wf h) (o : OutP h p out fs) {f : Frm} (b : Bs h v f.2.2 .rw) (hf : 0 < f.2.2.length) (r : ∀ i, isBk v i → i ≠ p ∧ ¬ isBk out i) (hp : p < h.n) (hl : fs.length ≤ 2 ^ 40)
    (k : ∀ out' h', OutP h' p out' (fs ++ [f]) → (∀ l e c, Str h p l e c → Str h' p l e c) → (∀ h0, Kp h0 h → (∀ i, isBk out i → h0.n ≤ i) → Kp h0 h' ∧ ∀ i, isBk out' i → h0.n ≤ i) → Wp (K out' h') Q) :
    Wp (km (mBuildSl T_api_Frame 3 [(.int .u16 0), (.int .u8 0), (.slice none 0 0)] 1 [(0, .agg [.int .u16 f.1, .int .u8 f.2.1, v])]) h fun v101 h15 => ke (rAppend T_api_Frame 3 32 out v101 h15) K) Q := by
  refine wp_buildSl (cs := [.int .u16 f.1, .int .u8 f.2.1, v]) w ⟨by decide, rfl, by decide⟩ (by rfl) (by simp only [ic, b.isCell]) fun q h1 hq k1 n1 g1 => ?_
  have o1 := o.kp k1
  obtain ⟨cs, oo, a, hx⟩ := o1
  have sq : Sz h1 (.slice (some (q, 0, 3)) 1 1) 3 1 [.int .u16 f.1, .int .u8 f.2.1, v] .rw := Ow.rd (e := T_api_Frame) (Ow.new g1 (by omega) 1 rfl (by simp only [ic, b.isCell]))
  refine wp_append k1.w' oo sq (by simp only [ic, b.isCell]) (by omega) (by omega) fun out' h2 o2 k2 f2 => ?_
  refine k out' h2 ⟨_, o2.to rfl (by simp), ?_, ?_⟩ (fun l e c s => (s.kp k1).keO (o.kp k1) k2) fun h0 k0 f0 => ?_
  · have hlt : ∀ u (x : Frm), 0 < x.2.2.length → Bs h u x.2.2 .rw → (∀ i, isBk u i → i ≠ p ∧ ¬ isBk out i) → Bs h2 u x.2.2 .rw ∧ ∀ i, isBk u i → i ≠ p ∧ ¬ isBk out' i := by
      intro u x hx0 bu ru
      refine ⟨(bu.kp k1).keF k2 fun i hi => (ru i hi).2, fun i hi => ⟨(ru i hi).1, fun hi2 => ?_⟩⟩
      have hlt := bu.bk_lt w hx0 hi
      rcases f2 i hi2 with f | f
      · exact (ru i hi).2 f
      · omega
    obtain ⟨b', r'⟩ := hlt v f hf b r
    refine (FrA.mono (md' := .rw) (R' := fun v => ∀ i, isBk v i → i ≠ p ∧ ¬ isBk out' i) a fun u x hxm bu ru => ?_).add b' r'
    refine ⟨bu.keF k2 fun i hi => (ru i hi).2, fun i hi => ⟨(ru i hi).1, fun hi2 => ?_⟩⟩
    -- the block was there ahead of the new ones
    rcases f2 i hi2 with f | f
    · exact (ru i hi).2 f
    · have := bu.bk_lt k1.w' (hx x hxm) hi; omega
  · intro x hm
    rcases List.mem_append.1 hm with hm | hm
    · exact hx x hm
    · simp only [List.mem_singleton] at hm; subst hm; exact hf
  · refine ⟨Ke.new_p (k0.trans k1) k2 f0, fun i hi => ?_⟩
    rcases f2 i hi with f | f
    · exact f0 i f
    · have := k0.n; omega
theorem told_len (l : List UInt8) : (told l).1.length ≤ l.length := by
  suffices ∀ k l, (toldN k l).1.length ≤ l.length from this _ l
  intro k
  induction k with
  | zero => intro l; simp [toldN]
  | succ k ih =>
    intro l
    unfold toldN
    split
    · simp
    · split
      · simp
      · rename_i h1 h2
        have := ih (l.drop (openM l).2.2.2.1)
        have := openM_n l
        simp only [List.length_cons, List.length_drop] at *
        omega

/-- What the loops hold: so many frames are told, l is held, rest comes. -/
structure FI (h0 h : AH) (p : Nat) (out : AVal) (b l rest : List UInt8) (fs : List Frm) : Prop where
  k : Kp h0 h
  hp : h0.n ≤ p
  s : Str h p l 0 fs.length
  o : OutP h p out fs
  ob : ∀ i, isBk out i → h0.n ≤ i
  t : told b = (fs ++ (told (l ++ rest)).1, (told (l ++ rest)).2)
  hl : l.length ≤ 260
theorem FI.len {h0 : AH} {b rest : List UInt8} (f : FI h0 h p out b l rest fs) : fs.length ≤ b.length := by
  have := told_len b
  rw [f.t] at this
  simp at this; omega
/-- What they leave. -/
def FJ (h0 h : AH) (p : Nat) (b rest : List UInt8) (x : List AVal) : Prop := ∃ out l fs bad, x = [out, .int .i64 (bad : Nat)] ∧ Kp h0 h ∧ h0.n ≤ p ∧ Str h p l bad fs.length ∧ OutP h p out fs ∧ (∀ i, isBk out i → h0.n ≤ i) ∧ l.length ≤ 260 ∧
  ((bad = 0 ∧ waits l ∧ told b = (fs ++ (told (l ++ rest)).1, (told (l ++ rest)).2)) ∨ (bad ≠ 0 ∧ told b = (fs, bad)))
/-- The inner loop: all that can be told. -/
theorem frames_inner (H : Ov6 ov) (n : Nat) {h0 : AH} {b rest : List UInt8} {Q : AVal → AH → Prop} {j : List AVal → AH → Ans} (hb : b.length ≤ 2 ^ 20) (f : FI h0 h p out b l rest fs)
    (hj : ∀ x h1, FJ h0 h1 p b rest x → Wp (j x h1) Q) : Wp (kLoop (L_runglaw6_frames_0 (kc ov (n + 3)) (kd ov (n + 3)) (.ptr (some (p, 0))) j) rounds [out, .int .i64 0] h) Q := by
  refine wp_loop (fun m x h1 => ∃ out l fs, x = [out, .int .i64 0] ∧ l.length = m ∧ FI h0 h1 p out b l rest fs) l.length (by have := f.hl; omega) ⟨out, l, fs, rfl, rfl, f⟩ ?_
  rintro m _ h1 j2 ⟨out, l, fs, rfl, rfl, f⟩ hj2
  unfold L_runglaw6_frames_0
  have hfl := f.len
  simp -dsimp (disch := omega) only [↓pre, sp, sp2, wp_some, Int.cast_ofNat_Int, Nat.reduceAdd, Nat.reduceMul, Nat.reduceSub, Nat.reduceLeDiff, Nat.reduceEqDiff, Nat.reducePow, Int.reduceToNat, Int.reducePow, Int.reduceAdd, Int.reduceSub, Int.reduceMul, Int.reduceLT, Int.reduceLE, Int.reduceEq, Int.reduceNeg]
  refine Wp.bind (next_spec H.p H.a n f.k.w' f.s f.hl (by omega)) fun v2 h2 ⟨k2, _, pd, q2⟩ => ?_
  rw [if_neg (by omega)] at q2
  have K2 : Kp h0 h2 := Ke.new_p f.k k2 fun i hi => by have := f.hp; omega
  have hpn := f.s.lt f.k.w'
  have o2 := f.o.keP f.s k2
  have hM := openM_n l
  have key : ∀ {f3 : Frm} {pd : AVal} {b3 : Bool} {e3 : Nat} {h5 : AH} , True := trivial
  split at q2
  · rename_i c2
    obtain ⟨rfl, s2⟩ := q2
    simp -dsimp (disch := omega) only [↓pre, sp, sp2, wp_some, Int.cast_ofNat_Int, Nat.reduceAdd, Nat.reduceMul, Nat.reduceSub, Nat.reduceLeDiff, Nat.reduceEqDiff, Nat.reducePow, Int.reduceToNat, Int.reducePow, Int.reduceAdd, Int.reduceSub, Int.reduceMul, Int.reduceLT, Int.reduceLE, Int.reduceEq, Int.reduceNeg]
    refine wp_box K2.w' rfl rfl fun q h3 hq k3 n3 g3 => ?_
    refine wp_store k3.w' g3 rfl rfl (by decide) rfl fun h4 k4 n4 g4 => ?_
    have K4 : Kp h2 h4 := Ke.new_p k3 k4 fun i hi => by omega
    simp -dsimp (disch := omega) only [↓pre, sp, sp2, wp_some, Int.cast_ofNat_Int, Nat.reduceAdd, Nat.reduceMul, Nat.reduceSub, Nat.reduceLeDiff, Nat.reduceEqDiff, Nat.reducePow, Int.reduceToNat, Int.reducePow, Int.reduceAdd, Int.reduceSub, Int.reduceMul, Int.reduceLT, Int.reduceLE, Int.reduceEq, Int.reduceNeg]
    refine wp_ite (fun c3 => ?_) (fun c3 => ?_)
    · have c3' : (openM l).2.2.2.2 ≠ 0 := by omega
      (try simp -dsimp (disch := omega) only [↓pre, sp, sp2, wp_some, Int.cast_ofNat_Int, Nat.reduceAdd, Nat.reduceMul, Nat.reduceSub, Nat.reduceLeDiff, Nat.reduceEqDiff, Nat.reducePow, Int.reduceToNat, Int.reducePow, Int.reduceAdd, Int.reduceSub, Int.reduceMul, Int.reduceLT, Int.reduceLE, Int.reduceEq, Int.reduceNeg])
      refine hj _ _ ⟨out, l, fs, _, rfl, K2.trans K4, f.hp, s2.kp K4, o2.kp K4, f.ob, f.hl, .inr ⟨c3', ?_⟩⟩
      rw [f.t, told_err' c3']; simp
    · have c3' : (openM l).2.2.2.2 = 0 := by omega
      (try simp -dsimp (disch := omega) only [↓pre, sp, sp2, wp_some, Int.cast_ofNat_Int, Nat.reduceAdd, Nat.reduceMul, Nat.reduceSub, Nat.reduceLeDiff, Nat.reduceEqDiff, Nat.reducePow, Int.reduceToNat, Int.reducePow, Int.reduceAdd, Int.reduceSub, Int.reduceMul, Int.reduceLT, Int.reduceLE, Int.reduceEq, Int.reduceNeg])
      rw [c3'] at s2
      refine hj _ _ ⟨out, l, fs, 0, rfl, K2.trans K4, f.hp, s2.kp K4, o2.kp K4, f.ob, f.hl, .inl ⟨rfl, ⟨c2, c3'⟩, f.t⟩⟩
  · rename_i c2
    obtain ⟨rfl, b2, f2, s2⟩ := q2
    simp -dsimp (disch := omega) only [↓pre, sp, sp2, wp_some, Int.cast_ofNat_Int, Nat.reduceAdd, Nat.reduceMul, Nat.reduceSub, Nat.reduceLeDiff, Nat.reduceEqDiff, Nat.reducePow, Int.reduceToNat, Int.reducePow, Int.reduceAdd, Int.reduceSub, Int.reduceMul, Int.reduceLT, Int.reduceLE, Int.reduceEq, Int.reduceNeg]
    refine wp_box K2.w' rfl rfl fun q h3 hq k3 n3 g3 => ?_
    refine wp_store k3.w' g3 rfl rfl (by decide) (by simp only [ic, b2.isCell]) fun h4 k4 n4 g4 => ?_
    have K4 : Kp h2 h4 := Ke.new_p k3 k4 fun i hi => by omega
    simp -dsimp (disch := omega) only [↓pre, sp, sp2, wp_some, Int.cast_ofNat_Int, Nat.reduceAdd, Nat.reduceMul, Nat.reduceSub, Nat.reduceLeDiff, Nat.reduceEqDiff, Nat.reducePow, Int.reduceToNat, Int.reducePow, Int.reduceAdd, Int.reduceSub, Int.reduceMul, Int.reduceLT, Int.reduceLE, Int.reduceEq, Int.reduceNeg, row_rw g4, splice_def]
    have o1lt : ∀ i, isBk out i → i < h1.n := by
      obtain ⟨cs, oo, _⟩ := f.o
      exact fun i hi => Ow.bk_lt f.k.w' oo hi
    refine wp_addFrm (f := frmOf l) K4.w' (o2.kp K4) (b2.kp K4) (hM.2.2.1 c2).2.1 (fun i hi => ?_) (by have := k2.n; have := K4.n; omega) (by omega) fun out' h5 o5 s5 k5 => ?_
    · have := f2 i hi
      exact ⟨by omega, fun hi2 => by have := o1lt i hi2; omega⟩
    obtain ⟨K5, ob5⟩ := k5 h0 (K2.trans K4) f.ob
    simp -dsimp (disch := omega) only [↓pre, sp, sp2, wp_some, Int.cast_ofNat_Int, Nat.reduceAdd, Nat.reduceMul, Nat.reduceSub, Nat.reduceLeDiff, Nat.reduceEqDiff, Nat.reducePow, Int.reduceToNat, Int.reducePow, Int.reduceAdd, Int.reduceSub, Int.reduceMul, Int.reduceLT, Int.reduceLE, Int.reduceEq, Int.reduceNeg]
    have ed : (l.drop (openM l).2.2.2.1).length = l.length - (openM l).2.2.2.1 := List.length_drop
    refine hj2 _ _ _ (by rw [ed]; omega) ⟨out', l.drop (openM l).2.2.2.1, fs ++ [frmOf l], rfl, rfl, K5, f.hp, ?_, o5, ob5, ?_, by have := f.hl; omega⟩
    · have := s5 _ _ _ (s2.kp K4)
      simpa using this
    · rw [f.t, told_frame' c2]; simp

/-- A stream's frames, out of pieces. -/
theorem frames_spec (H : Ov6 ov) (n : Nat) (w : Wf h) {a c : AVal} {b cuts : List UInt8} {md md' : AMode} (sb : Bs h a b md) (sc : Bs h c cuts md') (hb : b.length ≤ 2 ^ 16) (hc : cuts.length ≤ 4000) :
    Wp (kc ov (n + 4) N_runglaw6_frames [a, c] h) fun r h' => Kp h h' ∧ ∃ out cs, r = .tuple [out, .int .i64 (told b).2, .bool true] ∧ Ow h' out T_api_Frame 3 (told b).1.length cs ∧ FrA h' .rw (fun _ => True) cs (told b).1 := by
  rw [C_runglaw6_frames H.p]; unfold F_runglaw6_frames
  simp -dsimp (disch := omega) only [↓pre, sp, sp2, wp_some, Int.cast_ofNat_Int, Nat.reduceAdd, Nat.reduceMul, Nat.reduceSub, Nat.reduceLeDiff, Nat.reduceEqDiff, Nat.reducePow, Int.reduceToNat, Int.reducePow, Int.reduceAdd, Int.reduceSub, Int.reduceMul, Int.reduceLT, Int.reduceLE, Int.reduceEq, Int.reduceNeg]
  refine Wp.bind (new_stream_spec H.p (n + 2) w) fun v1 h1 ⟨k1, p, e1, hp, s1⟩ => ?_
  subst e1
  simp -dsimp (disch := omega) only [↓pre, sp, sp2, wp_some, Int.cast_ofNat_Int, Nat.reduceAdd, Nat.reduceMul, Nat.reduceSub, Nat.reduceLeDiff, Nat.reduceEqDiff, Nat.reducePow, Int.reduceToNat, Int.reducePow, Int.reduceAdd, Int.reduceSub, Int.reduceMul, Int.reduceLT, Int.reduceLE, Int.reduceEq, Int.reduceNeg]
  have w0 : waits [] := by unfold waits openM; simp
  refine wp_loop (fun m x h2 => ∃ (i at_ : Nat) (out : AVal) (bad : Nat), x = [out, .int .i64 at_, .int .i64 bad, .int .i64 i] ∧ i + m = b.length + cuts.length + 1 ∧ at_ ≤ b.length ∧ i ≤ at_ + min i cuts.length ∧
      FJ h h2 p b (b.drop at_) [out, .int .i64 bad]) (b.length + cuts.length + 1) (by omega)
    ⟨0, 0, .slice none 0 0, 0, rfl, by omega, by omega, by omega, .slice none 0 0, [], [], 0, rfl, k1, hp, s1, ⟨[], Ow.nil _ _ _ (by omega), ⟨rfl, fun i f hf => by simp at hf⟩, by simp⟩, fun i hi => hi.elim, by simp, .inl ⟨rfl, w0, by simp⟩⟩ ?_
  rintro m _ h2 j ⟨i, at_, out, bad, rfl, him, hat, hit, out', l, fs, bad', e2, K2, hp2, s2, o2, ob2, hl2, t2⟩ hj
  simp only [List.cons.injEq, AVal.int.injEq, true_and, and_true] at e2
  obtain ⟨rfl, e2⟩ := e2
  have e2 : bad = bad' := by omega
  subst e2
  have sb2 := sb.kp K2
  have sc2 := sc.kp K2
  unfold L_runglaw6_frames_1
  simp -dsimp (disch := omega) only [↓pre, sp, sp2, wp_some, Int.cast_ofNat_Int, Nat.reduceAdd, Nat.reduceMul, Nat.reduceSub, Nat.reduceLeDiff, Nat.reduceEqDiff, Nat.reducePow, Int.reduceToNat, Int.reducePow, Int.reduceAdd, Int.reduceSub, Int.reduceMul, Int.reduceLT, Int.reduceLE, Int.reduceEq, Int.reduceNeg, sb2.len]
  refine wp_kT (.bool (decide (at_ < b.length ∧ bad = 0))) (fun j hj => ?_) ?_
  · by_cases c1 : (at_ : Int) < b.length
    · simp -dsimp (disch := omega) only [↓pre, sp, sp2, wp_some, Int.cast_ofNat_Int, Nat.reduceAdd, Nat.reduceMul, Nat.reduceSub, Nat.reduceLeDiff, Nat.reduceEqDiff, Nat.reducePow, Int.reduceToNat, Int.reducePow, Int.reduceAdd, Int.reduceSub, Int.reduceMul, Int.reduceLT, Int.reduceLE, Int.reduceEq, Int.reduceNeg, c1, decide_true]
      have c1' : at_ < b.length := by omega
      have e3 : ((bad : Int) = 0) ↔ bad = 0 := by omega
      simpa only [c1', e3, true_and] using hj
    · simp -dsimp (disch := omega) only [↓pre, sp, sp2, wp_some, Int.cast_ofNat_Int, Nat.reduceAdd, Nat.reduceMul, Nat.reduceSub, Nat.reduceLeDiff, Nat.reduceEqDiff, Nat.reducePow, Int.reduceToNat, Int.reducePow, Int.reduceAdd, Int.reduceSub, Int.reduceMul, Int.reduceLT, Int.reduceLE, Int.reduceEq, Int.reduceNeg, c1, decide_false]
      have c1' : ¬ at_ < b.length := by omega
      simpa only [c1', false_and, decide_false] using hj
  simp -dsimp (disch := omega) only [↓pre, sp, sp2, wp_some, Int.cast_ofNat_Int, Nat.reduceAdd, Nat.reduceMul, Nat.reduceSub, Nat.reduceLeDiff, Nat.reduceEqDiff, Nat.reducePow, Int.reduceToNat, Int.reducePow, Int.reduceAdd, Int.reduceSub, Int.reduceMul, Int.reduceLT, Int.reduceLE, Int.reduceEq, Int.reduceNeg]
  refine wp_ite (fun c1 => ?_) (fun c1 => ?_)
  · obtain ⟨c1, c0⟩ := c1
    subst c0
    rcases t2 with ⟨_, w2, t2⟩ | ⟨t2, _⟩
    rotate_left
    · exact absurd rfl t2
    have hl3 := waits_short w2
    have hil : i ≤ b.length + cuts.length := by omega
    simp -dsimp (disch := omega) only [↓pre, sp, sp2, wp_some, Int.cast_ofNat_Int, Nat.reduceAdd, Nat.reduceMul, Nat.reduceSub, Nat.reduceLeDiff, Nat.reduceEqDiff, Nat.reducePow, Int.reduceToNat, Int.reducePow, Int.reduceAdd, Int.reduceSub, Int.reduceMul, Int.reduceLT, Int.reduceLE, Int.reduceEq, Int.reduceNeg, sb2.len, sc2.len]
    refine wp_kJ (fun x h3 => h2 = h3 ∧ ∃ k : Nat, x = [.int .i64 k] ∧ k ≤ b.length - at_ ∧ (cuts.length ≤ i → k = b.length - at_)) (fun j2 hj2 => ?_) ?_
    · refine wp_kIf (fun c2 => ?_) (fun c2 => ?_)
      · have c2 := of_decide_eq_true c2
        have hg := gb_lt cuts i
        simp -dsimp (disch := omega) only [↓pre, sp, sp2, wp_some, Int.cast_ofNat_Int, Nat.reduceAdd, Nat.reduceMul, Nat.reduceSub, Nat.reduceLeDiff, Nat.reduceEqDiff, Nat.reducePow, Int.reduceToNat, Int.reducePow, Int.reduceAdd, Int.reduceSub, Int.reduceMul, Int.reduceLT, Int.reduceLE, Int.reduceEq, Int.reduceNeg, sc2.at, sc2.ldb]
        have e3 : min ((b.length : Int) - at_) (gb cuts i : Nat) = (min (b.length - at_) (gb cuts i) : Nat) := by omega
        (try simp -dsimp (disch := omega) only [↓pre, sp, sp2, wp_some, Int.cast_ofNat_Int, Nat.reduceAdd, Nat.reduceMul, Nat.reduceSub, Nat.reduceLeDiff, Nat.reduceEqDiff, Nat.reducePow, Int.reduceToNat, Int.reducePow, Int.reduceAdd, Int.reduceSub, Int.reduceMul, Int.reduceLT, Int.reduceLE, Int.reduceEq, Int.reduceNeg, e3])
        exact hj2 _ _ ⟨rfl, _, rfl, Nat.min_le_left _ _, fun hh => by omega⟩
      · have c2 := of_decide_eq_false c2
        have e3 : ((b.length : Int) - at_) = ((b.length - at_ : Nat) : Int) := by omega
        rw [e3]
        exact hj2 _ _ ⟨rfl, _, rfl, Nat.le_refl _, fun _ => rfl⟩
    rintro _ _ ⟨rfl, k, rfl, hk, hk2⟩
    obtain ⟨v5, e5, s5, _⟩ := sb2.cut2 (p := .i64) (q := .i64) (a := (at_ : Int)) (b := (at_ : Int) + k) (by omega) (by omega) (by omega)
    simp -dsimp (disch := omega) only [↓pre, sp, sp2, wp_some, Int.cast_ofNat_Int, Nat.reduceAdd, Nat.reduceMul, Nat.reduceSub, Nat.reduceLeDiff, Nat.reduceEqDiff, Nat.reducePow, Int.reduceToNat, Int.reducePow, Int.reduceAdd, Int.reduceSub, Int.reduceMul, Int.reduceLT, Int.reduceLE, Int.reduceEq, Int.reduceNeg, e5]
    have hx : ((b.drop at_).take k).length = k := by rw [List.length_take, List.length_drop]; omega
    have s5' : Bs h2 v5 ((b.drop at_).take k) md := s5.to (by rw [bytesOf_take, bytesOf_drop, Nat.mul_one, Nat.mul_one, List.drop_take, Int.toNat_natCast, show ((at_ : Int) + k).toNat - at_ = k by omega]) (by rw [hx]; omega)
    refine Wp.bind (copy_spec H.p (n + 2) K2.w' s5' (by omega)) fun v6 h6 ⟨k6, o6, f6⟩ => ?_
    simp -dsimp (disch := omega) only [↓pre, sp, sp2, wp_some, Int.cast_ofNat_Int, Nat.reduceAdd, Nat.reduceMul, Nat.reduceSub, Nat.reduceLeDiff, Nat.reduceEqDiff, Nat.reducePow, Int.reduceToNat, Int.reducePow, Int.reduceAdd, Int.reduceSub, Int.reduceMul, Int.reduceLT, Int.reduceLE, Int.reduceEq, Int.reduceNeg]
    have hpn := s2.lt K2.w'
    refine Wp.bind (feed_spec H.p n k6.w' (s2.kp k6) o6.rd (by omega) hl2) fun v7 h7 ⟨e7, s7, k7, nh, _⟩ => ?_
    have ht : takes l ((b.drop at_).take k) 0 = min k (260 - l.length) := by unfold takes; rw [if_pos rfl, hx]
    rw [ht] at s7 e7
    subst e7
    simp -dsimp (disch := omega) only [↓pre, sp, sp2, wp_some, Int.cast_ofNat_Int, Nat.reduceAdd, Nat.reduceMul, Nat.reduceSub, Nat.reduceLeDiff, Nat.reduceEqDiff, Nat.reducePow, Int.reduceToNat, Int.reducePow, Int.reduceAdd, Int.reduceSub, Int.reduceMul, Int.reduceLT, Int.reduceLE, Int.reduceEq, Int.reduceNeg]
    have o7 : Ob h7 v6 ((b.drop at_).take k) := o6.ke k7 fun i hi hp => by have := f6 i hi; omega
    refine Wp.bind (spoilh_spec H.p (n + 2) k7.w' o7 (by omega)) fun v8 h8 ⟨e8, k8⟩ => ?_
    subst e8
    have s8 : Str h8 p (l ++ ((b.drop at_).take k).take (min k (260 - l.length))) 0 fs.length := s7.keN k8 fun i hi => ⟨by have := f6 i hi; omega, nh rfl i (Ow.bk_lt k6.w' o6 hi)⟩
    have K28 : Ke (· = p) h2 h8 := ((Kp.ke k6).trans k7).new k8 fun i hi => .inr (f6 i hi)
    have o8 := o2.keP s2 K28
    have hll : (l ++ ((b.drop at_).take k).take (min k (260 - l.length))).length ≤ 260 := by rw [List.length_append, List.length_take, hx]; omega
    have hleft := left_spec H.p (n + 2) s8
    simp -dsimp (disch := omega) only [↓pre, sp, sp2, wp_some, Int.cast_ofNat_Int, Nat.reduceAdd, Nat.reduceMul, Nat.reduceSub, Nat.reduceLeDiff, Nat.reduceEqDiff, Nat.reducePow, Int.reduceToNat, Int.reducePow, Int.reduceAdd, Int.reduceSub, Int.reduceMul, Int.reduceLT, Int.reduceLE, Int.reduceEq, Int.reduceNeg]
    refine wp_kTh (fun v h9 => h8 = h9 ∧ v = .bool false) (fun j2 hj2 => ?_) ?_
    · have d1 : ¬ (((min k (260 - l.length) : Nat) : Int) < 0) := by omega
      have d2 : ¬ (((min k (260 - l.length) : Nat) : Int) > (k : Nat)) := by omega
      have d3 : ¬ ((((l ++ ((b.drop at_).take k).take (min k (260 - l.length))).length : Nat) : Int) > 260) := by omega
      simp -dsimp (disch := omega) only [↓pre, sp, sp2, wp_some, Int.cast_ofNat_Int, Nat.reduceAdd, Nat.reduceMul, Nat.reduceSub, Nat.reduceLeDiff, Nat.reduceEqDiff, Nat.reducePow, Int.reduceToNat, Int.reducePow, Int.reduceAdd, Int.reduceSub, Int.reduceMul, Int.reduceLT, Int.reduceLE, Int.reduceEq, Int.reduceNeg, d1, d2, d3, decide_false, hleft]
      exact hj2 _ _ ⟨rfl, rfl⟩
    rintro _ _ ⟨rfl, rfl⟩
    simp -dsimp (disch := omega) only [↓pre, sp, sp2, wp_some, Int.cast_ofNat_Int, Nat.reduceAdd, Nat.reduceMul, Nat.reduceSub, Nat.reduceLeDiff, Nat.reduceEqDiff, Nat.reducePow, Int.reduceToNat, Int.reducePow, Int.reduceAdd, Int.reduceSub, Int.reduceMul, Int.reduceLT, Int.reduceLE, Int.reduceEq, Int.reduceNeg]
    have hrest : (l ++ ((b.drop at_).take k).take (min k (260 - l.length))) ++ b.drop (at_ + min k (260 - l.length)) = l ++ b.drop at_ := by
      rw [List.append_assoc, List.take_take, Nat.min_eq_left (Nat.min_le_left _ _), ← List.drop_drop, List.take_append_drop]
    refine wp_kJ (fun x h9 => FJ h h9 p b (b.drop (at_ + min k (260 - l.length))) x) (fun j2 hj2 => ?_) ?_
    · refine frames_inner H n (by omega) (l := l ++ ((b.drop at_).take k).take (min k (260 - l.length))) (fs := fs) (rest := b.drop (at_ + min k (260 - l.length))) ⟨Ke.new_p K2 K28 fun i hi => by omega, hp2, s8, o8, ob2, by rw [hrest]; exact t2, hll⟩ hj2
    · rintro x h9 hx9
      have hx9' := hx9
      obtain ⟨out9, l9, fs9, bad9, rfl, K9, _⟩ := hx9
      have sb9 := sb.kp K9
      have e9 : ¬ ((i : Int) > 5000 + b.length) := by omega
      have ea : IntKind.wrap .i64 ((at_ : Int) + (min k (260 - l.length) : Nat)) = ((at_ + min k (260 - l.length) : Nat) : Int) := by rw [wr_i64 (by omega) (by omega)]; omega
      have ei : IntKind.wrap .i64 ((i : Int) + 1) = ((i + 1 : Nat) : Int) := by rw [wr_i64 (by omega) (by omega)]; omega
      simp -dsimp (disch := omega) only [↓pre, sp, sp2, wp_some, Int.cast_ofNat_Int, Nat.reduceAdd, Nat.reduceMul, Nat.reduceSub, Nat.reduceLeDiff, Nat.reduceEqDiff, Nat.reducePow, Int.reduceToNat, Int.reducePow, Int.reduceAdd, Int.reduceSub, Int.reduceMul, Int.reduceLT, Int.reduceLE, Int.reduceEq, Int.reduceNeg, sb9.len, e9, if_false]
      (try simp -dsimp (disch := omega) only [↓pre, sp, sp2, wp_some, Int.cast_ofNat_Int, Nat.reduceAdd, Nat.reduceMul, Nat.reduceSub, Nat.reduceLeDiff, Nat.reduceEqDiff, Nat.reducePow, Int.reduceToNat, Int.reducePow, Int.reduceAdd, Int.reduceSub, Int.reduceMul, Int.reduceLT, Int.reduceLE, Int.reduceEq, Int.reduceNeg, ea, ei])
      have ea' : ((at_ : Int) + (min k (260 - l.length) : Nat)) = ((at_ + min k (260 - l.length) : Nat) : Int) := by omega
      have ei' : ((i : Int) + 1) = ((i + 1 : Nat) : Int) := by omega
      rw [ea', ei']
      refine hj (m - 1) _ _ (by omega) ⟨i + 1, at_ + min k (260 - l.length), out9, bad9, rfl, by omega, by omega, ?_, hx9'⟩
      by_cases ci : i < cuts.length
      · omega
      · have := hk2 (by omega)
        omega
  · have ec : bad = 0 → at_ = b.length := fun hh => by omega
    have hcount := frames_count_spec H.p H.l n s2
    obtain ⟨cs, oo, fa, _⟩ := o2
    have ht : told b = (fs, bad) := by
      rcases t2 with ⟨rfl, w2, t2⟩ | ⟨_, t2⟩
      · have := ec rfl
        subst this
        rw [t2, List.drop_length, List.append_nil, told_wait w2]; simp
      · exact t2
    have hlen := told_len b
    rw [ht] at hlen
    have hw : IntKind.wrap .u64 ((fs.length : Nat) : Int) = ((fs.length : Nat) : Int) := by
      simp only at hlen
      exact num.2.2.2.2.2.2.2.1 _ (by omega) (by omega)
    simp -dsimp (disch := omega) only [↓pre, sp, sp2, wp_some, Int.cast_ofNat_Int, Nat.reduceAdd, Nat.reduceMul, Nat.reduceSub, Nat.reduceLeDiff, Nat.reduceEqDiff, Nat.reducePow, Int.reduceToNat, Int.reducePow, Int.reduceAdd, Int.reduceSub, Int.reduceMul, Int.reduceLT, Int.reduceLE, Int.reduceEq, Int.reduceNeg, (Ow.rd oo).len, hw, hcount, decide_true]
    rw [ht]
    exact ⟨K2, _, cs, rfl, oo, fa.mono fun v x _ b r => ⟨b, trivial⟩⟩
end Go.Proofs.Ytfnmgclalcoplaa.AI
