/- line: what its functions come to. -/
import Derived.Test.YtpbkgmcpelhlpaaRtu
namespace Go.Proofs.Ytpbkgmcpelhlpaa.AI
open Go
set_option linter.unusedSimpArgs false
set_option linter.unusedVariables false
variable {ov : AOver} {h : AH} {v b : AVal} {md : AMode} {p : Nat}

/-- A line: its unit, how long a silence ends a frame, how long it was still; what is held; frames that wait. -/
structure LS where
  unit : UInt8
  sil : Int
  still : Nat
  held : List UInt8
  at_ : Nat
  wait : List (UInt8 × List UInt8)
def feedL (s : LS) (b : List UInt8) : LS := if b = [] then s else { s with still := 0, held := s.held ++ b.take (257 - s.held.length) }
def goodL (s : LS) : Prop := (openR s.held).2.2 = 0 ∧ ((openR s.held).1 = s.unit ∨ (openR s.held).1 = 0) ∧ s.wait.length < 8
instance (s : LS) : Decidable (goodL s) := by unfold goodL; infer_instance
def tickL (s : LS) : LS := if s.held = [] then s else if ((s.still + 1 : Nat) : Int) < s.sil then { s with still := s.still + 1 } else
  { s with still := 0, held := [], wait := if goodL s then s.wait ++ [((openR s.held).1, (openR s.held).2.1)] else s.wait }
def popL (s : LS) : LS := { s with at_ := (s.at_ + 1) % 8, wait := s.wait.tail }
/-- The line's memory; all of it lies in F. -/
structure LinC (h : AH) (p : Nat) (s : LS) (F : Nat → Prop) (cs : List AVal) (v : AVal) : Prop where
  g : ∃ par, h.get p = some ⟨.row cs T_line_Line false, .rw, par⟩
  l : cs.length = 22
  c0 : cs[0]? = some (.int .u8 s.unit.toNat)
  c1 : cs[1]? = some (.int .i64 s.sil)
  c2 : cs[2]? = some (.int .i64 s.still)
  c3 : cs[3]? = some v
  c20 : cs[20]? = some (.int .i64 s.at_)
  c21 : cs[21]? = some (.int .i64 s.wait.length)
  o : Ob h v s.held
  vp : ∀ i, isBk v i → i ≠ p ∧ F i
  at8 : s.at_ < 8
  n8 : s.wait.length ≤ 8
  hl : s.held.length ≤ 257
  r : ∀ (k : Nat) f, s.wait[k]? = some f → ∃ u, cs[4 + ((s.at_ + k) % 8) * 2]? = some (.int .u8 f.1.toNat) ∧ cs[4 + ((s.at_ + k) % 8) * 2 + 1]? = some u ∧ Bs h u f.2 .rw ∧ 0 < f.2.length ∧ ∀ i, isBk u i → i ≠ p ∧ ¬ isBk v i ∧ F i
  fp : F p
  fl : ∀ i, F i → i < h.n
def Lin (h : AH) (p : Nat) (s : LS) (F : Nat → Prop) : Prop := ∃ cs v, LinC h p s F cs v
theorem Lin.ke {S F : Nat → Prop} {h' : AH} {s : LS} (L : Lin h p s F) (k : Ke S h h') (hS : ∀ i, S i → ¬ F i) : Lin h' p s F := by
  obtain ⟨cs, v, ⟨par, g⟩, l, c0, c1, c2, c3, c20, c21, o, vp, at8, n8, hl, r, fp, fl⟩ := L
  refine ⟨cs, v, ⟨par, k.gt g fun hh => hS p hh fp⟩, l, c0, c1, c2, c3, c20, c21, o.ke k (fun i hi hh => hS i hh (vp i hi).2), vp, at8, n8, hl, fun k' f hf => ?_, fp, fun i hi => Nat.lt_of_lt_of_le (fl i hi) k.n⟩
  obtain ⟨u, e1, e2, bu, hf0, fu⟩ := r k' f hf
  exact ⟨u, e1, e2, bu.keF k fun i hi hh => hS i hh (fu i hi).2.2, hf0, fu⟩
theorem Lin.kp {F : Nat → Prop} {h' : AH} {s : LS} (L : Lin h p s F) (k : Kp h h') : Lin h' p s F := L.ke k fun _ f => f.elim
theorem Lin.grow {F G : Nat → Prop} {s : LS} (L : Lin h p s F) (hG : ∀ i, F i → G i) (hl : ∀ i, G i → i < h.n) : Lin h p s G := by
  obtain ⟨cs, v, g, l, c0, c1, c2, c3, c20, c21, o, vp, at8, n8, hl', r, fp, fl⟩ := L
  refine ⟨cs, v, g, l, c0, c1, c2, c3, c20, c21, o, fun i hi => ⟨(vp i hi).1, hG i (vp i hi).2⟩, at8, n8, hl', fun k' f hf => ?_, hG p fp, hl⟩
  obtain ⟨u, e1, e2, bu, hf0, fu⟩ := r k' f hf
  exact ⟨u, e1, e2, bu, hf0, fun i hi => ⟨(fu i hi).1, (fu i hi).2.1, hG i (fu i hi).2.2⟩⟩
/-- What it holds, and what was made. -/
def Gr (F : Nat → Prop) (h h' : AH) (i : Nat) : Prop := F i ∨ (h.n ≤ i ∧ i < h'.n)
theorem new_line_spec (H : Plain ov) (n : Nat) (w : Wf h) (u : UInt8) (k : Int) : Wp (kc ov (n + 1) N_line_New [.int .u8 u.toNat, .int .i64 k] h) fun r h' => Kp h h' ∧ ∃ p, r = .ptr (some (p, 0)) ∧ h.n ≤ p ∧ Lin h' p ⟨u, max k 1, 0, [], 0, []⟩ (· = p) := by
  rw [C_line_New H]; unfold F_line_New
  have hb : rBuild [(.int .u8 0), (.int .i64 0), (.int .i64 0), (.slice none 0 0), (.int .u8 0), (.slice none 0 0), (.int .u8 0), (.slice none 0 0), (.int .u8 0), (.slice none 0 0), (.int .u8 0), (.slice none 0 0), (.int .u8 0), (.slice none 0 0), (.int .u8 0), (.slice none 0 0), (.int .u8 0), (.slice none 0 0), (.int .u8 0), (.slice none 0 0), (.int .i64 0), (.int .i64 0)] [(0, 1), (1, 1), (2, 1), (3, 1), (4, 16), (20, 1), (21, 1)] [(0, .int .u8 u.toNat), (1, .int .i64 (max k 1))] =
      some (.agg [(.int .u8 u.toNat), (.int .i64 (max k 1)), (.int .i64 0), (.slice none 0 0), (.int .u8 0), (.slice none 0 0), (.int .u8 0), (.slice none 0 0), (.int .u8 0), (.slice none 0 0), (.int .u8 0), (.slice none 0 0), (.int .u8 0), (.slice none 0 0), (.int .u8 0), (.slice none 0 0), (.int .u8 0), (.slice none 0 0), (.int .u8 0), (.slice none 0 0), (.int .i64 0), (.int .i64 0)]) := rfl
  (try simp -dsimp (disch := omega) only [↓pre, sp, sp2, wp_some, Int.cast_ofNat_Int, Nat.reduceAdd, Nat.reduceMul, Nat.reduceSub, Nat.reduceLeDiff, Nat.reduceEqDiff, Nat.reducePow, Int.reduceToNat, Int.reducePow, Int.reduceAdd, Int.reduceSub, Int.reduceMul, Int.reduceLT, Int.reduceLE, Int.reduceEq, Int.reduceNeg, ↓hb])
  refine wp_box w rfl rfl fun q h1 hq k1 n1 g1 => ?_
  (try simp -dsimp (disch := omega) only [↓pre, sp, sp2, wp_some, Int.cast_ofNat_Int, Nat.reduceAdd, Nat.reduceMul, Nat.reduceSub, Nat.reduceLeDiff, Nat.reduceEqDiff, Nat.reducePow, Int.reduceToNat, Int.reducePow, Int.reduceAdd, Int.reduceSub, Int.reduceMul, Int.reduceLT, Int.reduceLE, Int.reduceEq, Int.reduceNeg])
  exact ⟨k1, q, rfl, by omega, _, .slice none 0 0, ⟨_, g1⟩, rfl, rfl, rfl, rfl, rfl, rfl, rfl, Ow.nil _ _ _ (by omega), fun i hi => hi.elim, Nat.zero_lt_succ _, Nat.zero_le _, Nat.zero_le _, fun k f hf => by simp at hf, rfl, fun i hi => by omega⟩
theorem lleft_spec (H : Plain ov) (n : Nat) {s : LS} {F : Nat → Prop} (L : Lin h p s F) : kc ov (n + 1) N_line_Line_Left [.ptr (some (p, 0))] h = some (.int .i64 s.held.length, h) := by
  obtain ⟨cs, v, C⟩ := L
  obtain ⟨par, g⟩ := C.g
  rw [C_line_Line_Left H]; unfold F_line_Line_Left
  (try simp -dsimp (disch := omega) only [↓pre, sp, sp2, wp_some, Int.cast_ofNat_Int, Nat.reduceAdd, Nat.reduceMul, Nat.reduceSub, Nat.reduceLeDiff, Nat.reduceEqDiff, Nat.reducePow, Int.reduceToNat, Int.reducePow, Int.reduceAdd, Int.reduceSub, Int.reduceMul, Int.reduceLT, Int.reduceLE, Int.reduceEq, Int.reduceNeg, row_rw g, C.c3, C.o.rd.len])
theorem lwaits_spec (H : Plain ov) (n : Nat) {s : LS} {F : Nat → Prop} (L : Lin h p s F) : kc ov (n + 1) N_line_Line_Waits [.ptr (some (p, 0))] h = some (.int .i64 s.wait.length, h) := by
  obtain ⟨cs, v, C⟩ := L
  obtain ⟨par, g⟩ := C.g
  rw [C_line_Line_Waits H]; unfold F_line_Line_Waits
  (try simp -dsimp (disch := omega) only [↓pre, sp, sp2, wp_some, Int.cast_ofNat_Int, Nat.reduceAdd, Nat.reduceMul, Nat.reduceSub, Nat.reduceLeDiff, Nat.reduceEqDiff, Nat.reducePow, Int.reduceToNat, Int.reducePow, Int.reduceAdd, Int.reduceSub, Int.reduceMul, Int.reduceLT, Int.reduceLE, Int.reduceEq, Int.reduceNeg, row_rw g, C.c21])
theorem lfeed_spec (H : Plain ov) (n : Nat) (w : Wf h) {s : LS} {F : Nat → Prop} (L : Lin h p s F) {x : List UInt8} (sb : Bs h b x md) (hb : md = .ro ∨ ¬ F (bk b)) (hx : x.length ≤ 2 ^ 40) :
    Wp (kc ov (n + 1) N_line_Line_Feed [.ptr (some (p, 0)), b] h) fun r h' => r = .tuple [] ∧ Ke F h h' ∧ Lin h' p (feedL s x) (Gr F h h') := by
  rw [C_line_Line_Feed H]; unfold F_line_Line_Feed
  (try simp -dsimp (disch := omega) only [↓pre, sp, sp2, wp_some, Int.cast_ofNat_Int, Nat.reduceAdd, Nat.reduceMul, Nat.reduceSub, Nat.reduceLeDiff, Nat.reduceEqDiff, Nat.reducePow, Int.reduceToNat, Int.reducePow, Int.reduceAdd, Int.reduceSub, Int.reduceMul, Int.reduceLT, Int.reduceLE, Int.reduceEq, Int.reduceNeg, sb.len])
  refine wp_ite (fun c => ?_) (fun c => ?_)
  · have : x = [] := List.eq_nil_of_length_eq_zero (by omega)
    have e : feedL s x = s := by unfold feedL; rw [if_pos this]
    rw [e]
    exact Wp.ret ⟨rfl, Ke.refl w, L.grow (fun i hi => .inl hi) fun i hi => by
      obtain ⟨cs, v, C⟩ := L
      rcases hi with hi | hi
      · exact C.fl i hi
      · omega⟩
  · obtain ⟨cs, v, C⟩ := L
    obtain ⟨par, g⟩ := C.g
    have hxn : x ≠ [] := fun e => by subst e; simp at c
    have hcl := C.l
    have hpn := w.lt _ _ g
    (try simp -dsimp (disch := omega) only [↓pre, sp, sp2, wp_some, Int.cast_ofNat_Int, Nat.reduceAdd, Nat.reduceMul, Nat.reduceSub, Nat.reduceLeDiff, Nat.reduceEqDiff, Nat.reducePow, Int.reduceToNat, Int.reducePow, Int.reduceAdd, Int.reduceSub, Int.reduceMul, Int.reduceLT, Int.reduceLE, Int.reduceEq, Int.reduceNeg])
    refine wp_store w g rfl rfl (by omega) rfl fun h1 k1 n1 g1 => ?_
    rw [splice_one _ _ _ (by omega)] at g1
    have K1 : Ke F h h1 := k1.mono fun i hi => by subst hi; exact C.fp
    have s1 := sb.ke K1 hb
    have o1 : Ob h1 v s.held := C.o.ke k1 fun i hi hh => (C.vp i hi).1 hh
    have e3 : (cs.set 2 (.int .i64 0))[3]? = some v := by rw [List.getElem?_set_ne (by omega)]; exact C.c3
    have hhl := C.hl
    have em : min (x.length : Int) (257 - s.held.length) = ((min x.length (257 - s.held.length) : Nat) : Int) := by omega
    obtain ⟨v2, e2, s2, _⟩ := s1.cutR (q := .i64) (b := ((min x.length (257 - s.held.length) : Nat) : Int)) (by omega) (by omega)
    have hxt : (x.take (257 - s.held.length)).length = min x.length (257 - s.held.length) := by rw [List.length_take]; omega
    have s2' : Bs h1 v2 (x.take (257 - s.held.length)) md := s2.to (by
      rw [bytesOf_take]
      simp only [Int.toNat_natCast, Nat.mul_one]
      congr 1
      rw [List.take_eq_take_iff]; omega) (by rw [hxt]; simp)
    (try simp -dsimp (disch := omega) only [↓pre, sp, sp2, wp_some, Int.cast_ofNat_Int, Nat.reduceAdd, Nat.reduceMul, Nat.reduceSub, Nat.reduceLeDiff, Nat.reduceEqDiff, Nat.reducePow, Int.reduceToNat, Int.reducePow, Int.reduceAdd, Int.reduceSub, Int.reduceMul, Int.reduceLT, Int.reduceLE, Int.reduceEq, Int.reduceNeg, s1.len, row_rw g1, e3, o1.rd.len, em, e2])
    refine wp_append k1.w' o1 s2' (isCell_bytes _) (by omega) (by rw [hxt]; omega) fun v3 h3 o3 k3 f3 => ?_
    rw [← bytesOf_append] at o3
    have g3 := k3.gt g1 (fun hh => (C.vp p hh).1 rfl)
    (try simp -dsimp (disch := omega) only [↓pre, sp, sp2, wp_some, Int.cast_ofNat_Int, Nat.reduceAdd, Nat.reduceMul, Nat.reduceSub, Nat.reduceLeDiff, Nat.reduceEqDiff, Nat.reducePow, Int.reduceToNat, Int.reducePow, Int.reduceAdd, Int.reduceSub, Int.reduceMul, Int.reduceLT, Int.reduceLE, Int.reduceEq, Int.reduceNeg, row_rw g3, e3])
    refine wp_store k3.w' g3 (cells_of o3.isCell) rfl (by rw [List.length_set]; omega) (by simp only [ic, o3.isCell]) fun h4 k4 n4 g4 => ?_
    rw [splice_one _ _ _ (by rw [List.length_set]; omega)] at g4
    have hv3p : ∀ i, isBk v3 i → i ≠ p ∧ Gr F h h4 i := fun i hi => by
      have hlt := Ow.bk_lt k3.w' o3 hi
      rcases f3 i hi with f | f
      · exact ⟨(C.vp i f).1, .inl (C.vp i f).2⟩
      · exact ⟨by omega, .inr ⟨by omega, by omega⟩⟩
    have K13 : Ke F h1 h3 := k3.mono fun i hi => (C.vp i hi).2
    have K34 : Ke F h3 h4 := k4.mono fun i hi => by subst hi; exact C.fp
    have ef : feedL s x = { s with still := 0, held := s.held ++ x.take (257 - s.held.length) } := by unfold feedL; rw [if_neg hxn]
    rw [ef]
    refine Wp.ret ⟨rfl, (K1.trans K13).trans K34, _, v3, ⟨[], g4⟩, by simp [hcl], ?_, ?_, ?_, ?_, ?_, ?_, (o3.ke k4 fun i hi hh => (hv3p i hi).1 hh).to rfl (by rw [List.length_append]), hv3p, C.at8, C.n8, by rw [List.length_append, hxt]; omega, fun k f hf => ?_, .inl C.fp, fun i hi => ?_⟩
    · rw [List.getElem?_set_ne (by omega), List.getElem?_set_ne (by omega)]; exact C.c0
    · rw [List.getElem?_set_ne (by omega), List.getElem?_set_ne (by omega)]; exact C.c1
    · rw [List.getElem?_set_ne (by omega), List.getElem?_set, if_pos rfl, if_pos (by omega)]; rfl
    · rw [List.getElem?_set, if_pos rfl, if_pos (by rw [List.length_set]; omega)]
    · rw [List.getElem?_set_ne (by omega), List.getElem?_set_ne (by omega)]; exact C.c20
    · rw [List.getElem?_set_ne (by omega), List.getElem?_set_ne (by omega)]; exact C.c21
    · obtain ⟨u, e5, e6, bu, hf0, fu⟩ := C.r k f hf
      refine ⟨u, ?_, ?_, ((bu.keF k1 fun i hi hh => (fu i hi).1 hh).keF k3 fun i hi hh => (fu i hi).2.1 hh).keF k4 fun i hi hh => (fu i hi).1 hh, hf0, fun i hi => ⟨(fu i hi).1, fun hi2 => ?_, .inl (fu i hi).2.2⟩⟩
      · rw [List.getElem?_set_ne (by omega), List.getElem?_set_ne (by omega)]; exact e5
      · rw [List.getElem?_set_ne (by omega), List.getElem?_set_ne (by omega)]; exact e6
      · rcases f3 i hi2 with f' | f'
        · exact (fu i hi).2.1 f'
        · have := C.fl i (fu i hi).2.2; omega
    · rcases hi with hi | hi
      · have := C.fl i hi; have := k3.n; omega
      · exact hi.2

theorem openR_pos {l : List UInt8} (h : (openR l).2.2 = 0) : 0 < (openR l).2.1.length := by
  unfold openR at h ⊢
  by_cases c : l.length < 4 ∨ 256 < l.length
  · rw [if_pos c] at h; simp at h
  rw [if_neg c] at h ⊢
  by_cases c2 : l.take (l.length - 2) ++ sumB (l.take (l.length - 2)) = l
  · rw [if_pos c2]; simp; omega
  · rw [if_neg c2] at h; simp at h
theorem goodL_iff {s : LS} : goodL s ↔ ((openR s.held).2.2 = 0 ∧ ((openR s.held).1.toNat = s.unit.toNat ∨ (openR s.held).1.toNat = 0) ∧ s.wait.length < 8) := by
  unfold goodL
  rw [← UInt8.toNat_inj (a := (openR s.held).1) (b := s.unit), ← UInt8.toNat_inj (a := (openR s.held).1) (b := 0)]
  rfl
/-- rtu.Open's PDU lies in a block that was not there. -/
theorem ltick_spec (H : Plain ov) (n : Nat) (w : Wf h) {s : LS} {F : Nat → Prop} (L : Lin h p s F) (hs : s.still < 2 ^ 62) :
    Wp (kc ov (n + 5) N_line_Line_Tick [.ptr (some (p, 0))] h) fun r h' => r = .tuple [] ∧ Ke F h h' ∧ Lin h' p (tickL s) (Gr F h h') := by
  rw [C_line_Line_Tick H]; unfold F_line_Line_Tick
  obtain ⟨cs, v, C⟩ := L
  have L : Lin h p s F := ⟨cs, v, C⟩
  obtain ⟨par, g⟩ := C.g
  have hcl := C.l
  have hpn := w.lt _ _ g
  (try simp -dsimp (disch := omega) only [↓pre, sp, sp2, wp_some, Int.cast_ofNat_Int, Nat.reduceAdd, Nat.reduceMul, Nat.reduceSub, Nat.reduceLeDiff, Nat.reduceEqDiff, Nat.reducePow, Int.reduceToNat, Int.reducePow, Int.reduceAdd, Int.reduceSub, Int.reduceMul, Int.reduceLT, Int.reduceLE, Int.reduceEq, Int.reduceNeg, row_rw g, C.c3, C.o.rd.len])
  refine wp_ite (fun c => ?_) (fun c => ?_)
  · have : s.held = [] := List.eq_nil_of_length_eq_zero (by omega)
    have e : tickL s = s := by unfold tickL; rw [if_pos this]
    rw [e]
    exact Wp.ret ⟨rfl, Ke.refl w, L.grow (fun i hi => .inl hi) fun i hi => by
      rcases hi with hi | hi
      · exact C.fl i hi
      · omega⟩
  have hne : s.held ≠ [] := fun e => by rw [e] at c; simp at c
  have ew : IntKind.wrap .i64 ((s.still : Int) + 1) = ((s.still + 1 : Nat) : Int) := by rw [wr_i64 (by omega) (by omega)]; omega
  have ew' : ((s.still : Int) + 1) = ((s.still + 1 : Nat) : Int) := by omega
  (try simp -dsimp (disch := omega) only [↓pre, sp, sp2, wp_some, Int.cast_ofNat_Int, Nat.reduceAdd, Nat.reduceMul, Nat.reduceSub, Nat.reduceLeDiff, Nat.reduceEqDiff, Nat.reducePow, Int.reduceToNat, Int.reducePow, Int.reduceAdd, Int.reduceSub, Int.reduceMul, Int.reduceLT, Int.reduceLE, Int.reduceEq, Int.reduceNeg, row_rw g, C.c2, ew'])
  refine wp_store w g rfl rfl (by omega) rfl fun h1 k1 n1 g1 => ?_
  rw [splice_one _ _ _ (by omega)] at g1
  have K1 : Ke F h h1 := k1.mono fun i hi => by subst hi; exact C.fp
  have a2 : (cs.set 2 (.int .i64 ((s.still + 1 : Nat) : Int)))[2]? = some (.int .i64 ((s.still + 1 : Nat) : Int)) := by rw [List.getElem?_set, if_pos rfl, if_pos (by omega)]
  have a0 : (cs.set 2 (.int .i64 ((s.still + 1 : Nat) : Int)))[0]? = some (.int .u8 s.unit.toNat) := by rw [List.getElem?_set_ne (by omega)]; exact C.c0
  have a1 : (cs.set 2 (.int .i64 ((s.still + 1 : Nat) : Int)))[1]? = some (.int .i64 s.sil) := by rw [List.getElem?_set_ne (by omega)]; exact C.c1
  have a3 : (cs.set 2 (.int .i64 ((s.still + 1 : Nat) : Int)))[3]? = some v := by rw [List.getElem?_set_ne (by omega)]; exact C.c3
  have a20 : (cs.set 2 (.int .i64 ((s.still + 1 : Nat) : Int)))[20]? = some (.int .i64 s.at_) := by rw [List.getElem?_set_ne (by omega)]; exact C.c20
  have a21 : (cs.set 2 (.int .i64 ((s.still + 1 : Nat) : Int)))[21]? = some (.int .i64 s.wait.length) := by rw [List.getElem?_set_ne (by omega)]; exact C.c21
  have ar : ∀ (k : Nat) f, s.wait[k]? = some f → ∃ u, (cs.set 2 (.int .i64 ((s.still + 1 : Nat) : Int)))[4 + ((s.at_ + k) % 8) * 2]? = some (.int .u8 f.1.toNat) ∧ (cs.set 2 (.int .i64 ((s.still + 1 : Nat) : Int)))[4 + ((s.at_ + k) % 8) * 2 + 1]? = some u ∧ Bs h1 u f.2 .rw ∧ 0 < f.2.length ∧ ∀ i, isBk u i → i ≠ p ∧ ¬ isBk v i ∧ F i := fun k f hf => by
    obtain ⟨u, e5, e6, bu, hf0, fu⟩ := C.r k f hf
    exact ⟨u, by rw [List.getElem?_set_ne (by omega)]; exact e5, by rw [List.getElem?_set_ne (by omega)]; exact e6, bu.keF k1 fun i hi hh => (fu i hi).1 hh, hf0, fu⟩
  have o1 : Ob h1 v s.held := C.o.ke k1 fun i hi hh => (C.vp i hi).1 hh
  generalize hcs1 : cs.set 2 (.int .i64 ((s.still + 1 : Nat) : Int)) = cs1 at *
  have hcl1 : cs1.length = 22 := by rw [← hcs1, List.length_set, hcl]
  (try simp -dsimp (disch := omega) only [↓pre, sp, sp2, wp_some, Int.cast_ofNat_Int, Nat.reduceAdd, Nat.reduceMul, Nat.reduceSub, Nat.reduceLeDiff, Nat.reduceEqDiff, Nat.reducePow, Int.reduceToNat, Int.reducePow, Int.reduceAdd, Int.reduceSub, Int.reduceMul, Int.reduceLT, Int.reduceLE, Int.reduceEq, Int.reduceNeg, row_rw g1, a2, a1])
  refine wp_ite (fun c2 => ?_) (fun c2 => ?_)
  · have e : tickL s = { s with still := s.still + 1 } := by unfold tickL; rw [if_neg hne, if_pos c2]
    rw [e]
    exact Wp.ret ⟨rfl, K1, cs1, v, ⟨_, g1⟩, hcl1, a0, a1, a2, a3, a20, a21, o1, fun i hi => ⟨(C.vp i hi).1, .inl (C.vp i hi).2⟩, C.at8, C.n8, C.hl, fun k f hf => by
      obtain ⟨u, e5, e6, bu, hf0, fu⟩ := ar k f hf
      exact ⟨u, e5, e6, bu, hf0, fun i hi => ⟨(fu i hi).1, (fu i hi).2.1, .inl (fu i hi).2.2⟩⟩, .inl C.fp, fun i hi => by
      rcases hi with hi | hi
      · have := C.fl i hi; omega
      · exact hi.2⟩
  have e : tickL s = { s with still := 0, held := [], wait := if goodL s then s.wait ++ [((openR s.held).1, (openR s.held).2.1)] else s.wait } := by unfold tickL; rw [if_neg hne, if_neg c2]
  rw [e]
  (try simp -dsimp (disch := omega) only [↓pre, sp, sp2, wp_some, Int.cast_ofNat_Int, Nat.reduceAdd, Nat.reduceMul, Nat.reduceSub, Nat.reduceLeDiff, Nat.reduceEqDiff, Nat.reducePow, Int.reduceToNat, Int.reducePow, Int.reduceAdd, Int.reduceSub, Int.reduceMul, Int.reduceLT, Int.reduceLE, Int.reduceEq, Int.reduceNeg, row_rw g1, a3])
  refine Wp.bind (ropen_specF H n k1.w' o1.rd) fun v2 h2 ⟨k2, pv, e2, b2, f2⟩ => ?_
  subst e2
  have g2 := k2.gt g1
  (try simp -dsimp (disch := omega) only [↓pre, sp, sp2, wp_some, Int.cast_ofNat_Int, Nat.reduceAdd, Nat.reduceMul, Nat.reduceSub, Nat.reduceLeDiff, Nat.reduceEqDiff, Nat.reducePow, Int.reduceToNat, Int.reducePow, Int.reduceAdd, Int.reduceSub, Int.reduceMul, Int.reduceLT, Int.reduceLE, Int.reduceEq, Int.reduceNeg])
  refine wp_kT (.bool (decide (goodL s))) (fun j hj => ?_) ?_
  · rw [show (decide (goodL s)) = decide ((openR s.held).2.2 = 0 ∧ ((openR s.held).1.toNat = s.unit.toNat ∨ (openR s.held).1.toNat = 0) ∧ s.wait.length < 8) from decide_eq_decide.2 goodL_iff] at hj
    by_cases c3 : (((openR s.held).2.2 : Nat) : Int) = 0
    · have c3' : (openR s.held).2.2 = 0 := by omega
      by_cases c4 : (((openR s.held).1.toNat : Nat) : Int) = (s.unit.toNat : Nat)
      · have c4' : (openR s.held).1.toNat = s.unit.toNat := by omega
        have c4b : decide ((((openR s.held).1.toNat : Nat) : Int) = (s.unit.toNat : Nat)) = true := decide_eq_true c4
        (try simp -dsimp (disch := omega) only [↓pre, sp, sp2, wp_some, Int.cast_ofNat_Int, Nat.reduceAdd, Nat.reduceMul, Nat.reduceSub, Nat.reduceLeDiff, Nat.reduceEqDiff, Nat.reducePow, Int.reduceToNat, Int.reducePow, Int.reduceAdd, Int.reduceSub, Int.reduceMul, Int.reduceLT, Int.reduceLE, Int.reduceEq, Int.reduceNeg, c3, decide_true, row_rw g2, a0, c4b, a21])
        have e5 : ((s.wait.length : Int) < 8) ↔ s.wait.length < 8 := by omega
        simpa only [c3', c4', e5, true_or, true_and] using hj
      · have c4' : ¬ (openR s.held).1.toNat = s.unit.toNat := by omega
        by_cases c5 : (((openR s.held).1.toNat : Nat) : Int) = 0
        · have c5' : (openR s.held).1.toNat = 0 := by omega
          have c4b : decide ((((openR s.held).1.toNat : Nat) : Int) = (s.unit.toNat : Nat)) = false := decide_eq_false c4
          have c5b : decide ((((openR s.held).1.toNat : Nat) : Int) = 0) = true := decide_eq_true c5
          (try simp -dsimp (disch := omega) only [↓pre, sp, sp2, wp_some, Int.cast_ofNat_Int, Nat.reduceAdd, Nat.reduceMul, Nat.reduceSub, Nat.reduceLeDiff, Nat.reduceEqDiff, Nat.reducePow, Int.reduceToNat, Int.reducePow, Int.reduceAdd, Int.reduceSub, Int.reduceMul, Int.reduceLT, Int.reduceLE, Int.reduceEq, Int.reduceNeg, c3, decide_true, row_rw g2, a0, c4b, c5b, a21])
          have e5 : ((s.wait.length : Int) < 8) ↔ s.wait.length < 8 := by omega
          simpa only [c3', c5', e5, or_true, true_and] using hj
        · have c5' : ¬ (openR s.held).1.toNat = 0 := by omega
          have c4b : decide ((((openR s.held).1.toNat : Nat) : Int) = (s.unit.toNat : Nat)) = false := decide_eq_false c4
          have c5b : decide ((((openR s.held).1.toNat : Nat) : Int) = 0) = false := decide_eq_false c5
          (try simp -dsimp (disch := omega) only [↓pre, sp, sp2, wp_some, Int.cast_ofNat_Int, Nat.reduceAdd, Nat.reduceMul, Nat.reduceSub, Nat.reduceLeDiff, Nat.reduceEqDiff, Nat.reducePow, Int.reduceToNat, Int.reducePow, Int.reduceAdd, Int.reduceSub, Int.reduceMul, Int.reduceLT, Int.reduceLE, Int.reduceEq, Int.reduceNeg, c3, decide_true, row_rw g2, a0, c4b, c5b])
          simpa only [c3', c4', c5', or_false, false_and, and_false, decide_false] using hj
    · have c3' : ¬ (openR s.held).2.2 = 0 := by omega
      (try simp -dsimp (disch := omega) only [↓pre, sp, sp2, wp_some, Int.cast_ofNat_Int, Nat.reduceAdd, Nat.reduceMul, Nat.reduceSub, Nat.reduceLeDiff, Nat.reduceEqDiff, Nat.reducePow, Int.reduceToNat, Int.reducePow, Int.reduceAdd, Int.reduceSub, Int.reduceMul, Int.reduceLT, Int.reduceLE, Int.reduceEq, Int.reduceNeg, c3, decide_false])
      simpa only [c3', false_and, decide_false] using hj
  -- the ring, then
  have fin : ∀ (cs3 : List AVal) (wt : List (UInt8 × List UInt8)) (h3 : AH), (∃ par, h3.get p = some ⟨.row cs3 T_line_Line false, .rw, par⟩) → Ke F h h3 → cs3.length = 22 → cs3[0]? = some (.int .u8 s.unit.toNat) → cs3[1]? = some (.int .i64 s.sil) → cs3[20]? = some (.int .i64 s.at_) → cs3[21]? = some (.int .i64 wt.length) →
      wt.length ≤ 8 → (∀ (k : Nat) f, wt[k]? = some f → ∃ u, cs3[4 + ((s.at_ + k) % 8) * 2]? = some (.int .u8 f.1.toNat) ∧ cs3[4 + ((s.at_ + k) % 8) * 2 + 1]? = some u ∧ Bs h3 u f.2 .rw ∧ 0 < f.2.length ∧ ∀ i, isBk u i → i ≠ p ∧ Gr F h h3 i) →
      ∀ (h4 h5 : AH) (par4 par5 : List Nat), Ke (· = p) h3 h4 → h4.n = h3.n → h4.get p = some ⟨.row (cs3.set 3 (.slice none 0 0)) T_line_Line false, .rw, par4⟩ → Ke (· = p) h4 h5 → h5.n = h4.n → h5.get p = some ⟨.row ((cs3.set 3 (.slice none 0 0)).set 2 (.int .i64 0)) T_line_Line false, .rw, par5⟩ →
      Ke F h h5 ∧ Lin h5 p { s with still := 0, held := [], wait := wt } (Gr F h h5) := by
    intro cs3 wt h3 hg3 K3 l3 d0 d1 d20 d21 n8 rr h4 h5 par4 par5 k4 n4 g4 k5 n5 g5
    have mp : ∀ i, i = p → F i := fun i hi => by subst hi; exact C.fp
    refine ⟨(K3.trans (k4.mono mp)).trans (k5.mono mp), _, .slice none 0 0, ⟨_, g5⟩, by simp [l3], ?_, ?_, ?_, ?_, ?_, ?_, Ow.nil _ _ _ (by omega), fun i hi => hi.elim, C.at8, n8, Nat.zero_le _, fun k f hf => ?_, .inl C.fp, fun i hi => ?_⟩
    · rw [List.getElem?_set_ne (by omega), List.getElem?_set_ne (by omega)]; exact d0
    · rw [List.getElem?_set_ne (by omega), List.getElem?_set_ne (by omega)]; exact d1
    · rw [List.getElem?_set, if_pos rfl, if_pos (by rw [List.length_set]; omega)]; rfl
    · rw [List.getElem?_set_ne (by omega), List.getElem?_set, if_pos rfl, if_pos (by omega)]
    · rw [List.getElem?_set_ne (by omega), List.getElem?_set_ne (by omega)]; exact d20
    · rw [List.getElem?_set_ne (by omega), List.getElem?_set_ne (by omega)]; exact d21
    · obtain ⟨u, e5, e6, bu, hf0, fu⟩ := rr k f hf
      refine ⟨u, ?_, ?_, (bu.keF k4 fun i hi hh => (fu i hi).1 hh).keF k5 fun i hi hh => (fu i hi).1 hh, hf0, fun i hi => ⟨(fu i hi).1, fun hh => hh.elim, ?_⟩⟩
      · rw [List.getElem?_set_ne (by omega), List.getElem?_set_ne (by omega)]; exact e5
      · rw [List.getElem?_set_ne (by omega), List.getElem?_set_ne (by omega)]; exact e6
      · rcases (fu i hi).2 with hh | hh
        · exact .inl hh
        · exact .inr ⟨hh.1, by omega⟩
    · rcases hi with hi | hi
      · have := C.fl i hi; have := K3.n; omega
      · exact hi.2
  refine wp_kJ (fun _ h3 => ∃ cs3 wt, (∃ par, h3.get p = some ⟨.row cs3 T_line_Line false, .rw, par⟩) ∧ Ke F h h3 ∧ cs3.length = 22 ∧ cs3[0]? = some (.int .u8 s.unit.toNat) ∧ cs3[1]? = some (.int .i64 s.sil) ∧ cs3[20]? = some (.int .i64 s.at_) ∧ cs3[21]? = some (.int .i64 wt.length) ∧ wt.length ≤ 8 ∧
      (∀ (k : Nat) f, wt[k]? = some f → ∃ u, cs3[4 + ((s.at_ + k) % 8) * 2]? = some (.int .u8 f.1.toNat) ∧ cs3[4 + ((s.at_ + k) % 8) * 2 + 1]? = some u ∧ Bs h3 u f.2 .rw ∧ 0 < f.2.length ∧ ∀ i, isBk u i → i ≠ p ∧ Gr F h h3 i) ∧
      wt = if goodL s then s.wait ++ [((openR s.held).1, (openR s.held).2.1)] else s.wait) (fun j hj => ?_) ?_
  · have K2 : Ke F h h2 := K1.trans k2.ke
    have hn2 : h.n ≤ h2.n := K2.n
    by_cases cg : goodL s
    · have cg' := goodL_iff.1 cg
      have hat : (s.at_ : Int) + s.wait.length = ((s.at_ + s.wait.length : Nat) : Int) := by omega
      have C8 := C.at8
      have er : Int.tmod ((s.at_ + s.wait.length : Nat) : Int) 8 = (((s.at_ + s.wait.length) % 8 : Nat) : Int) := (Int.ofNat_tmod _ 8).symm
      have hm8 : (s.at_ + s.wait.length) % 8 < 8 := Nat.mod_lt _ (by omega)
      have ha : rAtArr 8 2 (.ptr (some (p, 4))) (.int .i64 (((s.at_ + s.wait.length) % 8 : Nat) : Int)) = some (.ptr (some (p, 4 + ((s.at_ + s.wait.length) % 8) * 2))) := by
        unfold rAtArr
        simp only
        rw [if_pos (by omega), Int.toNat_natCast]
      have hbd : rBuild [(.int .u8 0), (.slice none 0 0)] [(0, 1), (1, 1)] [(0, .int .u8 (openR s.held).1.toNat), (1, pv)] = some (.agg [.int .u8 (openR s.held).1.toNat, pv]) := by
        simp [rBuild, aFill, cells_of b2.isCell, cells_int, splice]
      rw [decide_eq_true cg]
      (try simp -dsimp (disch := omega) only [↓pre, sp, sp2, wp_some, Int.cast_ofNat_Int, Nat.reduceAdd, Nat.reduceMul, Nat.reduceSub, Nat.reduceLeDiff, Nat.reduceEqDiff, Nat.reducePow, Int.reduceToNat, Int.reducePow, Int.reduceAdd, Int.reduceSub, Int.reduceMul, Int.reduceLT, Int.reduceLE, Int.reduceEq, Int.reduceNeg, ↓hbd, row_rw g2, a20, a21, hat, er, ha])
      refine wp_store k2.w' g2 rfl rfl (by omega) (by simp only [ic, b2.isCell]) fun h3 k3 n3 g3 => ?_
      have hsp : ∀ j, (splice cs1 (4 + ((s.at_ + s.wait.length) % 8) * 2) [.int .u8 ((openR s.held).1.toNat : Int), pv])[j]? = if j = 4 + ((s.at_ + s.wait.length) % 8) * 2 then some (.int .u8 ((openR s.held).1.toNat : Int)) else if j = 4 + ((s.at_ + s.wait.length) % 8) * 2 + 1 then some pv else cs1[j]? := by
        intro j
        have ho : 4 + ((s.at_ + s.wait.length) % 8) * 2 + 2 ≤ cs1.length := by omega
        generalize 4 + ((s.at_ + s.wait.length) % 8) * 2 = o at ho ⊢
        unfold splice
        by_cases q1 : j < o
        · rw [if_neg (by omega), if_neg (by omega), List.append_assoc, List.getElem?_append_left (by rw [List.length_take]; omega), List.getElem?_take_of_lt q1]
        · rw [List.append_assoc, List.getElem?_append_right (by rw [List.length_take]; omega), List.length_take, Nat.min_eq_left (by omega)]
          by_cases q2 : j = o
          · subst q2; simp
          · by_cases q3 : j = o + 1
            · subst q3; simp
            · rw [if_neg q2, if_neg q3, List.getElem?_append_right (by simp; omega), List.getElem?_drop]
              congr 1
              simp; omega
      have ew3 : ((s.wait.length : Int) + 1) = ((s.wait.length + 1 : Nat) : Int) := by omega
      have b21 : (splice cs1 (4 + ((s.at_ + s.wait.length) % 8) * 2) [.int .u8 ((openR s.held).1.toNat : Int), pv])[21]? = some (.int .i64 s.wait.length) := by rw [hsp, if_neg (by omega), if_neg (by omega)]; exact a21
      have b20 : (splice cs1 (4 + ((s.at_ + s.wait.length) % 8) * 2) [.int .u8 ((openR s.held).1.toNat : Int), pv])[20]? = some (.int .i64 s.at_) := by rw [hsp, if_neg (by omega), if_neg (by omega)]; exact a20
      have bl : (splice cs1 (4 + ((s.at_ + s.wait.length) % 8) * 2) [.int .u8 ((openR s.held).1.toNat : Int), pv]).length = 22 := by rw [splice_len (by simp; omega)]; exact hcl1
      (try simp -dsimp (disch := omega) only [↓pre, sp, sp2, wp_some, Int.cast_ofNat_Int, Nat.reduceAdd, Nat.reduceMul, Nat.reduceSub, Nat.reduceLeDiff, Nat.reduceEqDiff, Nat.reducePow, Int.reduceToNat, Int.reducePow, Int.reduceAdd, Int.reduceSub, Int.reduceMul, Int.reduceLT, Int.reduceLE, Int.reduceEq, Int.reduceNeg, row_rw g3, b20, b21, ew3])
      refine wp_store k3.w' g3 rfl rfl (by omega) rfl fun h4 k4 n4 g4 => ?_
      rw [splice_one _ _ _ (by omega)] at g4
      (try simp -dsimp (disch := omega) only [↓pre, sp, sp2, wp_some, Int.cast_ofNat_Int, Nat.reduceAdd, Nat.reduceMul, Nat.reduceSub, Nat.reduceLeDiff, Nat.reduceEqDiff, Nat.reducePow, Int.reduceToNat, Int.reducePow, Int.reduceAdd, Int.reduceSub, Int.reduceMul, Int.reduceLT, Int.reduceLE, Int.reduceEq, Int.reduceNeg])
      have mp : ∀ i, i = p → F i := fun i hi => by subst hi; exact C.fp
      refine hj _ _ ⟨_, s.wait ++ [((openR s.held).1, (openR s.held).2.1)], ⟨_, g4⟩, (K2.trans (k3.mono mp)).trans (k4.mono mp), by rw [List.length_set]; exact bl, ?_, ?_, ?_, ?_, by simp; omega, ?_, by rw [if_pos cg]⟩
      · rw [List.getElem?_set_ne (by omega), hsp, if_neg (by omega), if_neg (by omega)]; exact a0
      · rw [List.getElem?_set_ne (by omega), hsp, if_neg (by omega), if_neg (by omega)]; exact a1
      · rw [List.getElem?_set_ne (by omega)]; exact b20
      · rw [List.getElem?_set, if_pos rfl, if_pos (by omega), List.length_append]; rfl
      · intro k f hf
        by_cases ck : k < s.wait.length
        · rw [List.getElem?_append_left ck] at hf
          obtain ⟨u, e5, e6, bu, hf0, fu⟩ := ar k f hf
          have hne8 : (s.at_ + k) % 8 ≠ (s.at_ + s.wait.length) % 8 := by omega
          refine ⟨u, ?_, ?_, ((bu.kp k2).keF k3 fun i hi hh => (fu i hi).1 hh).keF k4 fun i hi hh => (fu i hi).1 hh, hf0, fun i hi => ⟨(fu i hi).1, .inl (fu i hi).2.2⟩⟩
          · rw [List.getElem?_set_ne (by omega), hsp, if_neg (by omega), if_neg (by omega)]; exact e5
          · rw [List.getElem?_set_ne (by omega), hsp, if_neg (by omega), if_neg (by omega)]; exact e6
        · have ck' : k = s.wait.length := by
            rcases Nat.lt_or_ge k (s.wait.length + 1) with hh | hh
            · omega
            · rw [List.getElem?_eq_none (by simp; omega)] at hf; cases hf
          subst ck'
          simp only [List.getElem?_append_right (Nat.le_refl _), Nat.sub_self, List.getElem?_cons_zero, Option.some.injEq] at hf
          subst hf
          have hfb : ∀ i, isBk pv i → h.n ≤ i ∧ i < h2.n := fun i hi => ⟨by have := f2 i hi; omega, b2.bk_lt k2.w' (openR_pos cg.1) hi⟩
          refine ⟨pv, ?_, ?_, (b2.keF k3 fun i hi hh => by have := hfb i hi; omega).keF k4 fun i hi hh => by have := hfb i hi; omega, openR_pos cg.1, fun i hi => ⟨by have := hfb i hi; omega, .inr ⟨(hfb i hi).1, by have := hfb i hi; omega⟩⟩⟩
          · rw [List.getElem?_set_ne (by omega), hsp, if_pos rfl]
          · rw [List.getElem?_set_ne (by omega), hsp, if_neg (by omega), if_pos rfl]
    · rw [decide_eq_false cg]
      (try simp -dsimp (disch := omega) only [↓pre, sp, sp2, wp_some, Int.cast_ofNat_Int, Nat.reduceAdd, Nat.reduceMul, Nat.reduceSub, Nat.reduceLeDiff, Nat.reduceEqDiff, Nat.reducePow, Int.reduceToNat, Int.reducePow, Int.reduceAdd, Int.reduceSub, Int.reduceMul, Int.reduceLT, Int.reduceLE, Int.reduceEq, Int.reduceNeg])
      refine hj _ _ ⟨cs1, s.wait, ⟨_, g2⟩, K2, hcl1, a0, a1, a20, a21, C.n8, fun k f hf => ?_, by rw [if_neg cg]⟩
      obtain ⟨u, e5, e6, bu, hf0, fu⟩ := ar k f hf
      exact ⟨u, e5, e6, bu.kp k2, hf0, fun i hi => ⟨(fu i hi).1, .inl (fu i hi).2.2⟩⟩
  · rintro _ h3 ⟨cs3, wt, ⟨par3, g3⟩, K3, l3, d0, d1, d20, d21, n8, rr, ewt⟩
    (try simp -dsimp (disch := omega) only [↓pre, sp, sp2, wp_some, Int.cast_ofNat_Int, Nat.reduceAdd, Nat.reduceMul, Nat.reduceSub, Nat.reduceLeDiff, Nat.reduceEqDiff, Nat.reducePow, Int.reduceToNat, Int.reducePow, Int.reduceAdd, Int.reduceSub, Int.reduceMul, Int.reduceLT, Int.reduceLE, Int.reduceEq, Int.reduceNeg])
    refine wp_store K3.w' g3 rfl rfl (by omega) rfl fun h4 k4 n4 g4 => ?_
    rw [splice_one _ _ _ (by omega)] at g4
    (try simp -dsimp (disch := omega) only [↓pre, sp, sp2, wp_some, Int.cast_ofNat_Int, Nat.reduceAdd, Nat.reduceMul, Nat.reduceSub, Nat.reduceLeDiff, Nat.reduceEqDiff, Nat.reducePow, Int.reduceToNat, Int.reducePow, Int.reduceAdd, Int.reduceSub, Int.reduceMul, Int.reduceLT, Int.reduceLE, Int.reduceEq, Int.reduceNeg])
    refine wp_store k4.w' g4 rfl rfl (by rw [List.length_set]; omega) rfl fun h5 k5 n5 g5 => ?_
    rw [splice_one _ _ _ (by rw [List.length_set]; omega)] at g5
    rw [← ewt]
    exact Wp.ret ⟨rfl, fin cs3 wt h3 ⟨_, g3⟩ K3 l3 d0 d1 d20 d21 n8 rr h4 h5 _ _ k4 n4 g4 k5 n5 g5⟩

/-- The first that waits. -/
def NextL (h h' : AH) (p : Nat) (s : LS) (F : Nat → Prop) (r : AVal) : Prop := Ke F h h' ∧ match s.wait with
  | [] => r = .tuple [.int .u8 0, .slice none 0 0, .bool false] ∧ Lin h' p s (Gr F h h')
  | f :: _ => ∃ u, r = .tuple [.int .u8 f.1.toNat, u, .bool true] ∧ Bs h' u f.2 .rw ∧ Lin h' p (popL s) (Gr F h h')
theorem lnext_spec (H : Plain ov) (n : Nat) (w : Wf h) {s : LS} {F : Nat → Prop} (L : Lin h p s F) :
    Wp (kc ov (n + 1) N_line_Line_Next [.ptr (some (p, 0))] h) fun r h' => NextL h h' p s F r := by
  rw [C_line_Line_Next H]; unfold F_line_Line_Next
  obtain ⟨cs, v, C⟩ := L
  have L : Lin h p s F := ⟨cs, v, C⟩
  obtain ⟨par, g⟩ := C.g
  have hcl := C.l
  have hpn := w.lt _ _ g
  (try simp -dsimp (disch := omega) only [↓pre, sp, sp2, wp_some, Int.cast_ofNat_Int, Nat.reduceAdd, Nat.reduceMul, Nat.reduceSub, Nat.reduceLeDiff, Nat.reduceEqDiff, Nat.reducePow, Int.reduceToNat, Int.reducePow, Int.reduceAdd, Int.reduceSub, Int.reduceMul, Int.reduceLT, Int.reduceLE, Int.reduceEq, Int.reduceNeg, row_rw g, C.c21])
  refine wp_ite (fun c => ?_) (fun c => ?_)
  · have e : s.wait = [] := List.eq_nil_of_length_eq_zero (by omega)
    (try simp -dsimp (disch := omega) only [↓pre, sp, sp2, wp_some, Int.cast_ofNat_Int, Nat.reduceAdd, Nat.reduceMul, Nat.reduceSub, Nat.reduceLeDiff, Nat.reduceEqDiff, Nat.reducePow, Int.reduceToNat, Int.reducePow, Int.reduceAdd, Int.reduceSub, Int.reduceMul, Int.reduceLT, Int.reduceLE, Int.reduceEq, Int.reduceNeg])
    refine ⟨Ke.refl w, ?_⟩
    rw [e]
    exact ⟨rfl, L.grow (fun i hi => .inl hi) fun i hi => by
      rcases hi with hi | hi
      · exact C.fl i hi
      · omega⟩
  obtain ⟨f, fs, ew⟩ : ∃ f fs, s.wait = f :: fs := by
    cases hh : s.wait with
    | nil => rw [hh] at c; simp at c
    | cons f fs => exact ⟨f, fs, rfl⟩
  have hf0 : s.wait[0]? = some f := by rw [ew]; rfl
  obtain ⟨u, e5, e6, bu, hfl, fu⟩ := C.r 0 f hf0
  have C8 := C.at8
  have hm0 : (s.at_ + 0) % 8 = s.at_ := by omega
  rw [hm0] at e5 e6
  have ha : rAtArr 8 2 (.ptr (some (p, 4))) (.int .i64 (s.at_ : Int)) = some (.ptr (some (p, 4 + s.at_ * 2))) := by
    unfold rAtArr
    simp only
    rw [if_pos (by omega), Int.toNat_natCast]
  have hld : rLoadA 2 (.ptr (some (p, 4 + s.at_ * 2))) h = some (.agg [.int .u8 f.1.toNat, u]) := by
    rw [rLoadA_ptr, row_rw g]
    simp only [Option.bind_some]
    rw [if_pos (by omega)]
    congr 2
    rw [List.drop_eq_getElem_cons (by omega), List.drop_eq_getElem_cons (by omega)]
    rw [List.getElem?_eq_getElem (by omega)] at e5 e6
    simp only [Option.some.injEq] at e5 e6
    simp [e5, e6]
  (try simp -dsimp (disch := omega) only [↓pre, sp, sp2, wp_some, Int.cast_ofNat_Int, Nat.reduceAdd, Nat.reduceMul, Nat.reduceSub, Nat.reduceLeDiff, Nat.reduceEqDiff, Nat.reducePow, Int.reduceToNat, Int.reducePow, Int.reduceAdd, Int.reduceSub, Int.reduceMul, Int.reduceLT, Int.reduceLE, Int.reduceEq, Int.reduceNeg, row_rw g, C.c20, ha, hld])
  refine wp_box w rfl (by simp only [ic, bu.isCell]) fun q h1 hq k1 n1 g1 => ?_
  have gp1 := k1.gt g
  have hld1 : rLoadA 2 (.ptr (some (p, 4 + s.at_ * 2))) h1 = some (.agg [.int .u8 f.1.toNat, u]) := by
    rw [← hld, rLoadA_ptr, rLoadA_ptr, row_rw g, row_rw gp1]
  (try simp -dsimp (disch := omega) only [↓pre, sp, sp2, wp_some, Int.cast_ofNat_Int, Nat.reduceAdd, Nat.reduceMul, Nat.reduceSub, Nat.reduceLeDiff, Nat.reduceEqDiff, Nat.reducePow, Int.reduceToNat, Int.reducePow, Int.reduceAdd, Int.reduceSub, Int.reduceMul, Int.reduceLT, Int.reduceLE, Int.reduceEq, Int.reduceNeg, hld1, row_rw gp1, C.c20])
  refine wp_store k1.w' g1 rfl rfl (by simp) (by simp only [ic, bu.isCell]) fun h2 k2 n2 g2 => ?_
  have gp2 := k2.gt gp1 (by omega)
  have hbd : rBuild [(.int .u8 0), (.slice none 0 0)] [(0, 1), (1, 1)] [] = some (.agg [.int .u8 0, .slice none 0 0]) := rfl
  (try simp -dsimp (disch := omega) only [↓pre, sp, sp2, wp_some, Int.cast_ofNat_Int, Nat.reduceAdd, Nat.reduceMul, Nat.reduceSub, Nat.reduceLeDiff, Nat.reduceEqDiff, Nat.reducePow, Int.reduceToNat, Int.reducePow, Int.reduceAdd, Int.reduceSub, Int.reduceMul, Int.reduceLT, Int.reduceLE, Int.reduceEq, Int.reduceNeg, ↓hbd, row_rw gp2, C.c20, ha])
  refine wp_store k2.w' gp2 rfl rfl (by omega) rfl fun h3 k3 n3 g3 => ?_
  have hsp : ∀ j, (splice cs (4 + s.at_ * 2) [.int .u8 0, .slice none 0 0])[j]? = if j = 4 + s.at_ * 2 then some (.int .u8 0) else if j = 4 + s.at_ * 2 + 1 then some (.slice none 0 0) else cs[j]? := by
    intro j
    have ho : 4 + s.at_ * 2 + 2 ≤ cs.length := by omega
    generalize 4 + s.at_ * 2 = o at ho ⊢
    unfold splice
    by_cases q1 : j < o
    · rw [if_neg (by omega), if_neg (by omega), List.append_assoc, List.getElem?_append_left (by rw [List.length_take]; omega), List.getElem?_take_of_lt q1]
    · rw [List.append_assoc, List.getElem?_append_right (by rw [List.length_take]; omega), List.length_take, Nat.min_eq_left (by omega)]
      by_cases q2 : j = o
      · subst q2; simp
      · by_cases q3 : j = o + 1
        · subst q3; simp
        · rw [if_neg q2, if_neg q3, List.getElem?_append_right (by simp; omega), List.getElem?_drop]
          congr 1
          simp; omega
  have b20 : (splice cs (4 + s.at_ * 2) [AVal.int .u8 0, .slice none 0 0])[20]? = some (.int .i64 s.at_) := by rw [hsp, if_neg (by omega), if_neg (by omega)]; exact C.c20
  have b21 : (splice cs (4 + s.at_ * 2) [AVal.int .u8 0, .slice none 0 0])[21]? = some (.int .i64 s.wait.length) := by rw [hsp, if_neg (by omega), if_neg (by omega)]; exact C.c21
  have bl : (splice cs (4 + s.at_ * 2) [AVal.int .u8 0, .slice none 0 0]).length = 22 := by rw [splice_len (by simp; omega)]; exact hcl
  have n8 := C.n8
  have ea : (s.at_ : Int) + 1 = ((s.at_ + 1 : Nat) : Int) := by omega
  have er : Int.tmod ((s.at_ + 1 : Nat) : Int) 8 = (((s.at_ + 1) % 8 : Nat) : Int) := (Int.ofNat_tmod _ 8).symm
  have es : (s.wait.length : Int) - 1 = ((s.wait.length - 1 : Nat) : Int) := by omega
  (try simp -dsimp (disch := omega) only [↓pre, sp, sp2, wp_some, Int.cast_ofNat_Int, Nat.reduceAdd, Nat.reduceMul, Nat.reduceSub, Nat.reduceLeDiff, Nat.reduceEqDiff, Nat.reducePow, Int.reduceToNat, Int.reducePow, Int.reduceAdd, Int.reduceSub, Int.reduceMul, Int.reduceLT, Int.reduceLE, Int.reduceEq, Int.reduceNeg, row_rw g3, b20, b21, ea, er, es])
  refine wp_store k3.w' g3 rfl rfl (by omega) rfl fun h4 k4 n4 g4 => ?_
  rw [splice_one _ _ _ (by omega)] at g4
  (try simp -dsimp (disch := omega) only [↓pre, sp, sp2, wp_some, Int.cast_ofNat_Int, Nat.reduceAdd, Nat.reduceMul, Nat.reduceSub, Nat.reduceLeDiff, Nat.reduceEqDiff, Nat.reducePow, Int.reduceToNat, Int.reducePow, Int.reduceAdd, Int.reduceSub, Int.reduceMul, Int.reduceLT, Int.reduceLE, Int.reduceEq, Int.reduceNeg])
  refine wp_store k4.w' g4 rfl rfl (by rw [List.length_set]; omega) rfl fun h5 k5 n5 g5 => ?_
  rw [splice_one _ _ _ (by rw [List.length_set]; omega)] at g5
  have gq5 := k5.gt (k4.gt (k3.gt g2 (by omega)) (by omega)) (by omega)
  (try simp -dsimp (disch := omega) only [↓pre, sp, sp2, wp_some, Int.cast_ofNat_Int, Nat.reduceAdd, Nat.reduceMul, Nat.reduceSub, Nat.reduceLeDiff, Nat.reduceEqDiff, Nat.reducePow, Int.reduceToNat, Int.reducePow, Int.reduceAdd, Int.reduceSub, Int.reduceMul, Int.reduceLT, Int.reduceLE, Int.reduceEq, Int.reduceNeg, row_rw gq5, splice_def])
  have mp : ∀ i, i = p → F i := fun i hi => by subst hi; exact C.fp
  have K5 : Ke (· = p) h2 h5 := (k3.trans k4).trans k5
  have K2 : Kp h h2 := Ke.new_p k1 k2 fun i hi => by omega
  refine ⟨(Kp.ke K2).trans (K5.mono mp), ?_⟩
  rw [ew]
  have hu5 : ∀ u' (f' : UInt8 × List UInt8), Bs h u' f'.2 .rw → (∀ i, isBk u' i → i ≠ p) → Bs h5 u' f'.2 .rw := fun u' f' b' hp' => (b'.kp K2).keF K5 fun i hi hh => hp' i hi hh
  refine ⟨u, rfl, hu5 u f bu fun i hi => (fu i hi).1, ?_⟩
  refine ⟨_, v, ⟨[], g5⟩, by simp [bl], ?_, ?_, ?_, ?_, ?_, ?_, (C.o.kp K2).ke K5 fun i hi hh => (C.vp i hi).1 hh, fun i hi => ⟨(C.vp i hi).1, .inl (C.vp i hi).2⟩, Nat.mod_lt _ (by omega), ?_, C.hl, fun k f' hf' => ?_, .inl C.fp, fun i hi => ?_⟩
  · rw [List.getElem?_set_ne (by omega), List.getElem?_set_ne (by omega), hsp, if_neg (by omega), if_neg (by omega)]; exact C.c0
  · rw [List.getElem?_set_ne (by omega), List.getElem?_set_ne (by omega), hsp, if_neg (by omega), if_neg (by omega)]; exact C.c1
  · rw [List.getElem?_set_ne (by omega), List.getElem?_set_ne (by omega), hsp, if_neg (by omega), if_neg (by omega)]; exact C.c2
  · rw [List.getElem?_set_ne (by omega), List.getElem?_set_ne (by omega), hsp, if_neg (by omega), if_neg (by omega)]; exact C.c3
  · rw [List.getElem?_set_ne (by omega), List.getElem?_set, if_pos rfl, if_pos (by omega)]; rfl
  · rw [List.getElem?_set, if_pos rfl, if_pos (by rw [List.length_set]; omega)]
    simp [popL]
  · simp [popL]; omega
  · have hf2 : s.wait[k + 1]? = some f' := by
      have e : (popL s).wait = fs := by simp [popL, ew]
      rw [e] at hf'
      rw [ew]; simpa using hf'
    obtain ⟨u', e5', e6', bu', hf0', fu'⟩ := C.r (k + 1) f' hf2
    have hkl : k + 1 < s.wait.length := by
      rcases Nat.lt_or_ge (k + 1) s.wait.length with hh | hh
      · exact hh
      · rw [List.getElem?_eq_none hh] at hf2; cases hf2
    have hmod : ((popL s).at_ + k) % 8 = (s.at_ + (k + 1)) % 8 := by simp only [popL]; omega
    have hne8 : (s.at_ + (k + 1)) % 8 ≠ s.at_ := by omega
    refine ⟨u', ?_, ?_, hu5 u' f' bu' fun i hi => (fu' i hi).1, hf0', fun i hi => ⟨(fu' i hi).1, (fu' i hi).2.1, .inl (fu' i hi).2.2⟩⟩
    · rw [hmod, List.getElem?_set_ne (by omega), List.getElem?_set_ne (by omega), hsp, if_neg (by omega), if_neg (by omega)]; exact e5'
    · rw [hmod, List.getElem?_set_ne (by omega), List.getElem?_set_ne (by omega), hsp, if_neg (by omega), if_neg (by omega)]; exact e6'
  · rcases hi with hi | hi
    · have := C.fl i hi; have := K2.n; have := K5.n; omega
    · exact hi.2
end Go.Proofs.Ytpbkgmcpelhlpaa.AI
