/- mbap: what its functions come to. -/
import Derived.Test.YtoioieophambhaaHelp
namespace Go.Proofs.Ytoioieophambhaa.AI
open Go
set_option linter.unusedSimpArgs false
set_option linter.unusedVariables false
variable {ov : AOver} {h : AH} {v : AVal} {md : AMode}

theorem clone_spec (H : Plain ov) (n : Nat) (w : Wf h) {l : List UInt8} (s : Bs h v l md) (hl : l.length ≤ 2 ^ 40) :
    Wp (kc ov (n + 1) N_slices_Clone___byte_byte_ [v] h) fun r h' => Kp h h' ∧ Ob h' r l ∧ Fresh h r := by
  rw [C_slices_Clone___byte_byte_ H]
  have key : ∀ a cap, v = .slice (some a) l.length cap → Wp (F_slices_Clone___byte_byte_ (kc ov n) (kd ov n) v h) fun r h' => Kp h h' ∧ Ob h' r l ∧ Fresh h r := by
    rintro a cap rfl
    have hb : rBin .eql .slice true (.slice (some a) l.length cap) (.slice none 0 0) = some (.bool false) := by simp [rBin, rEq]
    simp -dsimp (disch := omega) only [↓pre, sp, wp_some, Int.cast_ofNat_Int, Nat.reduceAdd, Nat.reduceMul, Nat.reduceSub, Nat.reduceLeDiff, Nat.reduceEqDiff, Nat.reducePow, Int.reduceToNat, Int.reducePow, Int.reduceAdd, Int.reduceSub, Int.reduceMul, Int.reduceLT, Int.reduceLE, Int.reduceEq, Int.reduceNeg, F_slices_Clone___byte_byte_, hb]
    have k1 := Kp.push0 w (.row [] T_uint8 false) .rw
    have hm : ∀ K, kM (mBuildSl T_uint8 1 [(.int .u8 0)] 0 []) h K = K (.slice (some (h.n, 0, 1)) 0 0) (h.push ⟨.row [] T_uint8 false, .rw, []⟩) := fun K => rfl
    rw [hm]
    have o1 : Ow (h.push ⟨.row [] T_uint8 false, .rw, []⟩) (.slice (some (h.n, 0, 1)) 0 0) T_uint8 1 0 [] := Ow.new (o := false) (p := []) (by simp) (by omega) 0 rfl rfl
    refine wp_append k1.w' o1 (s.kp k1) (isCell_bytes l) (by omega) (by omega) fun v' h' o k f => ?_
    simp -dsimp (disch := omega) only [↓pre, sp, wp_some, Int.cast_ofNat_Int, Nat.reduceAdd, Nat.reduceMul, Nat.reduceSub, Nat.reduceLeDiff, Nat.reduceEqDiff, Nat.reducePow, Int.reduceToNat, Int.reducePow, Int.reduceAdd, Int.reduceSub, Int.reduceMul, Int.reduceLT, Int.reduceLE, Int.reduceEq, Int.reduceNeg]
    refine ⟨Ke.new_p k1 k (fun i hi => by simp only [isBk] at hi; omega), by simpa using o, fun i hi => ?_⟩
    rcases f i hi with f | f
    · simp only [isBk] at f; omega
    · simp at f; omega
  have s0 := s
  obtain ⟨a, cap, rfl, h1, h2, h3, h4⟩ := s
  rcases h4 with ⟨rfl, h4, rfl⟩ | ⟨i, off, rfl, h4, _⟩ | ⟨i, off, rfl, _⟩
  · have : l = [] := List.eq_nil_of_length_eq_zero h4
    subst this
    have hb : rBin .eql .slice true (.slice none 0 0) (.slice none 0 0) = some (.bool true) := by simp [rBin, rEq]
    simp -dsimp (disch := omega) only [↓pre, sp, wp_some, Int.cast_ofNat_Int, Nat.reduceAdd, Nat.reduceMul, Nat.reduceSub, Nat.reduceLeDiff, Nat.reduceEqDiff, Nat.reducePow, Int.reduceToNat, Int.reducePow, Int.reduceAdd, Int.reduceSub, Int.reduceMul, Int.reduceLT, Int.reduceLE, Int.reduceEq, Int.reduceNeg, F_slices_Clone___byte_byte_, hb]
    exact ⟨Ke.refl w, Ow.nil h _ _ (by omega), fun i hi => hi.elim⟩
  · exact key _ _ rfl
  · exact key _ _ rfl

/-- What bytes begin with: identifier, unit, PDU; how many bytes; an error. -/
def openM (l : List UInt8) : Nat × Nat × List UInt8 × Nat × Nat :=
  if l.length < 6 then (0, 0, [], 0, 0) else
  if gb l 2 ≠ 0 ∨ gb l 3 ≠ 0 then (0, 0, [], 0, 41) else
  if gb l 4 * 256 + gb l 5 < 2 ∨ 254 < gb l 4 * 256 + gb l 5 then (0, 0, [], 0, 40) else
  if l.length < 6 + (gb l 4 * 256 + gb l 5) then (0, 0, [], 0, 0) else
  (gb l 0 * 256 + gb l 1, gb l 6, (l.take (6 + (gb l 4 * 256 + gb l 5))).drop 7, 6 + (gb l 4 * 256 + gb l 5), 0)
/-- The frame, how many, an error. -/
def OpenQ (h h' : AH) (r : AVal) (o : Nat × Nat × List UInt8 × Nat × Nat) : Prop :=
  Kp h h' ∧ ∃ p, r = .tuple [.agg [.int .u16 o.1, .int .u8 o.2.1, p], .int .i64 o.2.2.2.1, .int .i64 o.2.2.2.2] ∧ Bs h' p o.2.2.1 .rw

theorem open_spec (H : Plain ov) (n : Nat) (w : Wf h) {l : List UInt8} (s : Bs h v l md) (hl : l.length ≤ 2 ^ 40) :
    Wp (kc ov (n + 2) N_mbap_Open [v] h) fun r h' => OpenQ h h' r (openM l) := by
  rw [C_mbap_Open H]; unfold F_mbap_Open
  refine wp_box w rfl rfl fun p h1 hp k1 n1 g1 => ?_
  have s1 := s.kp k1
  -- where nothing, or an error, is told
  have bad : ∀ (h2 : AH) (e : Nat) (K : AVal → AH → Ans), Kp h h2 → h2.get p = h1.get p → (∀ h3 v, h3.row p = some [.int .u16 0, .int .u8 0, .slice none 0 0] → K v h3 = some (.tuple [.agg [.int .u16 0, .int .u8 0, .slice none 0 0], .int .i64 0, .int .i64 e], h3)) →
      Wp (kE ((rStore 3 (.ptr (some (p, 0))) (.agg [.int .u16 0, .int .u8 0, .slice none 0 0]) h2).map fun h' => (.tuple [], h')) K) fun r h' => OpenQ h h' r (0, 0, [], 0, e) := by
    intro h2 e K k2 e2 hK
    rw [g1] at e2
    refine wp_store k2.w' e2 rfl rfl (by decide) rfl fun h3 k3 n3 g3 => ?_
    rw [hK h3 _ (row_rw g3)]
    exact Wp.ret ⟨Ke.new_p k2 k3 (fun i hi => by omega), _, rfl, Sz.nil _ _ (by omega) _⟩
  simp -dsimp (disch := omega) only [↓pre, sp, wp_some, Int.cast_ofNat_Int, Nat.reduceAdd, Nat.reduceMul, Nat.reduceSub, Nat.reduceLeDiff, Nat.reduceEqDiff, Nat.reducePow, Int.reduceToNat, Int.reducePow, Int.reduceAdd, Int.reduceSub, Int.reduceMul, Int.reduceLT, Int.reduceLE, Int.reduceEq, Int.reduceNeg, s1.len]
  refine wp_ite (fun c => ?_) (fun c => ?_)
  · have : openM l = (0, 0, [], 0, 0) := by unfold openM; rw [if_pos (by omega)]
    rw [this]
    exact bad h1 0 _ k1 rfl fun h3 v r => by simp -dsimp (disch := omega) only [↓pre, sp, wp_some, Int.cast_ofNat_Int, Nat.reduceAdd, Nat.reduceMul, Nat.reduceSub, Nat.reduceLeDiff, Nat.reduceEqDiff, Nat.reducePow, Int.reduceToNat, Int.reducePow, Int.reduceAdd, Int.reduceSub, Int.reduceMul, Int.reduceLT, Int.reduceLE, Int.reduceEq, Int.reduceNeg, r]; try rfl
  have h0 := gb_lt l 0; have h1' := gb_lt l 1; have h2' := gb_lt l 2; have h3' := gb_lt l 3; have h4 := gb_lt l 4; have h5 := gb_lt l 5; have h6 := gb_lt l 6
  simp -dsimp (disch := omega) only [↓pre, sp, wp_some, Int.cast_ofNat_Int, Nat.reduceAdd, Nat.reduceMul, Nat.reduceSub, Nat.reduceLeDiff, Nat.reduceEqDiff, Nat.reducePow, Int.reduceToNat, Int.reducePow, Int.reduceAdd, Int.reduceSub, Int.reduceMul, Int.reduceLT, Int.reduceLE, Int.reduceEq, Int.reduceNeg, s1.at, s1.ldb]
  refine wp_kT (.bool (decide (gb l 2 ≠ 0 ∨ gb l 3 ≠ 0))) (fun j hj => ?_) ?_
  · by_cases c2 : (gb l 2 : Int) = 0
    · have e2 : gb l 2 = 0 := by omega
      simp -dsimp (disch := omega) only [↓pre, sp, wp_some, Int.cast_ofNat_Int, Nat.reduceAdd, Nat.reduceMul, Nat.reduceSub, Nat.reduceLeDiff, Nat.reduceEqDiff, Nat.reducePow, Int.reduceToNat, Int.reducePow, Int.reduceAdd, Int.reduceSub, Int.reduceMul, Int.reduceLT, Int.reduceLE, Int.reduceEq, Int.reduceNeg, c2, s1.at, s1.ldb, Int.reduceToNat, ne_eq, not_true_eq_false, decide_false]
      simpa [e2] using hj
    · have e2 : ¬ gb l 2 = 0 := by omega
      simp -dsimp (disch := omega) only [↓pre, sp, wp_some, Int.cast_ofNat_Int, Nat.reduceAdd, Nat.reduceMul, Nat.reduceSub, Nat.reduceLeDiff, Nat.reduceEqDiff, Nat.reducePow, Int.reduceToNat, Int.reducePow, Int.reduceAdd, Int.reduceSub, Int.reduceMul, Int.reduceLT, Int.reduceLE, Int.reduceEq, Int.reduceNeg, c2, ne_eq, not_false_eq_true, decide_true]
      simpa [e2] using hj
  simp -dsimp (disch := omega) only [↓pre, sp, wp_some, Int.cast_ofNat_Int, Nat.reduceAdd, Nat.reduceMul, Nat.reduceSub, Nat.reduceLeDiff, Nat.reduceEqDiff, Nat.reducePow, Int.reduceToNat, Int.reducePow, Int.reduceAdd, Int.reduceSub, Int.reduceMul, Int.reduceLT, Int.reduceLE, Int.reduceEq, Int.reduceNeg]
  refine wp_ite (fun c2 => ?_) (fun c2 => ?_)
  · have : openM l = (0, 0, [], 0, 41) := by unfold openM; rw [if_neg (by omega), if_pos c2]
    rw [this]
    exact bad h1 41 _ k1 rfl fun h3 v r => by simp -dsimp (disch := omega) only [↓pre, sp, wp_some, Int.cast_ofNat_Int, Nat.reduceAdd, Nat.reduceMul, Nat.reduceSub, Nat.reduceLeDiff, Nat.reduceEqDiff, Nat.reducePow, Int.reduceToNat, Int.reducePow, Int.reduceAdd, Int.reduceSub, Int.reduceMul, Int.reduceLT, Int.reduceLE, Int.reduceEq, Int.reduceNeg, r]; try rfl
  refine wp_kT (.bool (decide (gb l 4 * 256 + gb l 5 < 2 ∨ 254 < gb l 4 * 256 + gb l 5))) (fun j hj => ?_) ?_
  · by_cases c3 : (gb l 4 : Int) * 256 + gb l 5 < 2
    · simp -dsimp (disch := omega) only [↓pre, sp, wp_some, Int.cast_ofNat_Int, Nat.reduceAdd, Nat.reduceMul, Nat.reduceSub, Nat.reduceLeDiff, Nat.reduceEqDiff, Nat.reducePow, Int.reduceToNat, Int.reducePow, Int.reduceAdd, Int.reduceSub, Int.reduceMul, Int.reduceLT, Int.reduceLE, Int.reduceEq, Int.reduceNeg, c3, decide_true]
      have e3 : gb l 4 * 256 + gb l 5 < 2 := by omega
      simpa [e3] using hj
    · simp -dsimp (disch := omega) only [↓pre, sp, wp_some, Int.cast_ofNat_Int, Nat.reduceAdd, Nat.reduceMul, Nat.reduceSub, Nat.reduceLeDiff, Nat.reduceEqDiff, Nat.reducePow, Int.reduceToNat, Int.reducePow, Int.reduceAdd, Int.reduceSub, Int.reduceMul, Int.reduceLT, Int.reduceLE, Int.reduceEq, Int.reduceNeg, c3, decide_false]
      have e3 : ¬ gb l 4 * 256 + gb l 5 < 2 := by omega
      have e4 : ((gb l 4 : Int) * 256 + gb l 5 > 254) ↔ 254 < gb l 4 * 256 + gb l 5 := by omega
      simpa [e3, e4] using hj
  simp -dsimp (disch := omega) only [↓pre, sp, wp_some, Int.cast_ofNat_Int, Nat.reduceAdd, Nat.reduceMul, Nat.reduceSub, Nat.reduceLeDiff, Nat.reduceEqDiff, Nat.reducePow, Int.reduceToNat, Int.reducePow, Int.reduceAdd, Int.reduceSub, Int.reduceMul, Int.reduceLT, Int.reduceLE, Int.reduceEq, Int.reduceNeg, s1.len]
  refine wp_ite (fun c3 => ?_) (fun c3 => ?_)
  · have : openM l = (0, 0, [], 0, 40) := by unfold openM; rw [if_neg (by omega), if_neg c2, if_pos c3]
    rw [this]
    exact bad h1 40 _ k1 rfl fun h3 v r => by simp -dsimp (disch := omega) only [↓pre, sp, wp_some, Int.cast_ofNat_Int, Nat.reduceAdd, Nat.reduceMul, Nat.reduceSub, Nat.reduceLeDiff, Nat.reduceEqDiff, Nat.reducePow, Int.reduceToNat, Int.reducePow, Int.reduceAdd, Int.reduceSub, Int.reduceMul, Int.reduceLT, Int.reduceLE, Int.reduceEq, Int.reduceNeg, r]; try rfl
  refine wp_ite (fun c4 => ?_) (fun c4 => ?_)
  · have : openM l = (0, 0, [], 0, 0) := by unfold openM; rw [if_neg (by omega), if_neg c2, if_neg c3, if_pos (by omega)]
    rw [this]
    exact bad h1 0 _ k1 rfl fun h3 v r => by simp -dsimp (disch := omega) only [↓pre, sp, wp_some, Int.cast_ofNat_Int, Nat.reduceAdd, Nat.reduceMul, Nat.reduceSub, Nat.reduceLeDiff, Nat.reduceEqDiff, Nat.reducePow, Int.reduceToNat, Int.reducePow, Int.reduceAdd, Int.reduceSub, Int.reduceMul, Int.reduceLT, Int.reduceLE, Int.reduceEq, Int.reduceNeg, r]; try rfl
  have ho : openM l = (gb l 0 * 256 + gb l 1, gb l 6, (l.take (6 + (gb l 4 * 256 + gb l 5))).drop 7, 6 + (gb l 4 * 256 + gb l 5), 0) := by
    unfold openM; rw [if_neg (by omega), if_neg c2, if_neg c3, if_neg (by omega)]
  rw [ho]
  obtain ⟨v', e1, s', _⟩ := s1.cut3 (p := .i64) (q := .i64) (r := .i64) (a := 7) (b := 6 + ((gb l 4 : Int) * 256 + gb l 5)) (by omega) (by omega) (by omega)
  simp -dsimp (disch := omega) only [↓pre, sp, wp_some, Int.cast_ofNat_Int, Nat.reduceAdd, Nat.reduceMul, Nat.reduceSub, Nat.reduceLeDiff, Nat.reduceEqDiff, Nat.reducePow, Int.reduceToNat, Int.reducePow, Int.reduceAdd, Int.reduceSub, Int.reduceMul, Int.reduceLT, Int.reduceLE, Int.reduceEq, Int.reduceNeg, s1.at, s1.ldb, e1]
  have s2 : Bs h1 v' ((l.take (6 + (gb l 4 * 256 + gb l 5))).drop 7) md := s'.to (by rw [bytesOf_take, bytesOf_drop]; congr 2; congr 1; omega) (by simp; omega)
  refine Wp.bind (clone_spec H n k1.w' s2 (by simp; omega)) fun v2 h7 ⟨k7, o7, f7⟩ => ?_
  have s7 := s1.kp k7
  have g7 := k7.gt g1
  simp -dsimp (disch := omega) only [↓pre, sp, wp_some, Int.cast_ofNat_Int, Nat.reduceAdd, Nat.reduceMul, Nat.reduceSub, Nat.reduceLeDiff, Nat.reduceEqDiff, Nat.reducePow, Int.reduceToNat, Int.reducePow, Int.reduceAdd, Int.reduceSub, Int.reduceMul, Int.reduceLT, Int.reduceLE, Int.reduceEq, Int.reduceNeg, cells_of o7.isCell, splice_def, s7.ldb]
  refine wp_store k7.w' g7 rfl rfl (by decide) (by simp only [ic, o7.isCell]) fun h8 k8 n8 g8 => ?_
  simp -dsimp (disch := omega) only [↓pre, sp, wp_some, Int.cast_ofNat_Int, Nat.reduceAdd, Nat.reduceMul, Nat.reduceSub, Nat.reduceLeDiff, Nat.reduceEqDiff, Nat.reducePow, Int.reduceToNat, Int.reducePow, Int.reduceAdd, Int.reduceSub, Int.reduceMul, Int.reduceLT, Int.reduceLE, Int.reduceEq, Int.reduceNeg, row_rw g8, splice_def]
  have hn8 : h.n ≤ p := by omega
  refine ⟨Ke.new_p (k1.trans k7) k8 (fun i hi => by omega), v2, by simp, ?_⟩
  exact (o7.ke k8 fun i hi e => by have := f7 i hi; omega).rd

/-- The bytes ahead of a frame's own. -/
def headOf (id un n : Nat) : List UInt8 := [UInt8.ofNat (id / 256), UInt8.ofNat (id % 256), 0, 0, UInt8.ofNat (n / 256), UInt8.ofNat (n % 256), UInt8.ofNat un]
/-- A frame's bytes, an error. -/
def WriteQ (h h' : AH) (r : AVal) (id un : Nat) (l : List UInt8) : Prop :=
  Kp h h' ∧ if l.length < 1 ∨ 253 < l.length then r = .tuple [.slice none 0 0, .int .i64 41] else ∃ v, r = .tuple [v, .int .i64 0] ∧ Ob h' v (headOf id un (l.length + 1) ++ l) ∧ Fresh h v
theorem lo8 (n : Nat) : IntKind.wrap .u8 (n : Int) = ((UInt8.ofNat (n % 256)).toNat : Int) := by
  rw [IntKind.wrap_u8]; simp
theorem head_cells {id un n : Nat} (hun : un < 256) : bytesOf (headOf id un n) = [.int .u8 ((UInt8.ofNat (id / 256)).toNat : Int), .int .u8 ((UInt8.ofNat (id % 256)).toNat : Int), .int .u8 0, .int .u8 0, .int .u8 ((UInt8.ofNat (n / 256)).toNat : Int), .int .u8 ((UInt8.ofNat (n % 256)).toNat : Int), .int .u8 un] := by
  simp [bytesOf, headOf]; omega
theorem write_spec (H : Plain ov) (n : Nat) (w : Wf h) {l : List UInt8} {id un : Nat} (hid : id < 65536) (hun : un < 256) (s : Bs h v l md) :
    Wp (kc ov (n + 1) N_mbap_Write [.agg [.int .u16 id, .int .u8 un, v]] h) fun r h' => WriteQ h h' r id un l := by
  rw [C_mbap_Write H]; unfold F_mbap_Write
  refine wp_box w rfl (by simp only [ic, s.isCell]) fun p h1 hp k1 n1 g1 => ?_
  have s1 := s.kp k1
  simp -dsimp (disch := omega) only [↓pre, sp, wp_some, Int.cast_ofNat_Int, Nat.reduceAdd, Nat.reduceMul, Nat.reduceSub, Nat.reduceLeDiff, Nat.reduceEqDiff, Nat.reducePow, Int.reduceToNat, Int.reducePow, Int.reduceAdd, Int.reduceSub, Int.reduceMul, Int.reduceLT, Int.reduceLE, Int.reduceEq, Int.reduceNeg, row_rw g1, s1.len]
  refine wp_kT (.bool (decide (l.length < 1 ∨ 253 < l.length))) (fun j hj => ?_) ?_
  · by_cases c : (l.length : Int) < 1
    · simp -dsimp (disch := omega) only [↓pre, sp, wp_some, Int.cast_ofNat_Int, Nat.reduceAdd, Nat.reduceMul, Nat.reduceSub, Nat.reduceLeDiff, Nat.reduceEqDiff, Nat.reducePow, Int.reduceToNat, Int.reducePow, Int.reduceAdd, Int.reduceSub, Int.reduceMul, Int.reduceLT, Int.reduceLE, Int.reduceEq, Int.reduceNeg, c, decide_true]; simpa [show l.length < 1 by omega] using hj
    · simp -dsimp (disch := omega) only [↓pre, sp, wp_some, Int.cast_ofNat_Int, Nat.reduceAdd, Nat.reduceMul, Nat.reduceSub, Nat.reduceLeDiff, Nat.reduceEqDiff, Nat.reducePow, Int.reduceToNat, Int.reducePow, Int.reduceAdd, Int.reduceSub, Int.reduceMul, Int.reduceLT, Int.reduceLE, Int.reduceEq, Int.reduceNeg, c, decide_false, row_rw g1, s1.len]
      have e : ((l.length : Int) > 253) ↔ 253 < l.length := by omega
      have e2 : ¬ l.length < 1 := by omega
      simpa only [e, e2, false_or] using hj
  simp -dsimp (disch := omega) only [↓pre, sp, wp_some, Int.cast_ofNat_Int, Nat.reduceAdd, Nat.reduceMul, Nat.reduceSub, Nat.reduceLeDiff, Nat.reduceEqDiff, Nat.reducePow, Int.reduceToNat, Int.reducePow, Int.reduceAdd, Int.reduceSub, Int.reduceMul, Int.reduceLT, Int.reduceLE, Int.reduceEq, Int.reduceNeg, row_rw g1, s1.len]
  refine wp_ite (fun c => ?_) (fun c => ?_)
  · simp -dsimp (disch := omega) only [↓pre, sp, wp_some, Int.cast_ofNat_Int, Nat.reduceAdd, Nat.reduceMul, Nat.reduceSub, Nat.reduceLeDiff, Nat.reduceEqDiff, Nat.reducePow, Int.reduceToNat, Int.reducePow, Int.reduceAdd, Int.reduceSub, Int.reduceMul, Int.reduceLT, Int.reduceLE, Int.reduceEq, Int.reduceNeg]
    exact ⟨k1, by rw [if_pos c]⟩
  have a1 := lo8 id
  simp -dsimp (disch := omega) only [↓pre, sp, wp_some, Int.cast_ofNat_Int, Nat.reduceAdd, Nat.reduceMul, Nat.reduceSub, Nat.reduceLeDiff, Nat.reduceEqDiff, Nat.reducePow, Int.reduceToNat, Int.reducePow, Int.reduceAdd, Int.reduceSub, Int.reduceMul, Int.reduceLT, Int.reduceLE, Int.reduceEq, Int.reduceNeg, row_rw g1, s1.len, a1]
  have hd := head_cells (id := id) (n := l.length + 1) hun
  have b1 : ((UInt8.ofNat (id / 256)).toNat : Int) = (id : Int) / 256 := by simp; omega
  have b2 : ((UInt8.ofNat ((l.length + 1) / 256)).toNat : Int) = ((l.length : Int) + 1) / 256 := by simp; omega
  have b3 : ((UInt8.ofNat ((l.length + 1) % 256)).toNat : Int) = (l.length : Int) + 1 := by simp; omega
  rw [b1, b2, b3] at hd
  refine wp_buildSl (cs := bytesOf (headOf id un (l.length + 1))) k1.w' ⟨by decide, rfl, by decide⟩ (by rw [hd]; rfl) (isCell_bytes _) fun q h2 hq k2 n2 g2 => ?_
  have g1' := k2.gt g1
  simp -dsimp (disch := omega) only [↓pre, sp, wp_some, Int.cast_ofNat_Int, Nat.reduceAdd, Nat.reduceMul, Nat.reduceSub, Nat.reduceLeDiff, Nat.reduceEqDiff, Nat.reducePow, Int.reduceToNat, Int.reducePow, Int.reduceAdd, Int.reduceSub, Int.reduceMul, Int.reduceLT, Int.reduceLE, Int.reduceEq, Int.reduceNeg, row_rw g1']
  have o2 : Ob h2 (.slice (some (q, 0, 1)) 7 7) (headOf id un (l.length + 1)) := Ow.new g2 (by omega) 7 rfl (isCell_bytes _)
  refine wp_append k2.w' o2 (s1.kp k2) (isCell_bytes l) (by omega) (by simp [headOf]; omega) fun v' h' o k f => ?_
  simp -dsimp (disch := omega) only [↓pre, sp, wp_some, Int.cast_ofNat_Int, Nat.reduceAdd, Nat.reduceMul, Nat.reduceSub, Nat.reduceLeDiff, Nat.reduceEqDiff, Nat.reducePow, Int.reduceToNat, Int.reducePow, Int.reduceAdd, Int.reduceSub, Int.reduceMul, Int.reduceLT, Int.reduceLE, Int.reduceEq, Int.reduceNeg]
  rw [← bytesOf_append] at o
  refine ⟨Ke.new_p (k1.trans k2) k (fun i hi => by simp only [isBk] at hi; omega), ?_⟩
  rw [if_neg c]
  refine ⟨v', rfl, o.to rfl (by simp), fun i hi => ?_⟩
  rcases f i hi with f | f
  · simp only [isBk] at f; omega
  · omega
end Go.Proofs.Ytoioieophambhaa.AI
