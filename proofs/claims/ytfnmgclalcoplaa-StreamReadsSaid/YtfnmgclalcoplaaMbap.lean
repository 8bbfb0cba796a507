/- mbap: what its functions come to. -/
import Derived.Test.YtfnmgclalcoplaaClone
namespace Go.Proofs.Ytfnmgclalcoplaa.AI
open Go
set_option linter.unusedSimpArgs false
set_option linter.unusedVariables false
variable {ov : AOver} {h : AH} {v : AVal} {md : AMode}

/-- What bytes begin with: identifier, unit, PDU; how many bytes; an error. -/
def openM (l : List UInt8) : Nat × Nat × List UInt8 × Nat × Nat :=
  if l.length < 6 then (0, 0, [], 0, 0) else
  if gb l 2 ≠ 0 ∨ gb l 3 ≠ 0 then (0, 0, [], 0, 41) else
  if gb l 4 * 256 + gb l 5 < 2 ∨ 254 < gb l 4 * 256 + gb l 5 then (0, 0, [], 0, 40) else
  if l.length < 6 + (gb l 4 * 256 + gb l 5) then (0, 0, [], 0, 0) else
  (gb l 0 * 256 + gb l 1, gb l 6, (l.take (6 + (gb l 4 * 256 + gb l 5))).drop 7, 6 + (gb l 4 * 256 + gb l 5), 0)
/-- The frame, how many, an error. -/
def OpenQ (h h' : AH) (r : AVal) (o : Nat × Nat × List UInt8 × Nat × Nat) : Prop :=
  Kp h h' ∧ ∃ p, r = .tuple [.agg [.int .u16 o.1, .int .u8 o.2.1, p], .int .i64 o.2.2.2.1, .int .i64 o.2.2.2.2] ∧ Bs h' p o.2.2.1 .rw
/-- The same; the PDU's block was not there. -/
def OpenF (h h' : AH) (r : AVal) (o : Nat × Nat × List UInt8 × Nat × Nat) : Prop :=
  Kp h h' ∧ ∃ p, r = .tuple [.agg [.int .u16 o.1, .int .u8 o.2.1, p], .int .i64 o.2.2.2.1, .int .i64 o.2.2.2.2] ∧ Bs h' p o.2.2.1 .rw ∧ Fresh h p

theorem open_specF (H : Plain ov) (n : Nat) (w : Wf h) {l : List UInt8} (s : Bs h v l md) (hl : l.length ≤ 2 ^ 40) :
    Wp (kc ov (n + 2) N_mbap_Open [v] h) fun r h' => OpenF h h' r (openM l) := by
  rw [C_mbap_Open H]; unfold F_mbap_Open
  refine wp_box w rfl rfl fun p h1 hp k1 n1 g1 => ?_
  have s1 := s.kp k1
  -- where nothing, or an error, is told
  have bad : ∀ (h2 : AH) (e : Nat) (K : AVal → AH → Ans), Kp h h2 → h2.get p = h1.get p → (∀ h3 v, h3.row p = some [.int .u16 0, .int .u8 0, .slice none 0 0] → K v h3 = some (.tuple [.agg [.int .u16 0, .int .u8 0, .slice none 0 0], .int .i64 0, .int .i64 e], h3)) →
      Wp (ke ((rStore 3 (.ptr (some (p, 0))) (.agg [.int .u16 0, .int .u8 0, .slice none 0 0]) h2).map fun h' => (.tuple [], h')) K) fun r h' => OpenF h h' r (0, 0, [], 0, e) := by
    intro h2 e K k2 e2 hK
    rw [g1] at e2
    refine wp_store k2.w' e2 rfl rfl (by decide) rfl fun h3 k3 n3 g3 => ?_
    rw [hK h3 _ (row_rw g3)]
    exact Wp.ret ⟨Ke.new_p k2 k3 (fun i hi => by omega), _, rfl, Sz.nil _ _ (by omega) _, fun i hi => hi.elim⟩
  simp -dsimp (disch := omega) only [↓pre, sp, sp2, wp_some, Int.cast_ofNat_Int, Nat.reduceAdd, Nat.reduceMul, Nat.reduceSub, Nat.reduceLeDiff, Nat.reduceEqDiff, Nat.reducePow, Int.reduceToNat, Int.reducePow, Int.reduceAdd, Int.reduceSub, Int.reduceMul, Int.reduceLT, Int.reduceLE, Int.reduceEq, Int.reduceNeg, s1.len]
  refine wp_ite (fun c => ?_) (fun c => ?_)
  · have : openM l = (0, 0, [], 0, 0) := by unfold openM; rw [if_pos (by omega)]
    rw [this]
    exact bad h1 0 _ k1 rfl fun h3 v r => by simp -dsimp (disch := omega) only [↓pre, sp, sp2, wp_some, Int.cast_ofNat_Int, Nat.reduceAdd, Nat.reduceMul, Nat.reduceSub, Nat.reduceLeDiff, Nat.reduceEqDiff, Nat.reducePow, Int.reduceToNat, Int.reducePow, Int.reduceAdd, Int.reduceSub, Int.reduceMul, Int.reduceLT, Int.reduceLE, Int.reduceEq, Int.reduceNeg, r]; try rfl
  have h0 := gb_lt l 0; have h1' := gb_lt l 1; have h2' := gb_lt l 2; have h3' := gb_lt l 3; have h4 := gb_lt l 4; have h5 := gb_lt l 5; have h6 := gb_lt l 6
  simp -dsimp (disch := omega) only [↓pre, sp, sp2, wp_some, Int.cast_ofNat_Int, Nat.reduceAdd, Nat.reduceMul, Nat.reduceSub, Nat.reduceLeDiff, Nat.reduceEqDiff, Nat.reducePow, Int.reduceToNat, Int.reducePow, Int.reduceAdd, Int.reduceSub, Int.reduceMul, Int.reduceLT, Int.reduceLE, Int.reduceEq, Int.reduceNeg, s1.at, s1.ldb]
  refine wp_kT (.bool (decide (gb l 2 ≠ 0 ∨ gb l 3 ≠ 0))) (fun j hj => ?_) ?_
  · by_cases c2 : (gb l 2 : Int) = 0
    · have e2 : gb l 2 = 0 := by omega
      simp -dsimp (disch := omega) only [↓pre, sp, sp2, wp_some, Int.cast_ofNat_Int, Nat.reduceAdd, Nat.reduceMul, Nat.reduceSub, Nat.reduceLeDiff, Nat.reduceEqDiff, Nat.reducePow, Int.reduceToNat, Int.reducePow, Int.reduceAdd, Int.reduceSub, Int.reduceMul, Int.reduceLT, Int.reduceLE, Int.reduceEq, Int.reduceNeg, c2, s1.at, s1.ldb, Int.reduceToNat, ne_eq, not_true_eq_false, decide_false]
      simpa [e2] using hj
    · have e2 : ¬ gb l 2 = 0 := by omega
      simp -dsimp (disch := omega) only [↓pre, sp, sp2, wp_some, Int.cast_ofNat_Int, Nat.reduceAdd, Nat.reduceMul, Nat.reduceSub, Nat.reduceLeDiff, Nat.reduceEqDiff, Nat.reducePow, Int.reduceToNat, Int.reducePow, Int.reduceAdd, Int.reduceSub, Int.reduceMul, Int.reduceLT, Int.reduceLE, Int.reduceEq, Int.reduceNeg, c2, ne_eq, not_false_eq_true, decide_true]
      simpa [e2] using hj
  simp -dsimp (disch := omega) only [↓pre, sp, sp2, wp_some, Int.cast_ofNat_Int, Nat.reduceAdd, Nat.reduceMul, Nat.reduceSub, Nat.reduceLeDiff, Nat.reduceEqDiff, Nat.reducePow, Int.reduceToNat, Int.reducePow, Int.reduceAdd, Int.reduceSub, Int.reduceMul, Int.reduceLT, Int.reduceLE, Int.reduceEq, Int.reduceNeg]
  refine wp_ite (fun c2 => ?_) (fun c2 => ?_)
  · have : openM l = (0, 0, [], 0, 41) := by unfold openM; rw [if_neg (by omega), if_pos c2]
    rw [this]
    exact bad h1 41 _ k1 rfl fun h3 v r => by simp -dsimp (disch := omega) only [↓pre, sp, sp2, wp_some, Int.cast_ofNat_Int, Nat.reduceAdd, Nat.reduceMul, Nat.reduceSub, Nat.reduceLeDiff, Nat.reduceEqDiff, Nat.reducePow, Int.reduceToNat, Int.reducePow, Int.reduceAdd, Int.reduceSub, Int.reduceMul, Int.reduceLT, Int.reduceLE, Int.reduceEq, Int.reduceNeg, r]; try rfl
  refine wp_kT (.bool (decide (gb l 4 * 256 + gb l 5 < 2 ∨ 254 < gb l 4 * 256 + gb l 5))) (fun j hj => ?_) ?_
  · by_cases c3 : (gb l 4 : Int) * 256 + gb l 5 < 2
    · simp -dsimp (disch := omega) only [↓pre, sp, sp2, wp_some, Int.cast_ofNat_Int, Nat.reduceAdd, Nat.reduceMul, Nat.reduceSub, Nat.reduceLeDiff, Nat.reduceEqDiff, Nat.reducePow, Int.reduceToNat, Int.reducePow, Int.reduceAdd, Int.reduceSub, Int.reduceMul, Int.reduceLT, Int.reduceLE, Int.reduceEq, Int.reduceNeg, c3, decide_true]
      have e3 : gb l 4 * 256 + gb l 5 < 2 := by omega
      simpa [e3] using hj
    · simp -dsimp (disch := omega) only [↓pre, sp, sp2, wp_some, Int.cast_ofNat_Int, Nat.reduceAdd, Nat.reduceMul, Nat.reduceSub, Nat.reduceLeDiff, Nat.reduceEqDiff, Nat.reducePow, Int.reduceToNat, Int.reducePow, Int.reduceAdd, Int.reduceSub, Int.reduceMul, Int.reduceLT, Int.reduceLE, Int.reduceEq, Int.reduceNeg, c3, decide_false]
      have e3 : ¬ gb l 4 * 256 + gb l 5 < 2 := by omega
      have e4 : ((gb l 4 : Int) * 256 + gb l 5 > 254) ↔ 254 < gb l 4 * 256 + gb l 5 := by omega
      simpa [e3, e4] using hj
  simp -dsimp (disch := omega) only [↓pre, sp, sp2, wp_some, Int.cast_ofNat_Int, Nat.reduceAdd, Nat.reduceMul, Nat.reduceSub, Nat.reduceLeDiff, Nat.reduceEqDiff, Nat.reducePow, Int.reduceToNat, Int.reducePow, Int.reduceAdd, Int.reduceSub, Int.reduceMul, Int.reduceLT, Int.reduceLE, Int.reduceEq, Int.reduceNeg, s1.len]
  refine wp_ite (fun c3 => ?_) (fun c3 => ?_)
  · have : openM l = (0, 0, [], 0, 40) := by unfold openM; rw [if_neg (by omega), if_neg c2, if_pos c3]
    rw [this]
    exact bad h1 40 _ k1 rfl fun h3 v r => by simp -dsimp (disch := omega) only [↓pre, sp, sp2, wp_some, Int.cast_ofNat_Int, Nat.reduceAdd, Nat.reduceMul, Nat.reduceSub, Nat.reduceLeDiff, Nat.reduceEqDiff, Nat.reducePow, Int.reduceToNat, Int.reducePow, Int.reduceAdd, Int.reduceSub, Int.reduceMul, Int.reduceLT, Int.reduceLE, Int.reduceEq, Int.reduceNeg, r]; try rfl
  refine wp_ite (fun c4 => ?_) (fun c4 => ?_)
  · have : openM l = (0, 0, [], 0, 0) := by unfold openM; rw [if_neg (by omega), if_neg c2, if_neg c3, if_pos (by omega)]
    rw [this]
    exact bad h1 0 _ k1 rfl fun h3 v r => by simp -dsimp (disch := omega) only [↓pre, sp, sp2, wp_some, Int.cast_ofNat_Int, Nat.reduceAdd, Nat.reduceMul, Nat.reduceSub, Nat.reduceLeDiff, Nat.reduceEqDiff, Nat.reducePow, Int.reduceToNat, Int.reducePow, Int.reduceAdd, Int.reduceSub, Int.reduceMul, Int.reduceLT, Int.reduceLE, Int.reduceEq, Int.reduceNeg, r]; try rfl
  have ho : openM l = (gb l 0 * 256 + gb l 1, gb l 6, (l.take (6 + (gb l 4 * 256 + gb l 5))).drop 7, 6 + (gb l 4 * 256 + gb l 5), 0) := by
    unfold openM; rw [if_neg (by omega), if_neg c2, if_neg c3, if_neg (by omega)]
  rw [ho]
  obtain ⟨v', e1, s', _⟩ := s1.cut3 (p := .i64) (q := .i64) (r := .i64) (a := 7) (b := 6 + ((gb l 4 : Int) * 256 + gb l 5)) (by omega) (by omega) (by omega)
  simp -dsimp (disch := omega) only [↓pre, sp, sp2, wp_some, Int.cast_ofNat_Int, Nat.reduceAdd, Nat.reduceMul, Nat.reduceSub, Nat.reduceLeDiff, Nat.reduceEqDiff, Nat.reducePow, Int.reduceToNat, Int.reducePow, Int.reduceAdd, Int.reduceSub, Int.reduceMul, Int.reduceLT, Int.reduceLE, Int.reduceEq, Int.reduceNeg, s1.at, s1.ldb, e1]
  have s2 : Bs h1 v' ((l.take (6 + (gb l 4 * 256 + gb l 5))).drop 7) md := s'.to (by rw [bytesOf_take, bytesOf_drop]; congr 2; congr 1; omega) (by simp; omega)
  refine Wp.bind (clone_spec H n k1.w' s2 (by simp; omega)) fun v2 h7 ⟨k7, o7, f7⟩ => ?_
  have s7 := s1.kp k7
  have g7 := k7.gt g1
  simp -dsimp (disch := omega) only [↓pre, sp, sp2, wp_some, Int.cast_ofNat_Int, Nat.reduceAdd, Nat.reduceMul, Nat.reduceSub, Nat.reduceLeDiff, Nat.reduceEqDiff, Nat.reducePow, Int.reduceToNat, Int.reducePow, Int.reduceAdd, Int.reduceSub, Int.reduceMul, Int.reduceLT, Int.reduceLE, Int.reduceEq, Int.reduceNeg, cells_of o7.isCell, splice_def, s7.ldb]
  refine wp_store k7.w' g7 rfl rfl (by decide) (by simp only [ic, o7.isCell]) fun h8 k8 n8 g8 => ?_
  simp -dsimp (disch := omega) only [↓pre, sp, sp2, wp_some, Int.cast_ofNat_Int, Nat.reduceAdd, Nat.reduceMul, Nat.reduceSub, Nat.reduceLeDiff, Nat.reduceEqDiff, Nat.reducePow, Int.reduceToNat, Int.reducePow, Int.reduceAdd, Int.reduceSub, Int.reduceMul, Int.reduceLT, Int.reduceLE, Int.reduceEq, Int.reduceNeg, row_rw g8, splice_def]
  have hn8 : h.n ≤ p := by omega
  refine ⟨Ke.new_p (k1.trans k7) k8 (fun i hi => by omega), v2, by simp, ?_⟩
  exact ⟨(o7.ke k8 fun i hi e => by have := f7 i hi; omega).rd, fun i hi => by have := f7 i hi; omega⟩
theorem open_spec (H : Plain ov) (n : Nat) (w : Wf h) {l : List UInt8} (s : Bs h v l md) (hl : l.length ≤ 2 ^ 40) :
    Wp (kc ov (n + 2) N_mbap_Open [v] h) fun r h' => OpenQ h h' r (openM l) :=
  (open_specF H n w s hl).mono fun r h' ⟨k, p, e, b, _⟩ => ⟨k, p, e, b⟩

/-- The bytes ahead of a frame's own. -/
def headOf (id un n : Nat) : List UInt8 := [UInt8.ofNat (id / 256), UInt8.ofNat (id % 256), 0, 0, UInt8.ofNat (n / 256), UInt8.ofNat (n % 256), UInt8.ofNat un]
/-- A frame's bytes, an error. -/
def WriteQ (h h' : AH) (r : AVal) (id un : Nat) (l : List UInt8) : Prop :=
  Kp h h' ∧ if l.length < 1 ∨ 253 < l.length then r = .tuple [.slice none 0 0, .int .i64 41] else ∃ v, r = .tuple [v, .int .i64 0] ∧ Ob h' v (headOf id un (l.length + 1) ++ l) ∧ Fresh h v
theorem lo8 (n : Nat) : IntKind.wrap .u8 (n : Int) = ((UInt8.ofNat (n % 256)).toNat : Int) := by
  rw [IntKind.wrap_u8]; simp
theorem head_cells {id un n : Nat} (hun : un < 256) : bytesOf (headOf id un n) = [.int .u8 ((UInt8.ofNat (id / 256)).toNat : Int), .int .u8 ((UInt8.ofNat (id % 256)).toNat : Int), .int .u8 0, .int .u8 0, .int .u8 ((UInt8.ofNat (n / 256)).toNat : Int), .int .u8 ((UInt8.ofNat (n % 256)).toNat : Int), .int .u8 un] := by
  simp [bytesOf, headOf]; omega
end Go.Proofs.Ytfnmgclalcoplaa.AI
