/- rtu, rungref3: frames over a serial line: what the functions come to. -/
import Derived.Test.YtpbkgmcpelhlpaaCrc
import Derived.Test.YtpbkgmcpelhlpaaClone
import Derived.Test.YtpbkgmcpelhlpaaConcat
namespace Go.Proofs.Ytpbkgmcpelhlpaa.AI
open Go
set_option linter.unusedSimpArgs false
set_option linter.unusedVariables false
variable {ov : AOver} {h : AH} {v a b : AVal} {md md' : AMode}

theorem equal_spec (H : Plain ov) (n : Nat) {x y : List UInt8} (sa : Bs h a x md) (sb : Bs h b y md') (hx : x.length ≤ 2 ^ 40) (hy : y.length ≤ 2 ^ 40) :
    kc ov (n + 1) N_slices_Equal___byte_byte_ [a, b] h = some (.bool (decide (x = y)), h) := by
  refine Wp.eq ?_
  rw [C_slices_Equal___byte_byte_ H]; unfold F_slices_Equal___byte_byte_
  (try simp -dsimp (disch := omega) only [↓pre, sp, sp2, wp_some, Int.cast_ofNat_Int, Nat.reduceAdd, Nat.reduceMul, Nat.reduceSub, Nat.reduceLeDiff, Nat.reduceEqDiff, Nat.reducePow, Int.reduceToNat, Int.reducePow, Int.reduceAdd, Int.reduceSub, Int.reduceMul, Int.reduceLT, Int.reduceLE, Int.reduceEq, Int.reduceNeg, sa.len, sb.len])
  refine wp_ite (fun c => ?_) (fun c => ?_)
  · have : x ≠ y := fun e => by subst e; omega
    (try simp -dsimp (disch := omega) only [↓pre, sp, sp2, wp_some, Int.cast_ofNat_Int, Nat.reduceAdd, Nat.reduceMul, Nat.reduceSub, Nat.reduceLeDiff, Nat.reduceEqDiff, Nat.reducePow, Int.reduceToNat, Int.reducePow, Int.reduceAdd, Int.reduceSub, Int.reduceMul, Int.reduceLT, Int.reduceLE, Int.reduceEq, Int.reduceNeg, this, decide_false])
  · refine wp_loop (fun m l h1 => ∃ i : Nat, l = [.int .i64 i] ∧ i + m = x.length ∧ h = h1 ∧ x.take i = y.take i) x.length (by omega) ⟨0, rfl, by omega, rfl, rfl⟩ ?_
    rintro m _ _ j ⟨i, rfl, him, rfl, he⟩ hj
    unfold L_slices_Equal___byte_byte__0
    (try simp -dsimp (disch := omega) only [↓pre, sp, sp2, wp_some, Int.cast_ofNat_Int, Nat.reduceAdd, Nat.reduceMul, Nat.reduceSub, Nat.reduceLeDiff, Nat.reduceEqDiff, Nat.reducePow, Int.reduceToNat, Int.reducePow, Int.reduceAdd, Int.reduceSub, Int.reduceMul, Int.reduceLT, Int.reduceLE, Int.reduceEq, Int.reduceNeg])
    refine wp_ite (fun c2 => ?_) (fun c2 => ?_)
    · (try simp -dsimp (disch := omega) only [↓pre, sp, sp2, wp_some, Int.cast_ofNat_Int, Nat.reduceAdd, Nat.reduceMul, Nat.reduceSub, Nat.reduceLeDiff, Nat.reduceEqDiff, Nat.reducePow, Int.reduceToNat, Int.reducePow, Int.reduceAdd, Int.reduceSub, Int.reduceMul, Int.reduceLT, Int.reduceLE, Int.reduceEq, Int.reduceNeg, sa.at, sa.ldb, sb.at, sb.ldb])
      refine wp_ite (fun c3 => ?_) (fun c3 => ?_)
      · have : x ≠ y := fun e => by subst e; exact c3 rfl
        (try simp -dsimp (disch := omega) only [↓pre, sp, sp2, wp_some, Int.cast_ofNat_Int, Nat.reduceAdd, Nat.reduceMul, Nat.reduceSub, Nat.reduceLeDiff, Nat.reduceEqDiff, Nat.reducePow, Int.reduceToNat, Int.reducePow, Int.reduceAdd, Int.reduceSub, Int.reduceMul, Int.reduceLT, Int.reduceLE, Int.reduceEq, Int.reduceNeg, this, decide_false])
      · have ei : ((i : Int) + 1) = ((i + 1 : Nat) : Int) := by omega
        (try simp -dsimp (disch := omega) only [↓pre, sp, sp2, wp_some, Int.cast_ofNat_Int, Nat.reduceAdd, Nat.reduceMul, Nat.reduceSub, Nat.reduceLeDiff, Nat.reduceEqDiff, Nat.reducePow, Int.reduceToNat, Int.reducePow, Int.reduceAdd, Int.reduceSub, Int.reduceMul, Int.reduceLT, Int.reduceLE, Int.reduceEq, Int.reduceNeg, ei])
        have hix : i < x.length := by omega
        have hiy : i < y.length := by omega
        refine hj (m - 1) _ _ (by omega) ⟨i + 1, rfl, by omega, rfl, ?_⟩
        rw [List.take_succ_eq_append_getElem hix, List.take_succ_eq_append_getElem hiy, he]
        congr 2
        unfold gb at c3
        simp [List.getD, hix, hiy] at c3
        exact UInt8.toNat_inj.1 (by omega)
    · have e1 : x.take i = x := List.take_of_length_le (by omega)
      have e2 : y.take i = y := List.take_of_length_le (by omega)
      have : x = y := by rw [← e1, he, e2]
      (try simp -dsimp (disch := omega) only [↓pre, sp, sp2, wp_some, Int.cast_ofNat_Int, Nat.reduceAdd, Nat.reduceMul, Nat.reduceSub, Nat.reduceLeDiff, Nat.reduceEqDiff, Nat.reducePow, Int.reduceToNat, Int.reducePow, Int.reduceAdd, Int.reduceSub, Int.reduceMul, Int.reduceLT, Int.reduceLE, Int.reduceEq, Int.reduceNeg, this, decide_true])
theorem sumB_cells (l : List UInt8) : [AVal.int .u8 ((lo8' (crc16 l)).toNat : Int), .int .u8 ((hi8' (crc16 l)).toNat : Int)] = bytesOf (sumB l) := rfl
theorem joined_spec (H : Plain ov) (k : Nat) (w : Wf h) {vs : List AVal} {ls : List (List UInt8)} (s : Sz h v 1 vs.length vs md) (ps : Parts h vs ls) (hl : ls.flatten.length ≤ 2 ^ 20) (hv : vs.length ≤ 2 ^ 40) :
    Wp (kc ov (k + 3) N_rtu_joined [v] h) fun r h' => Kp h h' ∧ Ob h' r (ls.flatten ++ sumB ls.flatten) ∧ Fresh h r := by
  rw [C_rtu_joined H]; unfold F_rtu_joined
  (try simp -dsimp (disch := omega) only [↓pre, sp, sp2, wp_some, Int.cast_ofNat_Int, Nat.reduceAdd, Nat.reduceMul, Nat.reduceSub, Nat.reduceLeDiff, Nat.reduceEqDiff, Nat.reducePow, Int.reduceToNat, Int.reducePow, Int.reduceAdd, Int.reduceSub, Int.reduceMul, Int.reduceLT, Int.reduceLE, Int.reduceEq, Int.reduceNeg])
  refine Wp.bind (concat_spec H k w s ps (by omega) hv) fun v1 h1 ⟨k1, o1, f1⟩ => ?_
  have hs := sum16_spec H k o1.rd (by omega)
  have e1 := lo8_eq (crc16 ls.flatten)
  have e2 := hi8_eq (crc16 ls.flatten)
  (try simp -dsimp (disch := omega) only [↓pre, sp, sp2, wp_some, Int.cast_ofNat_Int, Nat.reduceAdd, Nat.reduceMul, Nat.reduceSub, Nat.reduceLeDiff, Nat.reduceEqDiff, Nat.reducePow, Int.reduceToNat, Int.reducePow, Int.reduceAdd, Int.reduceSub, Int.reduceMul, Int.reduceLT, Int.reduceLE, Int.reduceEq, Int.reduceNeg, hs, e1, e2])
  refine wp_buildSl (cs := bytesOf (sumB ls.flatten)) k1.w' ⟨by decide, rfl, by decide⟩ rfl (isCell_bytes _) fun q h2 hq k2 n2 g2 => ?_
  have sq : Bs h2 (.slice (some (q, 0, 1)) 2 2) (sumB ls.flatten) .rw := Ow.rd (e := T_uint8) (Ow.new g2 (by omega) 2 rfl (isCell_bytes _))
  refine wp_append k2.w' (o1.kp k2) sq (isCell_bytes _) (by omega) (by rw [sumB_len]; omega) fun v3 h3 o3 k3 f3 => ?_
  (try simp -dsimp (disch := omega) only [↓pre, sp, sp2, wp_some, Int.cast_ofNat_Int, Nat.reduceAdd, Nat.reduceMul, Nat.reduceSub, Nat.reduceLeDiff, Nat.reduceEqDiff, Nat.reducePow, Int.reduceToNat, Int.reducePow, Int.reduceAdd, Int.reduceSub, Int.reduceMul, Int.reduceLT, Int.reduceLE, Int.reduceEq, Int.reduceNeg])
  rw [← bytesOf_append] at o3
  refine ⟨Ke.new_p (k1.trans k2) k3 f1, o3.to rfl (by simp), fun i hi => ?_⟩
  rcases f3 i hi with f | f
  · exact f1 i f
  · have := (k1.trans k2).n; omega
/-- A frame's bytes, an error. -/
def WriteR (h h' : AH) (r : AVal) (x : UInt8) (l : List UInt8) : Prop :=
  Kp h h' ∧ if l.length < 1 ∨ 253 < l.length then r = .tuple [.slice none 0 0, .int .i64 51] else ∃ v, r = .tuple [v, .int .i64 0] ∧ Ob h' v (x :: l ++ sumB (x :: l)) ∧ Fresh h v
/-- Unit, PDU, an error. -/
def openR (l : List UInt8) : UInt8 × List UInt8 × Nat :=
  if l.length < 4 ∨ 256 < l.length then (0, [], 51) else
  if l.take (l.length - 2) ++ sumB (l.take (l.length - 2)) = l then (l.getD 0 0, (l.take (l.length - 2)).drop 1, 0) else (0, [], 50)
def OpenR (h h' : AH) (r : AVal) (o : UInt8 × List UInt8 × Nat) : Prop := Kp h h' ∧ ∃ p, r = .tuple [.int .u8 o.1.toNat, p, .int .i64 o.2.2] ∧ Bs h' p o.2.1 .rw
/-- The same; the PDU's block was not there. -/
def OpenRF (h h' : AH) (r : AVal) (o : UInt8 × List UInt8 × Nat) : Prop := Kp h h' ∧ ∃ p, r = .tuple [.int .u8 o.1.toNat, p, .int .i64 o.2.2] ∧ Bs h' p o.2.1 .rw ∧ Fresh h p
theorem ropen_specF (H : Plain ov) (n : Nat) (w : Wf h) {l : List UInt8} (s : Bs h v l md) :
    Wp (kc ov (n + 4) N_rtu_Open [v] h) fun r h' => OpenRF h h' r (openR l) := by
  rw [C_rtu_Open H]; unfold F_rtu_Open
  (try simp -dsimp (disch := omega) only [↓pre, sp, sp2, wp_some, Int.cast_ofNat_Int, Nat.reduceAdd, Nat.reduceMul, Nat.reduceSub, Nat.reduceLeDiff, Nat.reduceEqDiff, Nat.reducePow, Int.reduceToNat, Int.reducePow, Int.reduceAdd, Int.reduceSub, Int.reduceMul, Int.reduceLT, Int.reduceLE, Int.reduceEq, Int.reduceNeg, s.len])
  refine wp_kT (.bool (decide (l.length < 4 ∨ 256 < l.length))) (fun j hj => ?_) ?_
  · by_cases c : (l.length : Int) < 4
    · (try simp -dsimp (disch := omega) only [↓pre, sp, sp2, wp_some, Int.cast_ofNat_Int, Nat.reduceAdd, Nat.reduceMul, Nat.reduceSub, Nat.reduceLeDiff, Nat.reduceEqDiff, Nat.reducePow, Int.reduceToNat, Int.reducePow, Int.reduceAdd, Int.reduceSub, Int.reduceMul, Int.reduceLT, Int.reduceLE, Int.reduceEq, Int.reduceNeg, c, decide_true]); simpa [show l.length < 4 by omega] using hj
    · (try simp -dsimp (disch := omega) only [↓pre, sp, sp2, wp_some, Int.cast_ofNat_Int, Nat.reduceAdd, Nat.reduceMul, Nat.reduceSub, Nat.reduceLeDiff, Nat.reduceEqDiff, Nat.reducePow, Int.reduceToNat, Int.reducePow, Int.reduceAdd, Int.reduceSub, Int.reduceMul, Int.reduceLT, Int.reduceLE, Int.reduceEq, Int.reduceNeg, c, decide_false, s.len])
      have e : ((l.length : Int) > 256) ↔ 256 < l.length := by omega
      have e2 : ¬ l.length < 4 := by omega
      simpa only [e, e2, false_or] using hj
  (try simp -dsimp (disch := omega) only [↓pre, sp, sp2, wp_some, Int.cast_ofNat_Int, Nat.reduceAdd, Nat.reduceMul, Nat.reduceSub, Nat.reduceLeDiff, Nat.reduceEqDiff, Nat.reducePow, Int.reduceToNat, Int.reducePow, Int.reduceAdd, Int.reduceSub, Int.reduceMul, Int.reduceLT, Int.reduceLE, Int.reduceEq, Int.reduceNeg])
  refine wp_ite (fun c => ?_) (fun c => ?_)
  · (try simp -dsimp (disch := omega) only [↓pre, sp, sp2, wp_some, Int.cast_ofNat_Int, Nat.reduceAdd, Nat.reduceMul, Nat.reduceSub, Nat.reduceLeDiff, Nat.reduceEqDiff, Nat.reducePow, Int.reduceToNat, Int.reducePow, Int.reduceAdd, Int.reduceSub, Int.reduceMul, Int.reduceLT, Int.reduceLE, Int.reduceEq, Int.reduceNeg])
    have : openR l = (0, [], 51) := by unfold openR; rw [if_pos c]
    rw [this]
    exact ⟨Ke.refl w, _, rfl, Sz.nil _ _ (by omega) _, fun i hi => hi.elim⟩
  have e0 : ((l.length : Int) - 2) = ((l.length - 2 : Nat) : Int) := by omega
  obtain ⟨v1, e1, s1, _⟩ := s.cutR (q := .i64) (b := ((l.length - 2 : Nat) : Int)) (by omega) (by omega)
  have hil : (l.take (l.length - 2)).length = l.length - 2 := by rw [List.length_take]; omega
  have s1' : Bs h v1 (l.take (l.length - 2)) md := s1.to (by rw [bytesOf_take]; simp) (by rw [hil]; simp)
  (try simp -dsimp (disch := omega) only [↓pre, sp, sp2, wp_some, Int.cast_ofNat_Int, Nat.reduceAdd, Nat.reduceMul, Nat.reduceSub, Nat.reduceLeDiff, Nat.reduceEqDiff, Nat.reducePow, Int.reduceToNat, Int.reducePow, Int.reduceAdd, Int.reduceSub, Int.reduceMul, Int.reduceLT, Int.reduceLE, Int.reduceEq, Int.reduceNeg, s.len, e0, e1])
  refine wp_buildSl (cs := [v1]) w ⟨by decide, rfl, by decide⟩ ?_ (by simp only [ic, s1.isCell]) fun q2 h2 hq2 k2 n2 g2 => ?_
  · simp [aFill, cells_of s1.isCell, manyT, splice]
  have sq : Sz h2 (.slice (some (q2, 0, 1)) 1 1) 1 [v1].length [v1] .rw := Ow.rd (e := T___uint8) (Ow.new g2 (by omega) 1 rfl (by simp only [ic, s1.isCell]))
  (try simp -dsimp (disch := omega) only [↓pre, sp, sp2, wp_some, Int.cast_ofNat_Int, Nat.reduceAdd, Nat.reduceMul, Nat.reduceSub, Nat.reduceLeDiff, Nat.reduceEqDiff, Nat.reducePow, Int.reduceToNat, Int.reducePow, Int.reduceAdd, Int.reduceSub, Int.reduceMul, Int.reduceLT, Int.reduceLE, Int.reduceEq, Int.reduceNeg])
  refine Wp.bind (joined_spec H n k2.w' (ls := [l.take (l.length - 2)]) sq ⟨⟨_, s1'.kp k2⟩, trivial⟩ (by simp; omega) (by simp)) fun v3 h3 ⟨k3, o3, f3⟩ => ?_
  simp only [List.flatten_cons, List.flatten_nil, List.append_nil] at o3
  have K3 := k2.trans k3
  have s3 := s.kp K3
  have hq := equal_spec H (n + 2) o3.rd s3 (by rw [List.length_append, hil, sumB_len]; omega) (by omega)
  (try simp -dsimp (disch := omega) only [↓pre, sp, sp2, wp_some, Int.cast_ofNat_Int, Nat.reduceAdd, Nat.reduceMul, Nat.reduceSub, Nat.reduceLeDiff, Nat.reduceEqDiff, Nat.reducePow, Int.reduceToNat, Int.reducePow, Int.reduceAdd, Int.reduceSub, Int.reduceMul, Int.reduceLT, Int.reduceLE, Int.reduceEq, Int.reduceNeg, hq])
  by_cases c2 : l.take (l.length - 2) ++ sumB (l.take (l.length - 2)) = l
  · have : openR l = (l.getD 0 0, (l.take (l.length - 2)).drop 1, 0) := by unfold openR; rw [if_neg c, if_pos c2]
    rw [this]
    have s13 := s1'.kp K3
    obtain ⟨v5, e5, s5, _⟩ := s13.cutL (p := .i64) (a := 1) (by omega) (by omega)
    have s5' : Bs h3 v5 ((l.take (l.length - 2)).drop 1) md := s5.to (by rw [bytesOf_drop]; simp) (by rw [List.length_drop]; simp)
    have eg : gb (l.take (l.length - 2)) 0 = (l.getD 0 0).toNat := by
      unfold gb
      rw [List.getD_eq_getElem?_getD, List.getElem?_take_of_lt (by omega), ← List.getD_eq_getElem?_getD]
    (try simp -dsimp (disch := omega) only [↓pre, sp, sp2, wp_some, Int.cast_ofNat_Int, Nat.reduceAdd, Nat.reduceMul, Nat.reduceSub, Nat.reduceLeDiff, Nat.reduceEqDiff, Nat.reducePow, Int.reduceToNat, Int.reducePow, Int.reduceAdd, Int.reduceSub, Int.reduceMul, Int.reduceLT, Int.reduceLE, Int.reduceEq, Int.reduceNeg, c2, decide_true, s13.at, s13.ldb, e5, eg])
    refine Wp.bind (clone_spec H (n + 2) k3.w' s5' (by rw [List.length_drop]; omega)) fun v6 h6 ⟨k6, o6, f6⟩ => ?_
    have s16 := s13.kp k6
    (try simp -dsimp (disch := omega) only [↓pre, sp, sp2, wp_some, Int.cast_ofNat_Int, Nat.reduceAdd, Nat.reduceMul, Nat.reduceSub, Nat.reduceLeDiff, Nat.reduceEqDiff, Nat.reducePow, Int.reduceToNat, Int.reducePow, Int.reduceAdd, Int.reduceSub, Int.reduceMul, Int.reduceLT, Int.reduceLE, Int.reduceEq, Int.reduceNeg, s16.ldb, eg])
    exact ⟨K3.trans k6, _, rfl, o6.rd, fun i hi => by have := f6 i hi; have := K3.n; omega⟩
  · have : openR l = (0, [], 50) := by unfold openR; rw [if_neg c, if_neg c2]
    rw [this]
    (try simp -dsimp (disch := omega) only [↓pre, sp, sp2, wp_some, Int.cast_ofNat_Int, Nat.reduceAdd, Nat.reduceMul, Nat.reduceSub, Nat.reduceLeDiff, Nat.reduceEqDiff, Nat.reducePow, Int.reduceToNat, Int.reducePow, Int.reduceAdd, Int.reduceSub, Int.reduceMul, Int.reduceLT, Int.reduceLE, Int.reduceEq, Int.reduceNeg, c2, decide_false])
    exact ⟨K3, _, rfl, Sz.nil _ _ (by omega) _, fun i hi => hi.elim⟩
theorem ropen_spec (H : Plain ov) (n : Nat) (w : Wf h) {l : List UInt8} (s : Bs h v l md) :
    Wp (kc ov (n + 4) N_rtu_Open [v] h) fun r h' => OpenR h h' r (openR l) :=
  (ropen_specF H n w s).mono fun r h' ⟨k, p, e, b, _⟩ => ⟨k, p, e, b⟩
theorem rref_write_spec (H : Plain ov) (n : Nat) (w : Wf h) {l : List UInt8} {x : UInt8} (s : Bs h v l md) :
    Wp (kc ov (n + 2) N_rungref3_Rtu [.int .u8 x.toNat, v] h) fun r h' => WriteR h h' r x l := by
  rw [C_rungref3_Rtu H]; unfold F_rungref3_Rtu
  (try simp -dsimp (disch := omega) only [↓pre, sp, sp2, wp_some, Int.cast_ofNat_Int, Nat.reduceAdd, Nat.reduceMul, Nat.reduceSub, Nat.reduceLeDiff, Nat.reduceEqDiff, Nat.reducePow, Int.reduceToNat, Int.reducePow, Int.reduceAdd, Int.reduceSub, Int.reduceMul, Int.reduceLT, Int.reduceLE, Int.reduceEq, Int.reduceNeg, s.len])
  refine wp_kT (.bool (decide (l.length < 1 ∨ 253 < l.length))) (fun j hj => ?_) ?_
  · by_cases c : (l.length : Int) < 1
    · (try simp -dsimp (disch := omega) only [↓pre, sp, sp2, wp_some, Int.cast_ofNat_Int, Nat.reduceAdd, Nat.reduceMul, Nat.reduceSub, Nat.reduceLeDiff, Nat.reduceEqDiff, Nat.reducePow, Int.reduceToNat, Int.reducePow, Int.reduceAdd, Int.reduceSub, Int.reduceMul, Int.reduceLT, Int.reduceLE, Int.reduceEq, Int.reduceNeg, c, decide_true]); simpa [show l.length < 1 by omega] using hj
    · (try simp -dsimp (disch := omega) only [↓pre, sp, sp2, wp_some, Int.cast_ofNat_Int, Nat.reduceAdd, Nat.reduceMul, Nat.reduceSub, Nat.reduceLeDiff, Nat.reduceEqDiff, Nat.reducePow, Int.reduceToNat, Int.reducePow, Int.reduceAdd, Int.reduceSub, Int.reduceMul, Int.reduceLT, Int.reduceLE, Int.reduceEq, Int.reduceNeg, c, decide_false, s.len])
      have e : ((l.length : Int) > 253) ↔ 253 < l.length := by omega
      have e2 : ¬ l.length < 1 := by omega
      simpa only [e, e2, false_or] using hj
  (try simp -dsimp (disch := omega) only [↓pre, sp, sp2, wp_some, Int.cast_ofNat_Int, Nat.reduceAdd, Nat.reduceMul, Nat.reduceSub, Nat.reduceLeDiff, Nat.reduceEqDiff, Nat.reducePow, Int.reduceToNat, Int.reducePow, Int.reduceAdd, Int.reduceSub, Int.reduceMul, Int.reduceLT, Int.reduceLE, Int.reduceEq, Int.reduceNeg])
  refine wp_ite (fun c => ?_) (fun c => ?_)
  · (try simp -dsimp (disch := omega) only [↓pre, sp, sp2, wp_some, Int.cast_ofNat_Int, Nat.reduceAdd, Nat.reduceMul, Nat.reduceSub, Nat.reduceLeDiff, Nat.reduceEqDiff, Nat.reducePow, Int.reduceToNat, Int.reducePow, Int.reduceAdd, Int.reduceSub, Int.reduceMul, Int.reduceLT, Int.reduceLE, Int.reduceEq, Int.reduceNeg])
    exact ⟨Ke.refl w, by rw [if_pos c]⟩
  (try simp -dsimp (disch := omega) only [↓pre, sp, sp2, wp_some, Int.cast_ofNat_Int, Nat.reduceAdd, Nat.reduceMul, Nat.reduceSub, Nat.reduceLeDiff, Nat.reduceEqDiff, Nat.reducePow, Int.reduceToNat, Int.reducePow, Int.reduceAdd, Int.reduceSub, Int.reduceMul, Int.reduceLT, Int.reduceLE, Int.reduceEq, Int.reduceNeg])
  refine wp_buildSl (cs := bytesOf [x]) w ⟨by decide, rfl, by decide⟩ rfl rfl fun q h1 hq k1 n1 g1 => ?_
  have o1 : Ob h1 (.slice (some (q, 0, 1)) 1 1) [x] := Ow.new g1 (by omega) 1 rfl rfl
  refine wp_append k1.w' o1 (s.kp k1) (isCell_bytes _) (by omega) (by simp; omega) fun v2 h2 o2 k2 f2 => ?_
  rw [← bytesOf_append] at o2
  have o2' : Ob h2 v2 (x :: l) := o2.to rfl (by simp; omega)
  have hs := rsum16_spec H n o2'.rd (by simp; omega)
  have e1 := lo8_eq (crc16 (x :: l))
  have e2 := hi8_eq (crc16 (x :: l))
  (try simp -dsimp (disch := omega) only [↓pre, sp, sp2, wp_some, Int.cast_ofNat_Int, Nat.reduceAdd, Nat.reduceMul, Nat.reduceSub, Nat.reduceLeDiff, Nat.reduceEqDiff, Nat.reducePow, Int.reduceToNat, Int.reducePow, Int.reduceAdd, Int.reduceSub, Int.reduceMul, Int.reduceLT, Int.reduceLE, Int.reduceEq, Int.reduceNeg, hs, e1, e2])
  have K2 : Kp h h2 := Ke.new_p k1 k2 fun i hi => by simp only [isBk] at hi; omega
  have f2' : Fresh h v2 := fun i hi => by
    rcases f2 i hi with f | f
    · simp only [isBk] at f; omega
    · have := k1.n; omega
  refine wp_buildSl (cs := bytesOf (sumB (x :: l))) k2.w' ⟨by decide, rfl, by decide⟩ rfl (isCell_bytes _) fun q3 h3 hq3 k3 n3 g3 => ?_
  have sq : Bs h3 (.slice (some (q3, 0, 1)) 2 2) (sumB (x :: l)) .rw := Ow.rd (e := T_uint8) (Ow.new g3 (by omega) 2 rfl (isCell_bytes _))
  refine wp_append k3.w' (o2'.kp k3) sq (isCell_bytes _) (by omega) (by rw [sumB_len]; simp; omega) fun v4 h4 o4 k4 f4 => ?_
  (try simp -dsimp (disch := omega) only [↓pre, sp, sp2, wp_some, Int.cast_ofNat_Int, Nat.reduceAdd, Nat.reduceMul, Nat.reduceSub, Nat.reduceLeDiff, Nat.reduceEqDiff, Nat.reducePow, Int.reduceToNat, Int.reducePow, Int.reduceAdd, Int.reduceSub, Int.reduceMul, Int.reduceLT, Int.reduceLE, Int.reduceEq, Int.reduceNeg])
  rw [← bytesOf_append] at o4
  refine ⟨Ke.new_p (K2.trans k3) k4 f2', ?_⟩
  rw [if_neg c]
  refine ⟨v4, rfl, o4.to rfl (by simp; omega), fun i hi => ?_⟩
  rcases f4 i hi with f | f
  · exact f2' i f
  · have := (K2.trans k3).n; omega
theorem rref_open_specF (H : Plain ov) (n : Nat) (w : Wf h) {l : List UInt8} (s : Bs h v l md) :
    Wp (kc ov (n + 2) N_rungref3_OpenRtu [v] h) fun r h' => OpenRF h h' r (openR l) := by
  rw [C_rungref3_OpenRtu H]; unfold F_rungref3_OpenRtu
  (try simp -dsimp (disch := omega) only [↓pre, sp, sp2, wp_some, Int.cast_ofNat_Int, Nat.reduceAdd, Nat.reduceMul, Nat.reduceSub, Nat.reduceLeDiff, Nat.reduceEqDiff, Nat.reducePow, Int.reduceToNat, Int.reducePow, Int.reduceAdd, Int.reduceSub, Int.reduceMul, Int.reduceLT, Int.reduceLE, Int.reduceEq, Int.reduceNeg, s.len])
  refine wp_kT (.bool (decide (l.length < 4 ∨ 256 < l.length))) (fun j hj => ?_) ?_
  · by_cases c : (l.length : Int) < 4
    · (try simp -dsimp (disch := omega) only [↓pre, sp, sp2, wp_some, Int.cast_ofNat_Int, Nat.reduceAdd, Nat.reduceMul, Nat.reduceSub, Nat.reduceLeDiff, Nat.reduceEqDiff, Nat.reducePow, Int.reduceToNat, Int.reducePow, Int.reduceAdd, Int.reduceSub, Int.reduceMul, Int.reduceLT, Int.reduceLE, Int.reduceEq, Int.reduceNeg, c, decide_true]); simpa [show l.length < 4 by omega] using hj
    · (try simp -dsimp (disch := omega) only [↓pre, sp, sp2, wp_some, Int.cast_ofNat_Int, Nat.reduceAdd, Nat.reduceMul, Nat.reduceSub, Nat.reduceLeDiff, Nat.reduceEqDiff, Nat.reducePow, Int.reduceToNat, Int.reducePow, Int.reduceAdd, Int.reduceSub, Int.reduceMul, Int.reduceLT, Int.reduceLE, Int.reduceEq, Int.reduceNeg, c, decide_false, s.len])
      have e : ((l.length : Int) > 256) ↔ 256 < l.length := by omega
      have e2 : ¬ l.length < 4 := by omega
      simpa only [e, e2, false_or] using hj
  (try simp -dsimp (disch := omega) only [↓pre, sp, sp2, wp_some, Int.cast_ofNat_Int, Nat.reduceAdd, Nat.reduceMul, Nat.reduceSub, Nat.reduceLeDiff, Nat.reduceEqDiff, Nat.reducePow, Int.reduceToNat, Int.reducePow, Int.reduceAdd, Int.reduceSub, Int.reduceMul, Int.reduceLT, Int.reduceLE, Int.reduceEq, Int.reduceNeg])
  refine wp_ite (fun c => ?_) (fun c => ?_)
  · (try simp -dsimp (disch := omega) only [↓pre, sp, sp2, wp_some, Int.cast_ofNat_Int, Nat.reduceAdd, Nat.reduceMul, Nat.reduceSub, Nat.reduceLeDiff, Nat.reduceEqDiff, Nat.reducePow, Int.reduceToNat, Int.reducePow, Int.reduceAdd, Int.reduceSub, Int.reduceMul, Int.reduceLT, Int.reduceLE, Int.reduceEq, Int.reduceNeg])
    have : openR l = (0, [], 51) := by unfold openR; rw [if_pos c]
    rw [this]
    exact ⟨Ke.refl w, _, rfl, Sz.nil _ _ (by omega) _, fun i hi => hi.elim⟩
  have e0 : ((l.length : Int) - 2) = ((l.length - 2 : Nat) : Int) := by omega
  obtain ⟨v1, e1, s1, _⟩ := s.cutR (q := .i64) (b := ((l.length - 2 : Nat) : Int)) (by omega) (by omega)
  have hil : (l.take (l.length - 2)).length = l.length - 2 := by rw [List.length_take]; omega
  have s1' : Bs h v1 (l.take (l.length - 2)) md := s1.to (by rw [bytesOf_take]; simp) (by rw [hil]; simp)
  have e3 : (((l.length - 2 : Nat) : Int) + 1) = ((l.length - 2 + 1 : Nat) : Int) := by omega
  have g0 := gb_lt l (l.length - 2); have g1 := gb_lt l (l.length - 2 + 1)
  have hs := rsum16_spec H n s1' (by omega)
  have ho : iOr .u16 (gb l (l.length - 2) : Int) ((gb l (l.length - 2 + 1) : Int) * 256) = ((gb l (l.length - 2) + gb l (l.length - 2 + 1) * 256 : Nat) : Int) := by
    rw [iOr_comm, num.2.2.2.2.2.2.2.2.2.2.2.2.2.2.2.2.2.2.2.2.2.2.2.2.1 _ _ g1 g0]; omega
  (try simp -dsimp (disch := omega) only [↓pre, sp, sp2, wp_some, Int.cast_ofNat_Int, Nat.reduceAdd, Nat.reduceMul, Nat.reduceSub, Nat.reduceLeDiff, Nat.reduceEqDiff, Nat.reducePow, Int.reduceToNat, Int.reducePow, Int.reduceAdd, Int.reduceSub, Int.reduceMul, Int.reduceLT, Int.reduceLE, Int.reduceEq, Int.reduceNeg, s.len, e0, e1, e3, s.at, s.ldb, hs, ho])
  have key := sum_at l (by omega)
  refine wp_ite (fun c2 => ?_) (fun c2 => ?_)
  · have c3 : ¬ l.take (l.length - 2) ++ sumB (l.take (l.length - 2)) = l := fun e => by
      have := key.2 e
      omega
    have : openR l = (0, [], 50) := by unfold openR; rw [if_neg c, if_neg c3]
    rw [this]
    (try simp -dsimp (disch := omega) only [↓pre, sp, sp2, wp_some, Int.cast_ofNat_Int, Nat.reduceAdd, Nat.reduceMul, Nat.reduceSub, Nat.reduceLeDiff, Nat.reduceEqDiff, Nat.reducePow, Int.reduceToNat, Int.reducePow, Int.reduceAdd, Int.reduceSub, Int.reduceMul, Int.reduceLT, Int.reduceLE, Int.reduceEq, Int.reduceNeg])
    exact ⟨Ke.refl w, _, rfl, Sz.nil _ _ (by omega) _, fun i hi => hi.elim⟩
  · have c3 : l.take (l.length - 2) ++ sumB (l.take (l.length - 2)) = l := key.1 (by omega)
    have : openR l = (l.getD 0 0, (l.take (l.length - 2)).drop 1, 0) := by unfold openR; rw [if_neg c, if_pos c3]
    rw [this]
    obtain ⟨v5, e5, s5, _⟩ := s.cut2 (p := .i64) (q := .i64) (a := 1) (b := ((l.length - 2 : Nat) : Int)) (by omega) (by omega) (by omega)
    have s5' : Bs h v5 ((l.take (l.length - 2)).drop 1) md := s5.to (by rw [bytesOf_take, bytesOf_drop]; simp) (by simp)
    (try simp -dsimp (disch := omega) only [↓pre, sp, sp2, wp_some, Int.cast_ofNat_Int, Nat.reduceAdd, Nat.reduceMul, Nat.reduceSub, Nat.reduceLeDiff, Nat.reduceEqDiff, Nat.reducePow, Int.reduceToNat, Int.reducePow, Int.reduceAdd, Int.reduceSub, Int.reduceMul, Int.reduceLT, Int.reduceLE, Int.reduceEq, Int.reduceNeg, s.at, s.ldb, e5])
    refine wp_append w (Ow.nil h T_uint8 1 (by omega)) s5' (isCell_bytes _) (by omega) (by simp; omega) fun v6 h6 o6 k6 f6 => ?_
    have K6 : Kp h h6 := k6.mono fun _ f => f.elim
    have s6 := s.kp K6
    (try simp -dsimp (disch := omega) only [↓pre, sp, sp2, wp_some, Int.cast_ofNat_Int, Nat.reduceAdd, Nat.reduceMul, Nat.reduceSub, Nat.reduceLeDiff, Nat.reduceEqDiff, Nat.reducePow, Int.reduceToNat, Int.reducePow, Int.reduceAdd, Int.reduceSub, Int.reduceMul, Int.reduceLT, Int.reduceLE, Int.reduceEq, Int.reduceNeg, s6.ldb])
    exact ⟨K6, _, rfl, o6.rd.to (by simp) (by simp), fun i hi => (f6 i hi).resolve_left id⟩
theorem rref_open_spec (H : Plain ov) (n : Nat) (w : Wf h) {l : List UInt8} (s : Bs h v l md) :
    Wp (kc ov (n + 2) N_rungref3_OpenRtu [v] h) fun r h' => OpenR h h' r (openR l) :=
  (rref_open_specF H n w s).mono fun r h' ⟨k, p, e, b, _⟩ => ⟨k, p, e, b⟩
end Go.Proofs.Ytpbkgmcpelhlpaa.AI
