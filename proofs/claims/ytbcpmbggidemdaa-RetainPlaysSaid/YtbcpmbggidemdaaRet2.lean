/- Chapter 9: slots. -/
import Derived.Test.YtbcpmbggidemdaaRet1
namespace Go.Proofs.Ytbcpmbggidemdaa.AI
open Go
set_option linter.unusedSimpArgs false
set_option linter.unusedVariables false
variable {ov : AOver} {h : AH} {v a b : AVal} {md md' : AMode}

/-- Numbers as cells. -/
def i64s (l : List Int) : List AVal := l.map (AVal.int .i64)
theorem i64s_len (l : List Int) : (i64s l).length = l.length := by simp [i64s]
theorem i64s_cells (l : List Int) : (i64s l).all AVal.isCell = true := by simp [i64s, AVal.isCell]
theorem i64s_append (l m : List Int) : i64s (l ++ m) = i64s l ++ i64s m := by simp [i64s]
abbrev Oi (h : AH) (v : AVal) (l : List Int) : Prop := Ow h v T_int64 1 l.length (i64s l)
theorem numsOf_succ (b : List UInt8) (k : Nat) : numsOf b (k + 1) = numsOf b k ++ [atOf b k] := by simp [numsOf, List.range_succ]
theorem numsOf_len (b : List UInt8) (k : Nat) : (numsOf b k).length = k := by simp [numsOf]
theorem unbe8 {l : List UInt8} (hl : l.length ≤ 8) : unbe l < 2 ^ 64 := by
  have h1 := unbe_lt l
  have h2 : 256 ^ l.length ≤ 256 ^ 8 := Nat.pow_le_pow_right (by omega) hl
  omega
theorem unbe4 {l : List UInt8} (hl : l.length ≤ 4) : unbe l < 2 ^ 32 := by
  have h1 := unbe_lt l
  have h2 : 256 ^ l.length ≤ 256 ^ 4 := Nat.pow_le_pow_right (by omega) hl
  omega
/-- A slot's cells. -/
def slotC (s : Slot) (lv : AVal) : List AVal := [.int .u64 s.num, .int .u64 s.scan, lv, .bool s.ok]
theorem Sz.cutB {l : List UInt8} (s : Bs h v l md) {p q : IntKind} {a b : Nat} (hab : a ≤ b) (hb : b ≤ l.length) :
    ∃ v', rCut 1 v (some (.int p (a : Int))) (some (.int q (b : Int))) none = some v' ∧ Bs h v' ((l.drop a).take (b - a)) md := by
  obtain ⟨v', e, s', -⟩ := s.cut2 (p := p) (q := q) (a := a) (b := b) (by omega) (by omega) (by omega)
  refine ⟨v', e, s'.to ?_ ?_⟩
  · rw [Int.toNat_natCast, Int.toNat_natCast, Nat.mul_one, Nat.mul_one, bytesOf_take, bytesOf_drop, ← List.drop_take]
  · rw [List.length_take, List.length_drop, Int.toNat_natCast, Int.toNat_natCast]; omega

theorem slotOf_spec (H : Plain ov) (n : Nat) (w : Wf h) {l : List UInt8} (s : Bs h v l md) (hl : 28 ≤ l.length) (hl2 : l.length ≤ 2 ^ 20) :
    Wp (kc ov (n + 4) N_retain_slotOf [v] h) fun r h' => Kp h h' ∧ ∃ lv, r = .agg (slotC (slotB l) lv) ∧ Oi h' lv (slotB l).l ∧ Fresh h lv := by
  obtain ⟨v3, e3, s3⟩ := s.cutB (p := .i64) (q := .i64) (a := 16) (b := 24) (by omega) (by omega)
  obtain ⟨v10, e10, s10⟩ := s.cutB (p := .i64) (q := .i64) (a := 12) (b := 16) (by omega) (by omega)
  have e3' : rCut 1 v (some (.int .i64 16)) (some (.int .i64 24)) none = some v3 := e3
  have e10' : rCut 1 v (some (.int .i64 12)) (some (.int .i64 16)) none = some v10 := e10
  have s3' : Bs h v3 ((l.drop 16).take 8) md := s3
  have s10' : Bs h v10 ((l.drop 12).take 4) md := s10
  rw [C_retain_slotOf H]; unfold F_retain_slotOf
  refine wp_box w rfl rfl fun p0 h0 hp0 k0 n0 g0 => ?_
  (try simp -dsimp (disch := omega) only [↓pre, sp, sp2, wp_some, Int.cast_ofNat_Int, Nat.reduceAdd, Nat.reduceMul, Nat.reduceSub, Nat.reduceLeDiff, Nat.reduceEqDiff, Nat.reducePow, Int.reduceToNat, Int.reducePow, Int.reduceAdd, Int.reduceSub, Int.reduceMul, Int.reduceLT, Int.reduceLE, Int.reduceEq, Int.reduceNeg, e3'])
  refine wp_box k0.w' rfl rfl fun p4 h1 hp4 k1 n1 g1 => ?_
  have k01 := k0.trans k1
  (try simp -dsimp (disch := omega) only [↓pre, sp, sp2, wp_some, Int.cast_ofNat_Int, Nat.reduceAdd, Nat.reduceMul, Nat.reduceSub, Nat.reduceLeDiff, Nat.reduceEqDiff, Nat.reducePow, Int.reduceToNat, Int.reducePow, Int.reduceAdd, Int.reduceSub, Int.reduceMul, Int.reduceLT, Int.reduceLE, Int.reduceEq, Int.reduceNeg])
  refine Wp.bind (numberOf_spec H n k1.w' (s.kp k01) (by omega) (by omega)) fun v5 h2 ⟨e5, k2⟩ => ?_
  subst e5
  have k02 := k01.trans k2
  have hu := unbe8 (l := (l.drop 16).take 8) (by rw [List.length_take]; omega)
  have hc := unbe4 (l := (l.drop 12).take 4) (by rw [List.length_take]; omega)
  have eg := get_spec H (n + 2) (s3'.kp k02) (by rw [List.length_take]; omega)
  generalize hsc : unbe ((l.drop 16).take 8) = sc at eg hu
  have hbd : rBuild [(.int .u64 0), (.int .u64 0), (.slice none 0 0), (.bool false)] [(0, 1), (1, 1), (2, 1), (3, 1)] [(0, .int .u64 (numOf l : Nat)), (1, .int .u64 (sc : Nat))] = some (.agg [.int .u64 (numOf l : Nat), .int .u64 (sc : Nat), .slice none 0 0, .bool false]) := rfl
  (try simp -dsimp (disch := omega) only [↓pre, sp, sp2, wp_some, Int.cast_ofNat_Int, Nat.reduceAdd, Nat.reduceMul, Nat.reduceSub, Nat.reduceLeDiff, Nat.reduceEqDiff, Nat.reducePow, Int.reduceToNat, Int.reducePow, Int.reduceAdd, Int.reduceSub, Int.reduceMul, Int.reduceLT, Int.reduceLE, Int.reduceEq, Int.reduceNeg, eg, hbd])
  refine wp_store k2.w' (k2.gt g1) rfl rfl (by simp) rfl fun h3 k3 n3 g3 => ?_
  have g3' : h3.get p4 = some ⟨.row [.int .u64 (numOf l : Nat), .int .u64 (sc : Nat), .slice none 0 0, .bool false] T_retain_slot false, .rw, []⟩ := g3
  have k03 : Kp h h3 := Ke.new_p k02 k3 fun i hi => by omega
  have g03 : h3.get p0 = _ := k3.gt (k2.gt (k1.gt g0)) (by omega)
  have eg2 := get_spec H (n + 2) (s10'.kp k03) (by rw [List.length_take]; omega)
  have ecn : unbe ((l.drop 12).take 4) = cntOf l := rfl
  rw [ecn] at eg2 hc
  have eq : Int.tdiv ((l.length : Int) - 24 - 4) 8 = (((l.length - 28) / 8 : Nat) : Int) := by
    rw [show (l.length : Int) - 24 - 4 = ((l.length - 28 : Nat) : Int) by omega]; exact (Int.ofNat_tdiv _ _).symm
  (try simp -dsimp (disch := omega) only [↓pre, sp, sp2, wp_some, Int.cast_ofNat_Int, Nat.reduceAdd, Nat.reduceMul, Nat.reduceSub, Nat.reduceLeDiff, Nat.reduceEqDiff, Nat.reducePow, Int.reduceToNat, Int.reducePow, Int.reduceAdd, Int.reduceSub, Int.reduceMul, Int.reduceLT, Int.reduceLE, Int.reduceEq, Int.reduceNeg, e10', eg2, s.len, eq])
  refine wp_ite (fun c => ?_) (fun c => ?_)
  · (try simp -dsimp (disch := omega) only [↓pre, sp, sp2, wp_some, Int.cast_ofNat_Int, Nat.reduceAdd, Nat.reduceMul, Nat.reduceSub, Nat.reduceLeDiff, Nat.reduceEqDiff, Nat.reducePow, Int.reduceToNat, Int.reducePow, Int.reduceAdd, Int.reduceSub, Int.reduceMul, Int.reduceLT, Int.reduceLE, Int.reduceEq, Int.reduceNeg, row_rw g3'])
    refine wp_store k3.w' g03 rfl rfl (by simp) rfl fun h4 k4 n4 g4 => ?_
    have g4' : h4.get p0 = some ⟨.row [.int .u64 (numOf l : Nat), .int .u64 (sc : Nat), .slice none 0 0, .bool false] T_retain_slot false, .rw, []⟩ := g4
    (try simp -dsimp (disch := omega) only [↓pre, sp, sp2, wp_some, Int.cast_ofNat_Int, Nat.reduceAdd, Nat.reduceMul, Nat.reduceSub, Nat.reduceLeDiff, Nat.reduceEqDiff, Nat.reducePow, Int.reduceToNat, Int.reducePow, Int.reduceAdd, Int.reduceSub, Int.reduceMul, Int.reduceLT, Int.reduceLE, Int.reduceEq, Int.reduceNeg, row_rw g4'])
    have e : slotB l = ⟨numOf l, sc, [], false⟩ := by unfold slotB; rw [if_pos (by omega), hsc]
    refine ⟨Ke.new_p k03 k4 fun i hi => by omega, .slice none 0 0, by rw [e]; rfl, by rw [e]; exact Ow.nil _ _ _ (by omega), fun i hi => hi.elim⟩
  · have hcn : cntOf l ≤ (l.length - 28) / 8 := by omega
    (try simp -dsimp (disch := omega) only [↓pre, sp, sp2, wp_some, Int.cast_ofNat_Int, Nat.reduceAdd, Nat.reduceMul, Nat.reduceSub, Nat.reduceLeDiff, Nat.reduceEqDiff, Nat.reducePow, Int.reduceToNat, Int.reducePow, Int.reduceAdd, Int.reduceSub, Int.reduceMul, Int.reduceLT, Int.reduceLE, Int.reduceEq, Int.reduceNeg])
    refine wp_loop (fun m y h2 => ∃ (i : Nat) (lv : AVal), y = [.int .i64 ((24 + 8 * i : Nat) : Int)] ∧ i + m = cntOf l ∧ Kp h h2 ∧ h2.get p0 = h0.get p0 ∧ h2.get p4 = some ⟨.row [.int .u64 (numOf l : Nat), .int .u64 (sc : Nat), lv, .bool false] T_retain_slot false, .rw, []⟩ ∧ Ow h2 lv T_int64 1 i (i64s (numsOf l i)) ∧ (∀ j, isBk lv j → h.n ≤ j ∧ j ≠ p0 ∧ j ≠ p4)) (cntOf l) (by omega)
      ⟨0, .slice none 0 0, rfl, by omega, k03, g03.trans g0.symm, g3', Ow.nil _ _ _ (by omega), fun i hi => hi.elim⟩ ?_
    rintro m _ h2 j ⟨i, lv, rfl, him, kk, gp0, gp4, ol, fl⟩ hj
    unfold L_retain_slotOf_0
    (try simp -dsimp (disch := omega) only [↓pre, sp, sp2, wp_some, Int.cast_ofNat_Int, Nat.reduceAdd, Nat.reduceMul, Nat.reduceSub, Nat.reduceLeDiff, Nat.reduceEqDiff, Nat.reducePow, Int.reduceToNat, Int.reducePow, Int.reduceAdd, Int.reduceSub, Int.reduceMul, Int.reduceLT, Int.reduceLE, Int.reduceEq, Int.reduceNeg])
    refine wp_ite (fun c2 => ?_) (fun c2 => ?_)
    · have hi : i < cntOf l := by omega
      obtain ⟨vc, ec, sc8⟩ := s.cutB (p := .i64) (q := .i64) (a := 24 + 8 * i) (b := 24 + 8 * i + 8) (by omega) (by omega)
      have sc8' : Bs h vc ((l.drop (24 + 8 * i)).take 8) md := sc8.to (by rw [show 24 + 8 * i + 8 - (24 + 8 * i) = 8 by omega]) (by rw [show 24 + 8 * i + 8 - (24 + 8 * i) = 8 by omega])
      have ei : IntKind.wrap .i64 (((24 + 8 * i : Nat) : Int) + 8) = ((24 + 8 * i + 8 : Nat) : Int) := by rw [wr_i64 (by omega) (by omega)]; omega
      have eg3 := get_spec H (n + 2) (sc8'.kp kk) (by rw [List.length_take]; omega)
      have eat : IntKind.wrap .i64 (unbe ((l.drop (24 + 8 * i)).take 8) : Int) = atOf l i := rfl
      (try simp -dsimp (disch := omega) only [↓pre, sp, sp2, wp_some, Int.cast_ofNat_Int, Nat.reduceAdd, Nat.reduceMul, Nat.reduceSub, Nat.reduceLeDiff, Nat.reduceEqDiff, Nat.reducePow, Int.reduceToNat, Int.reducePow, Int.reduceAdd, Int.reduceSub, Int.reduceMul, Int.reduceLT, Int.reduceLE, Int.reduceEq, Int.reduceNeg, row_rw gp4, ei, ec, eg3, eat])
      refine wp_buildSl kk.w' (by simp) rfl rfl fun q h5 hq k5 n5 g5 => ?_
      have s5 : Ow h5 (.slice (some (q, 0, 1)) 1 1) T_int64 1 1 (i64s [atOf l i]) := by subst hq; exact Ow.new g5 (by omega) 1 rfl rfl
      have gp45 := k5.gt gp4
      (try simp -dsimp (disch := omega) only [↓pre, sp, sp2, wp_some, Int.cast_ofNat_Int, Nat.reduceAdd, Nat.reduceMul, Nat.reduceSub, Nat.reduceLeDiff, Nat.reduceEqDiff, Nat.reducePow, Int.reduceToNat, Int.reducePow, Int.reduceAdd, Int.reduceSub, Int.reduceMul, Int.reduceLT, Int.reduceLE, Int.reduceEq, Int.reduceNeg, row_rw gp45])
      refine wp_append k5.w' (ol.kp k5) (Ow.rd s5) (i64s_cells _) (by omega) (by omega) fun lv6 h6 o6 k6 f6 => ?_
      have gp46 := k6.gt gp45 (fun hx => (fl _ hx).2.2 rfl)
      (try simp -dsimp (disch := omega) only [↓pre, sp, sp2, wp_some, Int.cast_ofNat_Int, Nat.reduceAdd, Nat.reduceMul, Nat.reduceSub, Nat.reduceLeDiff, Nat.reduceEqDiff, Nat.reducePow, Int.reduceToNat, Int.reducePow, Int.reduceAdd, Int.reduceSub, Int.reduceMul, Int.reduceLT, Int.reduceLE, Int.reduceEq, Int.reduceNeg])
      refine wp_store k6.w' gp46 (cells_of (Ow.isCell o6)) rfl (by simp) (by simp [Ow.isCell o6]) fun h7 k7 n7 g7 => ?_
      have g7' : h7.get p4 = some ⟨.row [.int .u64 (numOf l : Nat), .int .u64 (sc : Nat), lv6, .bool false] T_retain_slot false, .rw, []⟩ := g7
      have hf6 : ∀ j, isBk lv6 j → h.n ≤ j ∧ j ≠ p0 ∧ j ≠ p4 := fun j hj => by
        rcases f6 j hj with f | f
        · exact fl j f
        · have := kk.n; have := k5.n; have := (kk.w').lt _ _ gp4
          have := (kk.w').lt _ _ (gp0.trans g0)
          omega
      have ei2 : IntKind.wrap .i64 (((24 + 8 * i : Nat) : Int) + 8) = ((24 + 8 * (i + 1) : Nat) : Int) := by rw [wr_i64 (by omega) (by omega)]; omega
      (try simp -dsimp (disch := omega) only [↓pre, sp, sp2, wp_some, Int.cast_ofNat_Int, Nat.reduceAdd, Nat.reduceMul, Nat.reduceSub, Nat.reduceLeDiff, Nat.reduceEqDiff, Nat.reducePow, Int.reduceToNat, Int.reducePow, Int.reduceAdd, Int.reduceSub, Int.reduceMul, Int.reduceLT, Int.reduceLE, Int.reduceEq, Int.reduceNeg, ei2])
      refine hj (m - 1) _ _ (by omega) ⟨i + 1, lv6, rfl, by omega, Ke.new_p (Ke.new_p (kk.trans k5) k6 fun i hi => (fl i hi).1) k7 fun i hi => by omega, ?_, g7', (o6.ke k7 fun i hi hh => (hf6 i hi).2.2 hh).to (by rw [numsOf_succ, i64s_append]) rfl, hf6⟩
      rw [g0] at gp0 ⊢
      exact k7.gt (k6.gt (k5.gt gp0) (fun hx => (fl _ hx).2.1 rfl)) (by omega)
    · obtain rfl : i = cntOf l := by omega
      have e : slotB l = ⟨numOf l, sc, numsOf l (cntOf l), decide (0 < numOf l) && decide (s32 (l.take (24 + 8 * cntOf l)) = unbe ((l.drop (24 + 8 * cntOf l)).take 4))⟩ := by unfold slotB; rw [if_neg (by omega), hsc]
      have eg0 : (numOf l : Int) > 0 ↔ 0 < numOf l := by omega
      have fin : ∀ (b : Bool) (h5 : AH), Kp h h5 → h5.get p0 = h0.get p0 → h5.get p4 = some ⟨.row [.int .u64 (numOf l : Nat), .int .u64 (sc : Nat), lv, .bool false] T_retain_slot false, .rw, []⟩ → Ow h5 lv T_int64 1 (cntOf l) (i64s (numsOf l (cntOf l))) →
          b = (decide (0 < numOf l) && decide (s32 (l.take (24 + 8 * cntOf l)) = unbe ((l.drop (24 + 8 * cntOf l)).take 4))) →
          Wp (ke ((rStore 1 (.ptr (some (p4, 3))) (.bool b) h5).map fun h' => (.tuple [], h')) <| fun v68 h14 =>
            kq (rLoadA 4 (.ptr (some (p4, 0))) h14) <| fun v69 =>
            ke ((rStore 4 (.ptr (some (p0, 0))) v69 h14).map fun h' => (.tuple [], h')) <| fun v70 h15 =>
            kq (rLoadA 4 (.ptr (some (p0, 0))) h15) <| fun v71 =>
            some (v71, h15)) fun r h' => Kp h h' ∧ ∃ lv, r = .agg (slotC (slotB l) lv) ∧ Oi h' lv (slotB l).l ∧ Fresh h lv := by
        intro b h5 k5 gp05 gp45 o5 hb
        have lt0 := (k5.w').lt _ _ (gp05.trans g0)
        refine wp_store k5.w' gp45 rfl rfl (by simp) rfl fun h6 k6 n6 g6 => ?_
        have g6' : h6.get p4 = some ⟨.row [.int .u64 (numOf l : Nat), .int .u64 (sc : Nat), lv, .bool b] T_retain_slot false, .rw, []⟩ := g6
        (try simp -dsimp (disch := omega) only [↓pre, sp, sp2, wp_some, Int.cast_ofNat_Int, Nat.reduceAdd, Nat.reduceMul, Nat.reduceSub, Nat.reduceLeDiff, Nat.reduceEqDiff, Nat.reducePow, Int.reduceToNat, Int.reducePow, Int.reduceAdd, Int.reduceSub, Int.reduceMul, Int.reduceLT, Int.reduceLE, Int.reduceEq, Int.reduceNeg, row_rw g6'])
        refine wp_store k6.w' (k6.gt (gp05.trans g0) (by omega)) rfl rfl (by simp) (by show (true && (true && (lv.isCell && (true && true)))) = true; rw [Ow.isCell o5]; rfl) fun h7 k7 n7 g7 => ?_
        have g7' : h7.get p0 = some ⟨.row [.int .u64 (numOf l : Nat), .int .u64 (sc : Nat), lv, .bool b] T_retain_slot false, .rw, []⟩ := g7
        (try simp -dsimp (disch := omega) only [↓pre, sp, sp2, wp_some, Int.cast_ofNat_Int, Nat.reduceAdd, Nat.reduceMul, Nat.reduceSub, Nat.reduceLeDiff, Nat.reduceEqDiff, Nat.reducePow, Int.reduceToNat, Int.reducePow, Int.reduceAdd, Int.reduceSub, Int.reduceMul, Int.reduceLT, Int.reduceLE, Int.reduceEq, Int.reduceNeg, row_rw g7'])
        refine ⟨Ke.new_p (Ke.new_p k5 k6 fun i hi => by omega) k7 fun i hi => by omega, lv, by rw [e, hb]; rfl, ?_, fun i hi => (fl i hi).1⟩
        rw [e]
        exact ((o5.ke k6 fun i hi hh => (fl i hi).2.2 hh).ke k7 fun i hi hh => (fl i hi).2.1 hh).to rfl (by rw [numsOf_len])
      have s0 := s.kp kk
      have hle : 24 + 8 * cntOf l + 4 ≤ l.length := by omega
      by_cases c0 : 0 < numOf l
      · obtain ⟨va, ea_, sa, -⟩ := s0.cutR (q := .i64) (b := ((24 + 8 * cntOf l : Nat) : Int)) (by omega) (by omega)
        obtain ⟨vb, eb_, sb⟩ := s0.cutB (p := .i64) (q := .i64) (a := 24 + 8 * cntOf l) (b := 24 + 8 * cntOf l + 4) (by omega) (by omega)
        have sa' : Bs h2 va (l.take (24 + 8 * cntOf l)) md := sa.to (by rw [Int.toNat_natCast, Nat.mul_one, bytesOf_take]) (by rw [Int.toNat_natCast, List.length_take]; omega)
        have sb' : Bs h2 vb ((l.drop (24 + 8 * cntOf l)).take 4) md := sb.to (by rw [show 24 + 8 * cntOf l + 4 - (24 + 8 * cntOf l) = 4 by omega]) (by rw [show 24 + 8 * cntOf l + 4 - (24 + 8 * cntOf l) = 4 by omega])
        have e1 : (24 : Int) + 8 * (cntOf l : Int) = ((24 + 8 * cntOf l : Nat) : Int) := by omega
        have e2 : ((24 + 8 * cntOf l : Nat) : Int) + 4 = ((24 + 8 * cntOf l + 4 : Nat) : Int) := by omega
        have hs := s32_spec H (n + 2) sa' (by rw [List.length_take]; omega)
        have hg := get_spec H (n + 2) sb' (by rw [List.length_take]; omega)
        have hb1 := s32_lt (l.take (24 + 8 * cntOf l))
        (try simp -dsimp (disch := omega) only [↓pre, sp, sp2, wp_some, Int.cast_ofNat_Int, Nat.reduceAdd, Nat.reduceMul, Nat.reduceSub, Nat.reduceLeDiff, Nat.reduceEqDiff, Nat.reducePow, Int.reduceToNat, Int.reducePow, Int.reduceAdd, Int.reduceSub, Int.reduceMul, Int.reduceLT, Int.reduceLE, Int.reduceEq, Int.reduceNeg, row_rw gp4, eg0, c0, decide_true, e1, e2, ea_, eb_, hs, hg])
        exact fin _ h2 kk gp0 gp4 ol (by simp only [c0, decide_true, Bool.true_and, Int.natCast_inj])
      · (try simp -dsimp (disch := omega) only [↓pre, sp, sp2, wp_some, Int.cast_ofNat_Int, Nat.reduceAdd, Nat.reduceMul, Nat.reduceSub, Nat.reduceLeDiff, Nat.reduceEqDiff, Nat.reducePow, Int.reduceToNat, Int.reducePow, Int.reduceAdd, Int.reduceSub, Int.reduceMul, Int.reduceLT, Int.reduceLE, Int.reduceEq, Int.reduceNeg, row_rw gp4, eg0, c0, decide_false, gOn])
        exact fin false h2 kk gp0 gp4 ol (by simp [c0])
end Go.Proofs.Ytbcpmbggidemdaa.AI
