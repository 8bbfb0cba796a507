/- rungref3: the helps of frames, and those of TCP: what they come to. -/
import Derived.Test.YtfnmgclalcoplaaMbap
namespace Go.Proofs.Ytfnmgclalcoplaa.AI
open Go
set_option linter.unusedSimpArgs false
set_option linter.unusedVariables false
variable {ov : AOver} {h : AH} {v a b : AVal} {md md' : AMode}

theorem at_spec (H : Plain ov) (n : Nat) {l : List UInt8} (s : Bs h v l md) (hl : l.length ≤ 2 ^ 40) {i : Nat} (hi : i + 1 < l.length) :
    kc ov (n + 1) N_rungref3_at [v, .int .i64 i] h = some (.int .u16 (gb l i * 256 + gb l (i + 1)), h) := by
  have h0 := gb_lt l i; have h1 := gb_lt l (i + 1)
  rw [C_rungref3_at H]; unfold F_rungref3_at
  have e : ((i : Int) + 1).toNat = i + 1 := by omega
  simp -dsimp (disch := omega) only [↓pre, sp, sp2, wp_some, Int.cast_ofNat_Int, Nat.reduceAdd, Nat.reduceMul, Nat.reduceSub, Nat.reduceLeDiff, Nat.reduceEqDiff, Nat.reducePow, Int.reduceToNat, Int.reducePow, Int.reduceAdd, Int.reduceSub, Int.reduceMul, Int.reduceLT, Int.reduceLE, Int.reduceEq, Int.reduceNeg, s.at, s.ldb, e]

/-- Words as bytes, the higher first. -/
def twoB (ws : List Nat) : List UInt8 := ws.flatMap fun w => [UInt8.ofNat (w / 256), UInt8.ofNat (w % 256)]
def u16s (ws : List Nat) : List AVal := ws.map fun w : Nat => AVal.int .u16 (w : Int)
theorem u16s_length (ws : List Nat) : (u16s ws).length = ws.length := by simp [u16s]
theorem u16s_get {ws : List Nat} {i : Nat} (h : i < ws.length) : (u16s ws)[i]? = some (.int .u16 (ws[i] : Nat)) := by simp [u16s, h]
theorem twoB_length : ∀ ws : List Nat, (twoB ws).length = 2 * ws.length
  | [] => rfl
  | w :: ws => by
      have := twoB_length ws
      simp only [twoB, List.flatMap_cons, List.length_append, List.length_cons, List.length_nil] at this ⊢
      omega
theorem twoB_append (a b : List Nat) : twoB (a ++ b) = twoB a ++ twoB b := by simp [twoB]
theorem two_spec (H : Plain ov) (n : Nat) (w : Wf h) {c : List UInt8} {ws : List Nat} (hw : ∀ x ∈ ws, x < 65536) (o : Ob h v c) (s : Sz h a 1 ws.length (u16s ws) md) (hs : md = .ro ∨ ¬ isBk v (bk a)) (hf : bk a < h.n) (hl : c.length + 2 * ws.length ≤ 2 ^ 40) :
    Wp (kc ov (n + 1) N_rungref3_two [v, a] h) fun r h' => Ob h' r (c ++ twoB ws) ∧ Ke (isBk v) h h' ∧ ∀ i, isBk r i → isBk v i ∨ h.n ≤ i := by
  rw [C_rungref3_two H]; unfold F_rungref3_two
  simp -dsimp (disch := omega) only [↓pre, sp, sp2, wp_some, Int.cast_ofNat_Int, Nat.reduceAdd, Nat.reduceMul, Nat.reduceSub, Nat.reduceLeDiff, Nat.reduceEqDiff, Nat.reducePow, Int.reduceToNat, Int.reducePow, Int.reduceAdd, Int.reduceSub, Int.reduceMul, Int.reduceLT, Int.reduceLE, Int.reduceEq, Int.reduceNeg]
  refine wp_loop (fun m l h1 => ∃ (i : Nat) (x : AVal), l = [x, .int .i64 i] ∧ i + m = ws.length ∧ Ob h1 x (c ++ twoB (ws.take i)) ∧ Ke (isBk v) h h1 ∧ ∀ j, isBk x j → isBk v j ∨ h.n ≤ j) ws.length (by omega)
    ⟨0, v, rfl, by omega, by simpa [twoB] using o, Ke.refl w, fun j hj => .inl hj⟩ ?_
  rintro m _ h1 j ⟨i, x, rfl, him, o1, k1, f1⟩ hj
  have hs' : md = .ro ∨ ¬ isBk v (bk a) := hs
  have s1 := s.ke k1 hs'
  unfold L_rungref3_two_0
  simp -dsimp (disch := omega) only [↓pre, sp, sp2, wp_some, Int.cast_ofNat_Int, Nat.reduceAdd, Nat.reduceMul, Nat.reduceSub, Nat.reduceLeDiff, Nat.reduceEqDiff, Nat.reducePow, Int.reduceToNat, Int.reducePow, Int.reduceAdd, Int.reduceSub, Int.reduceMul, Int.reduceLT, Int.reduceLE, Int.reduceEq, Int.reduceNeg, s1.len]
  refine wp_ite (fun c1 => ?_) (fun c1 => ?_)
  · have hi : i < ws.length := by omega
    have hx : ws[i] < 65536 := hw _ (List.getElem_mem hi)
    have ld : ∀ {h2 : AH}, Sz h2 a 1 ws.length (u16s ws) md → rLoad (ea a i) h2 = some (.int .u16 (ws[i] : Nat)) := fun s2 => by rw [s2.ld (by rw [u16s_length]; exact hi), u16s_get hi]
    simp -dsimp (disch := omega) only [↓pre, sp, sp2, wp_some, Int.cast_ofNat_Int, Nat.reduceAdd, Nat.reduceMul, Nat.reduceSub, Nat.reduceLeDiff, Nat.reduceEqDiff, Nat.reducePow, Int.reduceToNat, Int.reducePow, Int.reduceAdd, Int.reduceSub, Int.reduceMul, Int.reduceLT, Int.reduceLE, Int.reduceEq, Int.reduceNeg, s1.at, ld s1]
    have b1 : ((UInt8.ofNat (ws[i] / 256)).toNat : Int) = ((ws[i] : Nat) : Int) / 256 := by simp; omega
    have b2 := lo8 ws[i]
    simp -dsimp (disch := omega) only [↓pre, sp, sp2, wp_some, Int.cast_ofNat_Int, Nat.reduceAdd, Nat.reduceMul, Nat.reduceSub, Nat.reduceLeDiff, Nat.reduceEqDiff, Nat.reducePow, Int.reduceToNat, Int.reducePow, Int.reduceAdd, Int.reduceSub, Int.reduceMul, Int.reduceLT, Int.reduceLE, Int.reduceEq, Int.reduceNeg, b2]
    rw [← b1]
    refine wp_buildSl (cs := bytesOf [UInt8.ofNat (ws[i] / 256), UInt8.ofNat (ws[i] % 256)]) k1.w' ⟨by decide, rfl, by decide⟩ rfl (isCell_bytes _) fun q h2 hq k2 n2 g2 => ?_
    have s2 := s1.kp k2
    simp -dsimp (disch := omega) only [↓pre, sp, sp2, wp_some, Int.cast_ofNat_Int, Nat.reduceAdd, Nat.reduceMul, Nat.reduceSub, Nat.reduceLeDiff, Nat.reduceEqDiff, Nat.reducePow, Int.reduceToNat, Int.reducePow, Int.reduceAdd, Int.reduceSub, Int.reduceMul, Int.reduceLT, Int.reduceLE, Int.reduceEq, Int.reduceNeg, ld s2]
    have sq : Bs h2 (.slice (some (q, 0, 1)) 2 2) [UInt8.ofNat (ws[i] / 256), UInt8.ofNat (ws[i] % 256)] .rw := (Ow.new g2 (by omega) 2 rfl (isCell_bytes _)).rd
    have hlen : (c ++ twoB (ws.take i)).length ≤ c.length + 2 * i := by
      rw [List.length_append, twoB_length, List.length_take]
      omega
    refine wp_append k2.w' (o1.kp k2) sq (isCell_bytes _) (by omega) (by simp only [List.length_cons, List.length_nil]; omega) fun x' h3 o3 k3 f3 => ?_
    rw [← bytesOf_append] at o3
    have e1 : IntKind.wrap .i64 ((i : Int) + 1) = ((i + 1 : Nat) : Int) := by rw [wr_i64 (by omega) (by omega)]; omega
    simp -dsimp (disch := omega) only [↓pre, sp, sp2, wp_some, Int.cast_ofNat_Int, Nat.reduceAdd, Nat.reduceMul, Nat.reduceSub, Nat.reduceLeDiff, Nat.reduceEqDiff, Nat.reducePow, Int.reduceToNat, Int.reducePow, Int.reduceAdd, Int.reduceSub, Int.reduceMul, Int.reduceLT, Int.reduceLE, Int.reduceEq, Int.reduceNeg, e1]
    refine hj (m - 1) _ _ (by omega) ⟨i + 1, x', ?_, by omega, o3.to ?_ ?_, ?_, ?_⟩
    · rfl
    · rw [List.take_succ_eq_append_getElem hi, twoB_append, List.append_assoc]
      rfl
    · simp only [List.length_append, twoB_length, List.length_take, List.length_cons, List.length_nil]
      omega
    · exact Ke.new (k1.trans (Kp.ke k2)) k3 fun i hi => f1 i hi
    · intro i hi
      rcases f3 i hi with f | f
      · exact f1 i f
      · have := k1.n; omega
  · simp -dsimp (disch := omega) only [↓pre, sp, sp2, wp_some, Int.cast_ofNat_Int, Nat.reduceAdd, Nat.reduceMul, Nat.reduceSub, Nat.reduceLeDiff, Nat.reduceEqDiff, Nat.reducePow, Int.reduceToNat, Int.reducePow, Int.reduceAdd, Int.reduceSub, Int.reduceMul, Int.reduceLT, Int.reduceLE, Int.reduceEq, Int.reduceNeg]
    have : i = ws.length := by omega
    subst this
    exact ⟨by simpa using o1, k1, f1⟩

theorem mbap_spec (H : Plain ov) (n : Nat) (w : Wf h) {l : List UInt8} {id un : Nat} (hid : id < 65536) (hun : un < 256) (s : Bs h v l md) :
    Wp (kc ov (n + 2) N_rungref3_Mbap [.agg [.int .u16 id, .int .u8 un, v]] h) fun r h' => WriteQ h h' r id un l := by
  rw [C_rungref3_Mbap H]; unfold F_rungref3_Mbap
  refine wp_box w rfl (by simp only [ic, s.isCell]) fun p h1 hp k1 n1 g1 => ?_
  have s1 := s.kp k1
  simp -dsimp (disch := omega) only [↓pre, sp, sp2, wp_some, Int.cast_ofNat_Int, Nat.reduceAdd, Nat.reduceMul, Nat.reduceSub, Nat.reduceLeDiff, Nat.reduceEqDiff, Nat.reducePow, Int.reduceToNat, Int.reducePow, Int.reduceAdd, Int.reduceSub, Int.reduceMul, Int.reduceLT, Int.reduceLE, Int.reduceEq, Int.reduceNeg, row_rw g1, s1.len]
  refine wp_kT (.bool (decide (l.length < 1 ∨ 253 < l.length))) (fun j hj => ?_) ?_
  · by_cases c : (l.length : Int) < 1
    · simp -dsimp (disch := omega) only [↓pre, sp, sp2, wp_some, Int.cast_ofNat_Int, Nat.reduceAdd, Nat.reduceMul, Nat.reduceSub, Nat.reduceLeDiff, Nat.reduceEqDiff, Nat.reducePow, Int.reduceToNat, Int.reducePow, Int.reduceAdd, Int.reduceSub, Int.reduceMul, Int.reduceLT, Int.reduceLE, Int.reduceEq, Int.reduceNeg, c, decide_true]; simpa [show l.length < 1 by omega] using hj
    · simp -dsimp (disch := omega) only [↓pre, sp, sp2, wp_some, Int.cast_ofNat_Int, Nat.reduceAdd, Nat.reduceMul, Nat.reduceSub, Nat.reduceLeDiff, Nat.reduceEqDiff, Nat.reducePow, Int.reduceToNat, Int.reducePow, Int.reduceAdd, Int.reduceSub, Int.reduceMul, Int.reduceLT, Int.reduceLE, Int.reduceEq, Int.reduceNeg, c, decide_false, row_rw g1, s1.len]
      have e : ((l.length : Int) > 253) ↔ 253 < l.length := by omega
      have e2 : ¬ l.length < 1 := by omega
      simpa only [e, e2, false_or] using hj
  simp -dsimp (disch := omega) only [↓pre, sp, sp2, wp_some, Int.cast_ofNat_Int, Nat.reduceAdd, Nat.reduceMul, Nat.reduceSub, Nat.reduceLeDiff, Nat.reduceEqDiff, Nat.reducePow, Int.reduceToNat, Int.reducePow, Int.reduceAdd, Int.reduceSub, Int.reduceMul, Int.reduceLT, Int.reduceLE, Int.reduceEq, Int.reduceNeg, row_rw g1, s1.len]
  refine wp_ite (fun c => ?_) (fun c => ?_)
  · simp -dsimp (disch := omega) only [↓pre, sp, sp2, wp_some, Int.cast_ofNat_Int, Nat.reduceAdd, Nat.reduceMul, Nat.reduceSub, Nat.reduceLeDiff, Nat.reduceEqDiff, Nat.reducePow, Int.reduceToNat, Int.reducePow, Int.reduceAdd, Int.reduceSub, Int.reduceMul, Int.reduceLT, Int.reduceLE, Int.reduceEq, Int.reduceNeg]
    exact ⟨k1, by rw [if_pos c]⟩
  refine wp_buildSl (cs := u16s [id, 0, l.length + 1]) k1.w' ⟨by decide, rfl, by decide⟩ rfl rfl fun q h2 hq k2 n2 g2 => ?_
  have g1a := k2.gt g1
  simp -dsimp (disch := omega) only [↓pre, sp, sp2, wp_some, Int.cast_ofNat_Int, Nat.reduceAdd, Nat.reduceMul, Nat.reduceSub, Nat.reduceLeDiff, Nat.reduceEqDiff, Nat.reducePow, Int.reduceToNat, Int.reducePow, Int.reduceAdd, Int.reduceSub, Int.reduceMul, Int.reduceLT, Int.reduceLE, Int.reduceEq, Int.reduceNeg, row_rw g1a]
  refine wp_buildSl (cs := [.int .u8 un]) k2.w' ⟨by decide, rfl, by decide⟩ rfl rfl fun q3 h3 hq3 k3 n3 g3 => ?_
  have g1b := k3.gt g1a
  simp -dsimp (disch := omega) only [↓pre, sp, sp2, wp_some, Int.cast_ofNat_Int, Nat.reduceAdd, Nat.reduceMul, Nat.reduceSub, Nat.reduceLeDiff, Nat.reduceEqDiff, Nat.reducePow, Int.reduceToNat, Int.reducePow, Int.reduceAdd, Int.reduceSub, Int.reduceMul, Int.reduceLT, Int.reduceLE, Int.reduceEq, Int.reduceNeg, row_rw g1b]
  have sw : Sz h3 (.slice (some (q, 0, 1)) 3 3) 1 [id, 0, l.length + 1].length (u16s [id, 0, l.length + 1]) .rw := (Ow.new (k3.gt g2) (by omega) 3 rfl rfl).rd
  refine Wp.bind (two_spec H n k3.w' (c := []) (by simp; omega) (Ow.nil h3 _ _ (by omega)) sw (.inr fun x => x) (by simp only [bk]; omega) (by simp)) fun v4 h4 ⟨o4, k4, f4⟩ => ?_
  have k4' : Kp h3 h4 := k4.mono fun _ f => f.elim
  have g1c := k4'.gt g1b
  simp -dsimp (disch := omega) only [↓pre, sp, sp2, wp_some, Int.cast_ofNat_Int, Nat.reduceAdd, Nat.reduceMul, Nat.reduceSub, Nat.reduceLeDiff, Nat.reduceEqDiff, Nat.reducePow, Int.reduceToNat, Int.reducePow, Int.reduceAdd, Int.reduceSub, Int.reduceMul, Int.reduceLT, Int.reduceLE, Int.reduceEq, Int.reduceNeg, row_rw g1c]
  have s3 : Sz h4 (.slice (some (q3, 0, 1)) 1 1) 1 1 (bytesOf [UInt8.ofNat un]) .rw := ((Ow.new (k4'.gt g3) (by omega) 1 rfl rfl).rd).to (by simp [bytesOf]; omega) rfl
  refine wp_append k4.w' o4 s3 (isCell_bytes _) (by omega) (by simp [twoB]) fun v5 h5 o5 k5 f5 => ?_
  rw [← bytesOf_append] at o5
  have g1d := k5.gt g1c (fun hb => by have := f4 _ hb; simp only [isBk, false_or] at this; omega)
  simp -dsimp (disch := omega) only [↓pre, sp, sp2, wp_some, Int.cast_ofNat_Int, Nat.reduceAdd, Nat.reduceMul, Nat.reduceSub, Nat.reduceLeDiff, Nat.reduceEqDiff, Nat.reducePow, Int.reduceToNat, Int.reducePow, Int.reduceAdd, Int.reduceSub, Int.reduceMul, Int.reduceLT, Int.reduceLE, Int.reduceEq, Int.reduceNeg, row_rw g1d]
  have K4 : Kp h h4 := k1.trans (k2.trans (k3.trans k4'))
  have hh := n1; have hn3 := k3.n; have hn4 := k4.n
  have K5 : Kp h h5 := Ke.new_p K4 k5 fun i hi => by have := f4 i hi; simp only [isBk, false_or] at this; omega
  refine wp_append k5.w' o5 (s.kp K5) (isCell_bytes l) (by omega) (by simp [twoB]; omega) fun v6 h6 o6 k6 f6 => ?_
  rw [← bytesOf_append] at o6
  simp -dsimp (disch := omega) only [↓pre, sp, sp2, wp_some, Int.cast_ofNat_Int, Nat.reduceAdd, Nat.reduceMul, Nat.reduceSub, Nat.reduceLeDiff, Nat.reduceEqDiff, Nat.reducePow, Int.reduceToNat, Int.reducePow, Int.reduceAdd, Int.reduceSub, Int.reduceMul, Int.reduceLT, Int.reduceLE, Int.reduceEq, Int.reduceNeg]
  have f5' : ∀ i, isBk v5 i → h.n ≤ i := fun i hi => by
    rcases f5 i hi with f | f
    · have := f4 i f; simp only [isBk, false_or] at this; omega
    · omega
  refine ⟨Ke.new_p K5 k6 f5', ?_⟩
  rw [if_neg c]
  refine ⟨v6, rfl, o6.to ?_ ?_, fun i hi => ?_⟩
  · simp [twoB, headOf]
  · simp [twoB, headOf]; omega
  · rcases f6 i hi with f | f
    · exact f5' i f
    · have := K5.n; omega

theorem openMbap_specF (H : Plain ov) (n : Nat) (w : Wf h) {l : List UInt8} (s : Bs h v l md) (hl : l.length ≤ 2 ^ 40) :
    Wp (kc ov (n + 2) N_rungref3_OpenMbap [v] h) fun r h' => OpenF h h' r (openM l) := by
  rw [C_rungref3_OpenMbap H]; unfold F_rungref3_OpenMbap
  refine wp_box w rfl rfl fun p h1 hp k1 n1 g1 => ?_
  have s1 := s.kp k1
  have bad : ∀ (h2 : AH) (e : Nat) (K : AVal → AH → Ans), Kp h h2 → h2.get p = h1.get p → (∀ h3 v, h3.row p = some [.int .u16 0, .int .u8 0, .slice none 0 0] → K v h3 = some (.tuple [.agg [.int .u16 0, .int .u8 0, .slice none 0 0], .int .i64 0, .int .i64 e], h3)) →
      Wp (ke ((rStore 3 (.ptr (some (p, 0))) (.agg [.int .u16 0, .int .u8 0, .slice none 0 0]) h2).map fun h' => (.tuple [], h')) K) fun r h' => OpenF h h' r (0, 0, [], 0, e) := by
    intro h2 e K k2 e2 hK
    rw [g1] at e2
    refine wp_store k2.w' e2 rfl rfl (by decide) rfl fun h3 k3 n3 g3 => ?_
    rw [hK h3 _ (row_rw g3)]
    exact Wp.ret ⟨Ke.new_p k2 k3 (fun i hi => by omega), _, rfl, Sz.nil _ _ (by omega) _, fun i hi => hi.elim⟩
  have h0 := gb_lt l 0; have h1' := gb_lt l 1; have h2' := gb_lt l 2; have h3' := gb_lt l 3; have h4 := gb_lt l 4; have h5 := gb_lt l 5; have h6 := gb_lt l 6
  simp -dsimp (disch := omega) only [↓pre, sp, sp2, wp_some, Int.cast_ofNat_Int, Nat.reduceAdd, Nat.reduceMul, Nat.reduceSub, Nat.reduceLeDiff, Nat.reduceEqDiff, Nat.reducePow, Int.reduceToNat, Int.reducePow, Int.reduceAdd, Int.reduceSub, Int.reduceMul, Int.reduceLT, Int.reduceLE, Int.reduceEq, Int.reduceNeg, s1.len]
  refine wp_ite (fun c => ?_) (fun c => ?_)
  · have : openM l = (0, 0, [], 0, 0) := by unfold openM; rw [if_pos (by omega)]
    rw [this]
    exact bad h1 0 _ k1 rfl fun h3 v r => by simp -dsimp (disch := omega) only [↓pre, sp, sp2, wp_some, Int.cast_ofNat_Int, Nat.reduceAdd, Nat.reduceMul, Nat.reduceSub, Nat.reduceLeDiff, Nat.reduceEqDiff, Nat.reducePow, Int.reduceToNat, Int.reducePow, Int.reduceAdd, Int.reduceSub, Int.reduceMul, Int.reduceLT, Int.reduceLE, Int.reduceEq, Int.reduceNeg, r]; try rfl
  have a4 := at_spec H n s1 hl (i := 4) (by omega)
  have a2 := at_spec H n s1 hl (i := 2) (by omega)
  have a0 := at_spec H n s1 hl (i := 0) (by omega)
  simp only [Nat.reduceAdd, Int.cast_ofNat_Int] at a4 a2 a0
  simp -dsimp (disch := omega) only [↓pre, sp, sp2, wp_some, Int.cast_ofNat_Int, Nat.reduceAdd, Nat.reduceMul, Nat.reduceSub, Nat.reduceLeDiff, Nat.reduceEqDiff, Nat.reducePow, Int.reduceToNat, Int.reducePow, Int.reduceAdd, Int.reduceSub, Int.reduceMul, Int.reduceLT, Int.reduceLE, Int.reduceEq, Int.reduceNeg, a4, a2]
  refine wp_ite (fun c2 => ?_) (fun c2 => ?_)
  · have : openM l = (0, 0, [], 0, 41) := by unfold openM; rw [if_neg (by omega), if_pos (by omega)]
    rw [this]
    exact bad h1 41 _ k1 rfl fun h3 v r => by simp -dsimp (disch := omega) only [↓pre, sp, sp2, wp_some, Int.cast_ofNat_Int, Nat.reduceAdd, Nat.reduceMul, Nat.reduceSub, Nat.reduceLeDiff, Nat.reduceEqDiff, Nat.reducePow, Int.reduceToNat, Int.reducePow, Int.reduceAdd, Int.reduceSub, Int.reduceMul, Int.reduceLT, Int.reduceLE, Int.reduceEq, Int.reduceNeg, r]; try rfl
  refine wp_kT (.bool (decide (gb l 4 * 256 + gb l 5 < 2 ∨ 254 < gb l 4 * 256 + gb l 5))) (fun j hj => ?_) ?_
  · by_cases c3 : (gb l 4 : Int) * 256 + gb l 5 < 2
    · simp -dsimp (disch := omega) only [↓pre, sp, sp2, wp_some, Int.cast_ofNat_Int, Nat.reduceAdd, Nat.reduceMul, Nat.reduceSub, Nat.reduceLeDiff, Nat.reduceEqDiff, Nat.reducePow, Int.reduceToNat, Int.reducePow, Int.reduceAdd, Int.reduceSub, Int.reduceMul, Int.reduceLT, Int.reduceLE, Int.reduceEq, Int.reduceNeg, c3, decide_true]
      have e3 : gb l 4 * 256 + gb l 5 < 2 := by omega
      simpa [e3] using hj
    · simp -dsimp (disch := omega) only [↓pre, sp, sp2, wp_some, Int.cast_ofNat_Int, Nat.reduceAdd, Nat.reduceMul, Nat.reduceSub, Nat.reduceLeDiff, Nat.reduceEqDiff, Nat.reducePow, Int.reduceToNat, Int.reducePow, Int.reduceAdd, Int.reduceSub, Int.reduceMul, Int.reduceLT, Int.reduceLE, Int.reduceEq, Int.reduceNeg, c3, decide_false]
      have e3 : ¬ gb l 4 * 256 + gb l 5 < 2 := by omega
      have e4 : ((gb l 4 : Int) * 256 + gb l 5 > 254) ↔ 254 < gb l 4 * 256 + gb l 5 := by omega
      simpa [e3, e4] using hj
  simp -dsimp (disch := omega) only [↓pre, sp, sp2, wp_some, Int.cast_ofNat_Int, Nat.reduceAdd, Nat.reduceMul, Nat.reduceSub, Nat.reduceLeDiff, Nat.reduceEqDiff, Nat.reducePow, Int.reduceToNat, Int.reducePow, Int.reduceAdd, Int.reduceSub, Int.reduceMul, Int.reduceLT, Int.reduceLE, Int.reduceEq, Int.reduceNeg, s1.len]
  refine wp_ite (fun c3 => ?_) (fun c3 => ?_)
  · have : openM l = (0, 0, [], 0, 40) := by unfold openM; rw [if_neg (by omega), if_neg (by omega), if_pos c3]
    rw [this]
    exact bad h1 40 _ k1 rfl fun h3 v r => by simp -dsimp (disch := omega) only [↓pre, sp, sp2, wp_some, Int.cast_ofNat_Int, Nat.reduceAdd, Nat.reduceMul, Nat.reduceSub, Nat.reduceLeDiff, Nat.reduceEqDiff, Nat.reducePow, Int.reduceToNat, Int.reducePow, Int.reduceAdd, Int.reduceSub, Int.reduceMul, Int.reduceLT, Int.reduceLE, Int.reduceEq, Int.reduceNeg, r]; try rfl
  refine wp_ite (fun c4 => ?_) (fun c4 => ?_)
  · have : openM l = (0, 0, [], 0, 0) := by unfold openM; rw [if_neg (by omega), if_neg (by omega), if_neg c3, if_pos (by omega)]
    rw [this]
    exact bad h1 0 _ k1 rfl fun h3 v r => by simp -dsimp (disch := omega) only [↓pre, sp, sp2, wp_some, Int.cast_ofNat_Int, Nat.reduceAdd, Nat.reduceMul, Nat.reduceSub, Nat.reduceLeDiff, Nat.reduceEqDiff, Nat.reducePow, Int.reduceToNat, Int.reducePow, Int.reduceAdd, Int.reduceSub, Int.reduceMul, Int.reduceLT, Int.reduceLE, Int.reduceEq, Int.reduceNeg, r]; try rfl
  have ho : openM l = (gb l 0 * 256 + gb l 1, gb l 6, (l.take (6 + (gb l 4 * 256 + gb l 5))).drop 7, 6 + (gb l 4 * 256 + gb l 5), 0) := by
    unfold openM; rw [if_neg (by omega), if_neg (by omega), if_neg c3, if_neg (by omega)]
  rw [ho]
  obtain ⟨v', e1, s', _⟩ := s1.cut2 (p := .i64) (q := .i64) (a := 7) (b := 6 + ((gb l 4 : Int) * 256 + gb l 5)) (by omega) (by omega) (by omega)
  simp -dsimp (disch := omega) only [↓pre, sp, sp2, wp_some, Int.cast_ofNat_Int, Nat.reduceAdd, Nat.reduceMul, Nat.reduceSub, Nat.reduceLeDiff, Nat.reduceEqDiff, Nat.reducePow, Int.reduceToNat, Int.reducePow, Int.reduceAdd, Int.reduceSub, Int.reduceMul, Int.reduceLT, Int.reduceLE, Int.reduceEq, Int.reduceNeg, s1.at, s1.ldb, e1, a0]
  have s2 : Bs h1 v' ((l.take (6 + (gb l 4 * 256 + gb l 5))).drop 7) md := s'.to (by rw [bytesOf_take, bytesOf_drop]; congr 2; congr 1; omega) (by simp; omega)
  refine wp_append k1.w' (Ow.nil h1 T_uint8 1 (by omega)) s2 (isCell_bytes _) (by omega) (by simp; omega) fun v2 h7 o7 k7' f7 => ?_
  have k7 : Kp h1 h7 := k7'.mono fun _ f => f.elim
  have s7 := s1.kp k7
  have g7 := k7.gt g1
  simp -dsimp (disch := omega) only [↓pre, sp, sp2, wp_some, Int.cast_ofNat_Int, Nat.reduceAdd, Nat.reduceMul, Nat.reduceSub, Nat.reduceLeDiff, Nat.reduceEqDiff, Nat.reducePow, Int.reduceToNat, Int.reducePow, Int.reduceAdd, Int.reduceSub, Int.reduceMul, Int.reduceLT, Int.reduceLE, Int.reduceEq, Int.reduceNeg, cells_of o7.isCell, splice_def, s7.ldb]
  refine wp_store k7.w' g7 rfl rfl (by decide) (by simp only [ic, o7.isCell]) fun h8 k8 n8 g8 => ?_
  simp -dsimp (disch := omega) only [↓pre, sp, sp2, wp_some, Int.cast_ofNat_Int, Nat.reduceAdd, Nat.reduceMul, Nat.reduceSub, Nat.reduceLeDiff, Nat.reduceEqDiff, Nat.reducePow, Int.reduceToNat, Int.reducePow, Int.reduceAdd, Int.reduceSub, Int.reduceMul, Int.reduceLT, Int.reduceLE, Int.reduceEq, Int.reduceNeg, row_rw g8, splice_def]
  refine ⟨Ke.new_p (k1.trans k7) k8 (fun i hi => by omega), v2, by simp, ?_⟩
  have f7' : ∀ i, isBk v2 i → h1.n ≤ i := fun i hi => by
    have := f7 i hi
    simp only [isBk, false_or] at this; omega
  exact ⟨(o7.ke k8 fun i hi e => by have := f7' i hi; omega).rd.to (by simp) (by simp), fun i hi => by have := f7' i hi; omega⟩
theorem openMbap_spec (H : Plain ov) (n : Nat) (w : Wf h) {l : List UInt8} (s : Bs h v l md) (hl : l.length ≤ 2 ^ 40) :
    Wp (kc ov (n + 2) N_rungref3_OpenMbap [v] h) fun r h' => OpenQ h h' r (openM l) :=
  (openMbap_specF H n w s hl).mono fun r h' ⟨k, p, e, b, _⟩ => ⟨k, p, e, b⟩
end Go.Proofs.Ytfnmgclalcoplaa.AI
