/- slices.Concat of bytes. -/
import Derived.Test.YtpbkgmcpelhlpaaHelp
namespace Go.Proofs.Ytpbkgmcpelhlpaa.AI
open Go
set_option linter.unusedSimpArgs false
set_option linter.unusedVariables false
variable {ov : AOver} {h : AH} {v : AVal} {md : AMode}

/-- Parts: each reads as so many bytes. -/
def Parts (h : AH) : List AVal → List (List UInt8) → Prop
  | [], [] => True
  | v :: vs, l :: ls => (∃ md, Bs h v l md) ∧ Parts h vs ls
  | _, _ => False
theorem Parts.len : ∀ {vs : List AVal} {ls : List (List UInt8)}, Parts h vs ls → vs.length = ls.length
  | [], [], _ => rfl
  | _ :: _, _ :: _, ⟨_, p⟩ => by simp [Parts.len p]
  | [], _ :: _, p => p.elim
  | _ :: _, [], p => p.elim
theorem Parts.at : ∀ {vs : List AVal} {ls : List (List UInt8)}, Parts h vs ls → ∀ {i : Nat}, i < vs.length → ∃ v l md, vs[i]? = some v ∧ ls[i]? = some l ∧ Bs h v l md
  | v :: _, l :: _, ⟨⟨md, b⟩, p⟩, 0, _ => ⟨v, l, md, rfl, rfl, b⟩
  | _ :: vs, _ :: ls, ⟨_, p⟩, i + 1, hi => by
      obtain ⟨v, l, md, e1, e2, b⟩ := Parts.at p (i := i) (by simpa using hi)
      exact ⟨v, l, md, by simpa using e1, by simpa using e2, b⟩
  | [], [], _, i, hi => by simp at hi
  | [], _ :: _, p, _, _ => p.elim
  | _ :: _, [], p, _, _ => p.elim
theorem Parts.kp {h' : AH} (k : Kp h h') : ∀ {vs : List AVal} {ls : List (List UInt8)}, Parts h vs ls → Parts h' vs ls
  | [], [], _ => trivial
  | _ :: _, _ :: _, ⟨⟨md, b⟩, p⟩ => ⟨⟨md, b.kp k⟩, Parts.kp k p⟩
  | [], _ :: _, p => p.elim
  | _ :: _, [], p => p.elim
theorem sum_take_le (ls : List (List UInt8)) (i : Nat) : ((ls.take i).flatten).length ≤ ls.flatten.length := by
  have : (ls.flatten).length = ((ls.take i ++ ls.drop i).flatten).length := by rw [List.take_append_drop]
  rw [this, List.flatten_append, List.length_append]; omega
theorem flat_succ {ls : List (List UInt8)} {i : Nat} {l : List UInt8} (e : ls[i]? = some l) : (ls.take (i + 1)).flatten = (ls.take i).flatten ++ l := by
  have hi : i < ls.length := by
    rcases Nat.lt_or_ge i ls.length with h | h
    · exact h
    · rw [List.getElem?_eq_none h] at e; cases e
  rw [List.getElem?_eq_getElem hi] at e
  cases e
  rw [List.take_succ_eq_append_getElem hi, List.flatten_append]; simp

theorem grow_spec (H : Plain ov) (k : Nat) (w : Wf h) {n : Nat} (hn : n ≤ 2 ^ 40) :
    Wp (kc ov (k + 1) N_slices_Grow___byte_byte_ [.slice none 0 0, .int .i64 n] h) fun r h' => Kp h h' ∧
      ((n = 0 ∧ r = .slice none 0 0) ∨ (0 < n ∧ ∃ p, h.n ≤ p ∧ r = .slice (some (p, 0, 1)) 0 n ∧ h'.get p = some ⟨.row (bytesOf (List.replicate n 0)) T_uint8 true, .rw, []⟩)) := by
  rw [C_slices_Grow___byte_byte_ H]; unfold F_slices_Grow___byte_byte_
  have hc1 : rCap (.slice none 0 0) h = some (.int .i64 0) := rfl
  have hc2 : rCut 1 (.slice none 0 0) none (some (.int .i64 0)) none = some (.slice none 0 0) := rfl
  have hlt : ¬ ((n : Int) < 0) := by omega
  (try simp -dsimp (disch := omega) only [↓pre, sp, sp2, wp_some, Int.cast_ofNat_Int, Nat.reduceAdd, Nat.reduceMul, Nat.reduceSub, Nat.reduceLeDiff, Nat.reduceEqDiff, Nat.reducePow, Int.reduceToNat, Int.reducePow, Int.reduceAdd, Int.reduceSub, Int.reduceMul, Int.reduceLT, Int.reduceLE, Int.reduceEq, Int.reduceNeg, hlt, decide_false])
  refine wp_kJ (fun l h1 => h = h1) (fun j hj => hj _ _ rfl) ?_
  rintro _ _ rfl
  (try simp -dsimp (disch := omega) only [↓pre, sp, sp2, wp_some, Int.cast_ofNat_Int, Nat.reduceAdd, Nat.reduceMul, Nat.reduceSub, Nat.reduceLeDiff, Nat.reduceEqDiff, Nat.reducePow, Int.reduceToNat, Int.reducePow, Int.reduceAdd, Int.reduceSub, Int.reduceMul, Int.reduceLT, Int.reduceLE, Int.reduceEq, Int.reduceNeg, hc1])
  rw [Int.sub_zero]
  refine wp_kJ (fun l h1 => Kp h h1 ∧ ((n = 0 ∧ gd l 0 = .slice none 0 0) ∨ (0 < n ∧ ∃ p, h.n ≤ p ∧ gd l 0 = .slice (some (p, 0, 1)) 0 n ∧ h1.get p = some ⟨.row (bytesOf (List.replicate n 0)) T_uint8 true, .rw, []⟩))) (fun j hj => ?_) ?_
  · refine wp_kIf (fun c => ?_) (fun c => ?_)
    · have c := of_decide_eq_true c
      have hp : 0 < n := by omega
      have ha : rAppendN T_uint8 1 1 [(.int .u8 0)] (.slice none 0 0) (.int .i64 n) h = some (.slice (some (h.n, 0, 1)) n n, h.push ⟨.row (bytesOf (List.replicate n 0)) T_uint8 true, .rw, []⟩) := by
        unfold rAppendN rAppendTo
        simp only [Int.toNat_natCast, manyT_u8]
        rw [if_pos (by omega), if_neg (by omega), if_pos (by omega)]
        unfold AH.newRow
        rw [if_pos (isCell_bytes _)]
        rfl
      have hc3 : rCut 1 (.slice (some (h.n, 0, 1)) n n) none (some (.int .i64 0)) none = some (.slice (some (h.n, 0, 1)) 0 n) := by simp [rCut, aBound]
      (try simp -dsimp (disch := omega) only [↓pre, sp, sp2, wp_some, Int.cast_ofNat_Int, Nat.reduceAdd, Nat.reduceMul, Nat.reduceSub, Nat.reduceLeDiff, Nat.reduceEqDiff, Nat.reducePow, Int.reduceToNat, Int.reducePow, Int.reduceAdd, Int.reduceSub, Int.reduceMul, Int.reduceLT, Int.reduceLE, Int.reduceEq, Int.reduceNeg, hc1, hc2, ha, hc3])
      exact hj _ _ ⟨Kp.push0 w _ _, .inr ⟨hp, h.n, Nat.le_refl _, rfl, by simp⟩⟩
    · have c := of_decide_eq_false c
      exact hj _ _ ⟨Ke.refl w, .inl ⟨by omega, rfl⟩⟩
  · rintro l h1 ⟨k1, h2⟩
    (try simp -dsimp (disch := omega) only [↓pre, sp, sp2, wp_some, Int.cast_ofNat_Int, Nat.reduceAdd, Nat.reduceMul, Nat.reduceSub, Nat.reduceLeDiff, Nat.reduceEqDiff, Nat.reducePow, Int.reduceToNat, Int.reducePow, Int.reduceAdd, Int.reduceSub, Int.reduceMul, Int.reduceLT, Int.reduceLE, Int.reduceEq, Int.reduceNeg])
    exact ⟨k1, h2⟩

/-- Bytes behind those that lie at the beginning of a block of one's own with room. -/
theorem concat_spec (H : Plain ov) (k : Nat) (w : Wf h) {vs : List AVal} {ls : List (List UInt8)} (s : Sz h v 1 vs.length vs md) (ps : Parts h vs ls) (hl : ls.flatten.length ≤ 2 ^ 40) (hv : vs.length ≤ 2 ^ 40) :
    Wp (kc ov (k + 2) N_slices_Concat___byte_byte_ [v] h) fun r h' => Kp h h' ∧ Ob h' r ls.flatten ∧ Fresh h r := by
  rw [C_slices_Concat___byte_byte_ H]; unfold F_slices_Concat___byte_byte_
  (try simp -dsimp (disch := omega) only [↓pre, sp, sp2, wp_some, Int.cast_ofNat_Int, Nat.reduceAdd, Nat.reduceMul, Nat.reduceSub, Nat.reduceLeDiff, Nat.reduceEqDiff, Nat.reducePow, Int.reduceToNat, Int.reducePow, Int.reduceAdd, Int.reduceSub, Int.reduceMul, Int.reduceLT, Int.reduceLE, Int.reduceEq, Int.reduceNeg, s.len])
  refine wp_loop (fun m l h1 => ∃ i : Nat, l = [.int .i64 ((ls.take i).flatten.length : Nat), .int .i64 i] ∧ i + m = vs.length ∧ h = h1) vs.length (by omega) ⟨0, by simp, by omega, rfl⟩ ?_
  rintro m _ _ j ⟨i, rfl, him, rfl⟩ hj
  have hi2 := sum_take_le ls i
  unfold L_slices_Concat___byte_byte__1
  (try simp -dsimp (disch := omega) only [↓pre, sp, sp2, wp_some, Int.cast_ofNat_Int, Nat.reduceAdd, Nat.reduceMul, Nat.reduceSub, Nat.reduceLeDiff, Nat.reduceEqDiff, Nat.reducePow, Int.reduceToNat, Int.reducePow, Int.reduceAdd, Int.reduceSub, Int.reduceMul, Int.reduceLT, Int.reduceLE, Int.reduceEq, Int.reduceNeg])
  refine wp_ite (fun c => ?_) (fun c => ?_)
  · obtain ⟨x, l, md', e1, e2, b⟩ := ps.at (i := i) (by omega)
    have hi3 := sum_take_le ls (i + 1)
    rw [flat_succ e2, List.length_append] at hi3
    have hld : rLoad (ea v i) h = some x := by rw [s.ld (by omega), e1]
    (try simp -dsimp (disch := omega) only [↓pre, sp, sp2, wp_some, Int.cast_ofNat_Int, Nat.reduceAdd, Nat.reduceMul, Nat.reduceSub, Nat.reduceLeDiff, Nat.reduceEqDiff, Nat.reducePow, Int.reduceToNat, Int.reducePow, Int.reduceAdd, Int.reduceSub, Int.reduceMul, Int.reduceLT, Int.reduceLE, Int.reduceEq, Int.reduceNeg, s.at, hld, b.len])
    have hlt : ¬ ((((ls.take i).flatten.length : Nat) : Int) + (l.length : Nat) < 0) := by omega
    refine wp_kJ (fun _ h2 => h = h2) (fun j2 hj2 => wp_kIf (fun c => absurd (of_decide_eq_true c) hlt) (fun _ => hj2 _ _ rfl)) ?_
    rintro _ _ rfl
    have e5 : IntKind.wrap .i64 ((i : Int) + 1) = ((i + 1 : Nat) : Int) := by rw [wr_i64 (by omega) (by omega)]; omega
    (try simp -dsimp (disch := omega) only [↓pre, sp, sp2, wp_some, Int.cast_ofNat_Int, Nat.reduceAdd, Nat.reduceMul, Nat.reduceSub, Nat.reduceLeDiff, Nat.reduceEqDiff, Nat.reducePow, Int.reduceToNat, Int.reducePow, Int.reduceAdd, Int.reduceSub, Int.reduceMul, Int.reduceLT, Int.reduceLE, Int.reduceEq, Int.reduceNeg, e5])
    exact hj (m - 1) _ _ (by omega) ⟨i + 1, by rw [flat_succ e2, List.length_append]; simp, by omega, rfl⟩
  · (try simp -dsimp (disch := omega) only [↓pre, sp, sp2, wp_some, Int.cast_ofNat_Int, Nat.reduceAdd, Nat.reduceMul, Nat.reduceSub, Nat.reduceLeDiff, Nat.reduceEqDiff, Nat.reducePow, Int.reduceToNat, Int.reducePow, Int.reduceAdd, Int.reduceSub, Int.reduceMul, Int.reduceLT, Int.reduceLE, Int.reduceEq, Int.reduceNeg])
    have him' : ls.take i = ls := List.take_of_length_le (by have := ps.len; omega)
    rw [him']
    refine Wp.bind (grow_spec H k w hl) fun v1 h2 ⟨k2, o⟩ => ?_
    (try simp -dsimp (disch := omega) only [↓pre, sp, sp2, wp_some, Int.cast_ofNat_Int, Nat.reduceAdd, Nat.reduceMul, Nat.reduceSub, Nat.reduceLeDiff, Nat.reduceEqDiff, Nat.reducePow, Int.reduceToNat, Int.reducePow, Int.reduceAdd, Int.reduceSub, Int.reduceMul, Int.reduceLT, Int.reduceLE, Int.reduceEq, Int.reduceNeg, s.len])
    refine wp_loop (fun m l h3 => ∃ (i : Nat) (x : AVal), l = [x, .int .i64 i] ∧ i + m = vs.length ∧ Kp h h3 ∧
      ((ls.flatten.length = 0 ∧ x = .slice none 0 0) ∨ (0 < ls.flatten.length ∧ ∃ p, h.n ≤ p ∧ x = .slice (some (p, 0, 1)) (ls.take i).flatten.length ls.flatten.length ∧
        h3.get p = some ⟨.row (bytesOf ((ls.take i).flatten ++ List.replicate (ls.flatten.length - (ls.take i).flatten.length) 0)) T_uint8 true, .rw, []⟩))) vs.length (by omega)
      ⟨0, v1, rfl, by omega, k2, by simpa using o⟩ ?_
    rintro m3 _ h3 j3 ⟨i3, x, rfl, him3, k3, o3⟩ hj3
    unfold L_slices_Concat___byte_byte__0
    have ps3 := ps.kp k3
    have s3 := s.kp k3
    (try simp -dsimp (disch := omega) only [↓pre, sp, sp2, wp_some, Int.cast_ofNat_Int, Nat.reduceAdd, Nat.reduceMul, Nat.reduceSub, Nat.reduceLeDiff, Nat.reduceEqDiff, Nat.reducePow, Int.reduceToNat, Int.reducePow, Int.reduceAdd, Int.reduceSub, Int.reduceMul, Int.reduceLT, Int.reduceLE, Int.reduceEq, Int.reduceNeg])
    refine wp_ite (fun c3 => ?_) (fun c3 => ?_)
    · obtain ⟨y, l, md', e1, e2, b⟩ := ps3.at (i := i3) (by omega)
      have hi3 := sum_take_le ls (i3 + 1)
      have hfl := flat_succ e2
      rw [hfl, List.length_append] at hi3
      have hld : rLoad (ea v i3) h3 = some y := by rw [s3.ld (by omega), e1]
      have e5 : IntKind.wrap .i64 ((i3 : Int) + 1) = ((i3 + 1 : Nat) : Int) := by rw [wr_i64 (by omega) (by omega)]; omega
      (try simp -dsimp (disch := omega) only [↓pre, sp, sp2, wp_some, Int.cast_ofNat_Int, Nat.reduceAdd, Nat.reduceMul, Nat.reduceSub, Nat.reduceLeDiff, Nat.reduceEqDiff, Nat.reducePow, Int.reduceToNat, Int.reducePow, Int.reduceAdd, Int.reduceSub, Int.reduceMul, Int.reduceLT, Int.reduceLE, Int.reduceEq, Int.reduceNeg, s3.at, hld])
      have hap : rAppend T_uint8 1 1 x y h3 = rAppendTo T_uint8 1 1 x l.length (bytesOf l) h3 := by
        unfold rAppend; rw [b.src]; rfl
      rw [hap]
      rcases o3 with ⟨hz, rfl⟩ | ⟨hz, p, hp, rfl, g⟩
      · have hl0 : l.length = 0 := by omega
        have : rAppendTo T_uint8 1 1 (.slice none 0 0) l.length (bytesOf l) h3 = some (.slice none 0 0, h3) := by
          unfold rAppendTo; rw [if_pos hl0]
        rw [this]
        (try simp -dsimp (disch := omega) only [↓pre, sp, sp2, wp_some, Int.cast_ofNat_Int, Nat.reduceAdd, Nat.reduceMul, Nat.reduceSub, Nat.reduceLeDiff, Nat.reduceEqDiff, Nat.reducePow, Int.reduceToNat, Int.reducePow, Int.reduceAdd, Int.reduceSub, Int.reduceMul, Int.reduceLT, Int.reduceLE, Int.reduceEq, Int.reduceNeg, e5])
        exact hj3 (m3 - 1) _ _ (by omega) ⟨i3 + 1, _, rfl, by omega, k3, .inl ⟨hz, rfl⟩⟩
      · by_cases hl0 : l.length = 0
        · have : rAppendTo T_uint8 1 1 (.slice (some (p, 0, 1)) (ls.take i3).flatten.length ls.flatten.length) l.length (bytesOf l) h3 = some (.slice (some (p, 0, 1)) (ls.take i3).flatten.length ls.flatten.length, h3) := by
            unfold rAppendTo; rw [if_pos hl0]
          rw [this]
          (try simp -dsimp (disch := omega) only [↓pre, sp, sp2, wp_some, Int.cast_ofNat_Int, Nat.reduceAdd, Nat.reduceMul, Nat.reduceSub, Nat.reduceLeDiff, Nat.reduceEqDiff, Nat.reducePow, Int.reduceToNat, Int.reducePow, Int.reduceAdd, Int.reduceSub, Int.reduceMul, Int.reduceLT, Int.reduceLE, Int.reduceEq, Int.reduceNeg, e5])
          have hl0' : l = [] := List.eq_nil_of_length_eq_zero hl0
          subst hl0'
          exact hj3 (m3 - 1) _ _ (by omega) ⟨i3 + 1, _, rfl, by omega, k3, .inr ⟨hz, p, hp, by rw [hfl, List.append_nil], by rw [hfl, List.append_nil]; exact g⟩⟩
        · have hlen : (bytesOf ((ls.take i3).flatten ++ List.replicate (ls.flatten.length - (ls.take i3).flatten.length) (0 : UInt8))).length = ls.flatten.length := by
            rw [bytesOf_length, List.length_append, List.length_replicate]; omega
          obtain ⟨h4, e6, e7, e8, e9⟩ := write_own k3.w' (off := 0 + (ls.take i3).flatten.length * 1) (vs := bytesOf l) g (by rw [hlen, bytesOf_length]; omega) (isCell_bytes l)
          have : rAppendTo T_uint8 1 1 (.slice (some (p, 0, 1)) (ls.take i3).flatten.length ls.flatten.length) l.length (bytesOf l) h3 = some (.slice (some (p, 0, 1)) ((ls.take i3).flatten.length + l.length) ls.flatten.length, h4) := by
            unfold rAppendTo
            rw [if_neg hl0]
            simp only [ne_eq, not_true_eq_false, if_false]
            rw [if_pos hi3, e6]
            rfl
          rw [this]
          (try simp -dsimp (disch := omega) only [↓pre, sp, sp2, wp_some, Int.cast_ofNat_Int, Nat.reduceAdd, Nat.reduceMul, Nat.reduceSub, Nat.reduceLeDiff, Nat.reduceEqDiff, Nat.reducePow, Int.reduceToNat, Int.reducePow, Int.reduceAdd, Int.reduceSub, Int.reduceMul, Int.reduceLT, Int.reduceLE, Int.reduceEq, Int.reduceNeg, e5])
          refine hj3 (m3 - 1) _ _ (by omega) ⟨i3 + 1, _, rfl, by omega, Ke.new_p k3 e8 (fun i hi => by omega), .inr ⟨hz, p, hp, by rw [hfl, List.length_append], ?_⟩⟩
          rw [e7, hfl]
          congr 3
          generalize hA : (ls.take i3).flatten = A at *
          have er : List.replicate (ls.flatten.length - A.length) (0 : UInt8) = List.replicate l.length 0 ++ List.replicate (ls.flatten.length - (A ++ l).length) 0 := by
            rw [List.replicate_append_replicate, List.length_append]; congr 1; omega
          rw [er]
          unfold splice
          simp only [bytesOf_append, Nat.zero_add, Nat.mul_one]
          rw [List.take_left' (bytesOf_length A), bytesOf_length]
          congr 1
          rw [← List.append_assoc, List.drop_left' (by simp [bytesOf])]
    · (try simp -dsimp (disch := omega) only [↓pre, sp, sp2, wp_some, Int.cast_ofNat_Int, Nat.reduceAdd, Nat.reduceMul, Nat.reduceSub, Nat.reduceLeDiff, Nat.reduceEqDiff, Nat.reducePow, Int.reduceToNat, Int.reducePow, Int.reduceAdd, Int.reduceSub, Int.reduceMul, Int.reduceLT, Int.reduceLE, Int.reduceEq, Int.reduceNeg])
      have him'' : ls.take i3 = ls := List.take_of_length_le (by have := ps.len; omega)
      refine ⟨k3, ?_, ?_⟩
      · rcases o3 with ⟨hz, rfl⟩ | ⟨hz, p, hp, rfl, g⟩
        · have : ls.flatten = [] := List.eq_nil_of_length_eq_zero hz
          rw [this]
          exact Ow.nil _ _ _ (by omega)
        · rw [him'', Nat.sub_self, List.replicate_zero, List.append_nil] at g
          rw [him'']
          exact Ow.new g (by omega) _ (by rw [bytesOf_length, Nat.mul_one]) (isCell_bytes _)
      · rcases o3 with ⟨hz, rfl⟩ | ⟨hz, p, hp, rfl, g⟩
        · exact fun i hi => hi.elim
        · intro i hi
          simp only [isBk] at hi
          omega
end Go.Proofs.Ytpbkgmcpelhlpaa.AI
