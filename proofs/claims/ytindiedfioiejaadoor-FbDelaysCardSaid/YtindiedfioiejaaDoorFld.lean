/- strings.Fields, of plain texts. -/
import Derived.Test.YtindiedfioiejaaDoorF
import Derived.Test.YtindiedfioiejaaDoorAiFieldP
namespace Go.Proofs.YtindiedfioiejaaDoor.AI
open Go
set_option linter.unusedSimpArgs false
set_option linter.unusedVariables false
variable {ov : AOver} {h : AH}
def strs (L : List (List UInt8)) : List AVal := L.map AVal.str
theorem strs_len (L : List (List UInt8)) : (strs L).length = L.length := by simp [strs]
theorem strs_cells (L : List (List UInt8)) : (strs L).all AVal.isCell = true := by simp [strs, AVal.isCell]
abbrev Os (h : AH) (v : AVal) (L : List (List UInt8)) : Prop := Ow h v T_string 1 L.length (strs L)
theorem manyT_str (n : Nat) : manyT n [.str []] = strs (List.replicate n []) := by
  simp [manyT, strs]
theorem strs_set (L : List (List UInt8)) (i : Nat) (x : List UInt8) : (strs L).set i (.str x) = strs (L.set i x) := by simp [strs, List.map_set]
theorem set_app {α : Type} (a : List α) (x y : α) (b : List α) : (a ++ x :: b).set a.length y = a ++ y :: b := by simp
theorem dropWhile_drop (S : List UInt8) (i : Nat) (hi : i < S.length) : (S.drop i).dropWhile isSp = if isSp (S.getD i 0) then (S.drop (i + 1)).dropWhile isSp else S.drop i := by
  rw [List.drop_eq_getElem_cons hi]
  simp only [List.dropWhile_cons, List.getD_eq_getElem?_getD, List.getElem?_eq_getElem hi, Option.getD_some]
/-- What holds at the head of the loop that cuts. -/
def FI (h : AH) (v : AVal) (S : List UInt8) (m : Nat) (l : List AVal) (h2 : AH) : Prop := ∃ (fs i fuel : Nat) (acc : List (List UInt8)),
  l = [.int .i64 acc.length, .int .i64 fs, .int .i64 i] ∧ i + m = S.length ∧ fs ≤ i ∧ Kp h h2 ∧ acc.length ≤ (fieldsL S).length ∧
  Ow h2 v T_string 1 (fieldsL S).length (strs (acc ++ List.replicate ((fieldsL S).length - acc.length) [])) ∧ acc ++ flF fuel ((S.take i).drop fs) (S.drop i) = fieldsL S ∧ (S.drop i).length < fuel
theorem cond_sp {Q : AVal → AH → Prop} {h : AH} (tb : Tb h) {S : List UInt8} {i : Nat} {j : AVal → Ans} (hl : S.length ≤ 1048576) (hi' : i ≤ S.length) (hj : Wp (j (.bool (decide (i < S.length) && isSp (S.getD i 0)))) Q) :
    Wp (kgq (.bool (decide ((i : Int) < (S.length : Int)))) true (fun k => kq (some (.str S)) k) <| fun v55 =>
  kgq (.bool (decide ((i : Int) < (S.length : Int)))) true (fun k => kq (some (.int .i64 i)) k) <| fun v56 =>
  kgq (.bool (decide ((i : Int) < (S.length : Int)))) true (fun k => kq (rIndexS v55 v56) k) <| fun v57 =>
  kgq (.bool (decide ((i : Int) < (S.length : Int)))) true (fun k => kq (rAtArr 256 1 (.ptr (some (0, 0))) v57) k) <| fun v58 =>
  kgq (.bool (decide ((i : Int) < (S.length : Int)))) true (fun k => kq (rLoad v58 h) k) <| fun v59 =>
  kgq (.bool (decide ((i : Int) < (S.length : Int)))) true (fun k => kq (rBin .neq .no true v59 (.int .u8 0)) k) <| fun v60 =>
  kq (rPick (.bool (decide ((i : Int) < (S.length : Int)))) v60 (.bool false)) <| fun v61 => j v61) Q := by
  by_cases c : i < S.length
  · have c' : (i : Int) < (S.length : Int) := by omega
    have ei := idxS c
    have es := sp_at S i
    have el := tb.ld (S.getD i 0)
    have hd : decide (i < S.length) = true := decide_eq_true c
    rw [hd, Bool.true_and] at hj
    generalize isSp (S.getD i 0) = b at hj el
    cases b
    · (try simp -dsimp (disch := omega) only [↓pre, sp, sp2, wp_some, Int.cast_ofNat_Int, Nat.reduceAdd, Nat.reduceMul, Nat.reduceSub, Nat.reduceLeDiff, Nat.reduceEqDiff, Nat.reducePow, Int.reduceToNat, Int.reducePow, Int.reduceAdd, Int.reduceSub, Int.reduceMul, Int.reduceLT, Int.reduceLE, Int.reduceEq, Int.reduceNeg, c', ei, es, el, spN])
      exact hj
    · (try simp -dsimp (disch := omega) only [↓pre, sp, sp2, wp_some, Int.cast_ofNat_Int, Nat.reduceAdd, Nat.reduceMul, Nat.reduceSub, Nat.reduceLeDiff, Nat.reduceEqDiff, Nat.reducePow, Int.reduceToNat, Int.reducePow, Int.reduceAdd, Int.reduceSub, Int.reduceMul, Int.reduceLT, Int.reduceLE, Int.reduceEq, Int.reduceNeg, c', ei, es, el, spN])
      exact hj
  · have c' : ¬ (i : Int) < (S.length : Int) := by omega
    have hd : decide (i < S.length) = false := decide_eq_false c
    rw [hd, Bool.false_and] at hj
    (try simp -dsimp (disch := omega) only [↓pre, sp, sp2, wp_some, Int.cast_ofNat_Int, Nat.reduceAdd, Nat.reduceMul, Nat.reduceSub, Nat.reduceLeDiff, Nat.reduceEqDiff, Nat.reducePow, Int.reduceToNat, Int.reducePow, Int.reduceAdd, Int.reduceSub, Int.reduceMul, Int.reduceLT, Int.reduceLE, Int.reduceEq, Int.reduceNeg, c'])
    exact hj
theorem drop_no (S : List UInt8) (i : Nat) (hi : i ≤ S.length) (h : (decide (i < S.length) && isSp (S.getD i 0)) = false) : (S.drop i).dropWhile isSp = S.drop i := by
  by_cases c : i < S.length
  · rw [dropWhile_drop S i c]
    have : isSp (S.getD i 0) = false := by simpa [c] using h
    rw [this]; rfl
  · rw [List.drop_of_length_le (by omega)]; rfl
theorem fields_spec (H : Plain ov) (n : Nat) (w : Wf h) (tb : Tb h) {S : List UInt8} (hl : S.length ≤ 1048576) (ha : ∀ b ∈ S, b.toNat < 128) (hc : cntF S true = (fieldsL S).length) :
    Wp (kc ov (n + 1) N_strings_Fields [.str S] h) fun r h' => Kp h h' ∧ Os h' r (fieldsL S) ∧ Fresh h r := by
  rw [C_strings_Fields H]; unfold F_strings_Fields
  (try simp -dsimp (disch := omega) only [↓pre, sp, sp2, wp_some, Int.cast_ofNat_Int, Nat.reduceAdd, Nat.reduceMul, Nat.reduceSub, Nat.reduceLeDiff, Nat.reduceEqDiff, Nat.reducePow, Int.reduceToNat, Int.reducePow, Int.reduceAdd, Int.reduceSub, Int.reduceMul, Int.reduceLT, Int.reduceLE, Int.reduceEq, Int.reduceNeg])
  have hg : ∀ i, i < S.length → gb S i < 128 := fun i hi => by
    simp only [gb, List.getD_eq_getElem?_getD, List.getElem?_eq_getElem hi, Option.getD_some]
    exact ha _ (List.getElem_mem hi)
  refine wp_loop (fun m l h1 => ∃ (i k x : Nat) (was : Bool), l = [.int .i64 k, .int .i64 (spN was), .int .u8 x, .int .i64 i] ∧ i + m = S.length ∧ h = h1 ∧ x < 128 ∧ k + cntF (S.drop i) was = cntF S true ∧ k ≤ i) S.length (by omega) ⟨0, 0, 0, true, rfl, by omega, rfl, by omega, by simp, by omega⟩ ?_
  rintro m _ _ j ⟨i, k, x, was, rfl, him, rfl, hx, hk, hki⟩ hj
  unfold L_strings_Fields_3
  (try simp -dsimp (disch := omega) only [↓pre, sp, sp2, wp_some, Int.cast_ofNat_Int, Nat.reduceAdd, Nat.reduceMul, Nat.reduceSub, Nat.reduceLeDiff, Nat.reduceEqDiff, Nat.reducePow, Int.reduceToNat, Int.reducePow, Int.reduceAdd, Int.reduceSub, Int.reduceMul, Int.reduceLT, Int.reduceLE, Int.reduceEq, Int.reduceNeg, sp5])
  refine wp_ite (fun c => ?_) (fun c => ?_)
  · have hi : i < S.length := by omega
    obtain ⟨z, hz, ez⟩ := or_small hx (hg i hi)
    have ei := idxS hi
    have es := sp_at S i
    have el := tb.ld (S.getD i 0)
    have hcs : k + (if was && !isSp (S.getD i 0) then 1 else 0) + cntF (S.drop (i + 1)) (isSp (S.getD i 0)) = cntF S true := by
      rw [← hk, List.drop_eq_getElem_cons hi]
      simp only [cntF, List.getD_eq_getElem?_getD, List.getElem?_eq_getElem hi, Option.getD_some]
      omega
    generalize isSp (S.getD i 0) = b at *
    have ex : aUn .xor (.int .i64 (spN b)) = some (.int .i64 (iXor .i64 (-1) (spN b))) := rfl
    have ew : IntKind.wrap .i64 (spN b) = spN b := by cases b <;> rfl
    have ea := sp_and was b
    have ek : IntKind.wrap .i64 ((k : Int) + if (was && !b) = true then 1 else 0) = ((k + (if was && !b then 1 else 0) : Nat) : Int) := by
      rw [wr_i64 (by split <;> omega) (by split <;> omega)]; split <;> rfl
    have e1 : IntKind.wrap .i64 ((i : Int) + 1) = ((i + 1 : Nat) : Int) := by rw [wr_i64 (by omega) (by omega)]; omega
    (try simp -dsimp (disch := omega) only [↓pre, sp, sp2, wp_some, Int.cast_ofNat_Int, Nat.reduceAdd, Nat.reduceMul, Nat.reduceSub, Nat.reduceLeDiff, Nat.reduceEqDiff, Nat.reducePow, Int.reduceToNat, Int.reducePow, Int.reduceAdd, Int.reduceSub, Int.reduceMul, Int.reduceLT, Int.reduceLE, Int.reduceEq, Int.reduceNeg, ei, ez, es, el, ew, ex, ea, ek, e1])
    exact hj (m - 1) _ _ (by omega) ⟨i + 1, _, z, b, rfl, by omega, rfl, hz, hcs, by split <;> omega⟩
  · have hi : i = S.length := by omega
    subst hi
    have hn : k = (fieldsL S).length := by rw [← hc, ← hk]; simp [cntF]
    have hx' : ¬ ((x : Int) ≥ 128) := by omega
    (try simp -dsimp (disch := omega) only [↓pre, sp, sp2, wp_some, Int.cast_ofNat_Int, Nat.reduceAdd, Nat.reduceMul, Nat.reduceSub, Nat.reduceLeDiff, Nat.reduceEqDiff, Nat.reducePow, Int.reduceToNat, Int.reducePow, Int.reduceAdd, Int.reduceSub, Int.reduceMul, Int.reduceLT, Int.reduceLE, Int.reduceEq, Int.reduceNeg, hx'])
    refine wp_makeSl w (by omega) (by omega) (by omega) (by omega) rfl (by omega) rfl fun p h1 hp k1 n1 g1 => ?_
    rw [Int.toNat_natCast, manyT_str] at g1
    rw [Int.toNat_natCast]
    (try simp -dsimp (disch := omega) only [↓pre, sp, sp2, wp_some, Int.cast_ofNat_Int, Nat.reduceAdd, Nat.reduceMul, Nat.reduceSub, Nat.reduceLeDiff, Nat.reduceEqDiff, Nat.reducePow, Int.reduceToNat, Int.reducePow, Int.reduceAdd, Int.reduceSub, Int.reduceMul, Int.reduceLT, Int.reduceLE, Int.reduceEq, Int.reduceNeg])
    have o1 : Ow h1 (.slice (some (p, 0, 1)) k k) T_string 1 k (strs ([] ++ List.replicate k [])) := Ow.new g1 (by omega) k (by simp [strs_len]) (strs_cells _)
    have f1 : Fresh h (.slice (some (p, 0, 1)) k k) := fun i hi => by
      simp only [isBk] at hi
      omega
    generalize (AVal.slice (some (p, 0, 1)) k k) = v at *
    clear g1 n1 hp
    -- the spaces ahead
    refine wp_loop (fun m l h2 => ∃ i : Nat, l = [.int .i64 i] ∧ i + m = S.length ∧ h1 = h2 ∧ (S.drop i).dropWhile isSp = S.dropWhile isSp) S.length (by omega) ⟨0, rfl, by omega, rfl, by simp⟩ ?_
    rintro m _ _ j ⟨i, rfl, him, rfl, hd⟩ hj
    unfold L_strings_Fields_2
    (try simp -dsimp (disch := omega) only [↓pre, sp, sp2, wp_some, Int.cast_ofNat_Int, Nat.reduceAdd, Nat.reduceMul, Nat.reduceSub, Nat.reduceLeDiff, Nat.reduceEqDiff, Nat.reducePow, Int.reduceToNat, Int.reducePow, Int.reduceAdd, Int.reduceSub, Int.reduceMul, Int.reduceLT, Int.reduceLE, Int.reduceEq, Int.reduceNeg, sp5])
    refine wp_kT (.bool (decide (i < S.length) && isSp (S.getD i 0))) (fun j2 hj2 => cond_sp (tb.ke k1) hl (by omega) hj2) ?_
    cases hcnd : (decide (i < S.length) && isSp (S.getD i 0))
    · (try simp -dsimp (disch := omega) only [↓pre, sp, sp2, wp_some, Int.cast_ofNat_Int, Nat.reduceAdd, Nat.reduceMul, Nat.reduceSub, Nat.reduceLeDiff, Nat.reduceEqDiff, Nat.reducePow, Int.reduceToNat, Int.reducePow, Int.reduceAdd, Int.reduceSub, Int.reduceMul, Int.reduceLT, Int.reduceLE, Int.reduceEq, Int.reduceNeg])
      have hdr := drop_no S i (by omega) hcnd
      have hinit : FI h v S (S.length - i) [.int .i64 0, .int .i64 i, .int .i64 i] h1 := by
        refine ⟨i, i, S.length + 1, [], rfl, by omega, Nat.le_refl _, k1, Nat.zero_le _, ?_, ?_, ?_⟩
        · subst hn; simpa using o1
        · have : (S.take i).drop i = [] := List.drop_of_length_le (by rw [List.length_take]; omega)
          rw [this, ← hdr, hd]; rfl
        · rw [List.length_drop]; omega
      refine wp_loop (FI h v S) (S.length - i) (by omega) hinit ?_
      clear hinit hdr hcnd hd hj him m i j
      rintro m _ h3 j ⟨fs, i, fuel, acc, rfl, him, hfi, k3, hal, o3, hfl, hfu⟩ hj
      unfold L_strings_Fields_1
      (try simp -dsimp (disch := omega) only [↓pre, sp, sp2, wp_some, Int.cast_ofNat_Int, Nat.reduceAdd, Nat.reduceMul, Nat.reduceSub, Nat.reduceLeDiff, Nat.reduceEqDiff, Nat.reducePow, Int.reduceToNat, Int.reducePow, Int.reduceAdd, Int.reduceSub, Int.reduceMul, Int.reduceLT, Int.reduceLE, Int.reduceEq, Int.reduceNeg, sp5])
      refine wp_ite (fun c => ?_) (fun c => ?_)
      · have hi : i < S.length := by omega
        refine wp_kJ (fun l h4 => ∃ m', m' < m ∧ FI h v S m' l h4) (fun j2 hj2 => ?_) ?_
        · have ei := idxS hi
          have es := sp_at S i
          have el := (tb.ke k3).ld (S.getD i 0)
          have e1 : IntKind.wrap .i64 ((i : Int) + 1) = ((i + 1 : Nat) : Int) := by rw [wr_i64 (by omega) (by omega)]; omega
          have edr : S.drop i = S.getD i 0 :: S.drop (i + 1) := by
            rw [List.drop_eq_getElem_cons hi]
            simp only [List.getD_eq_getElem?_getD, List.getElem?_eq_getElem hi, Option.getD_some]
          obtain ⟨fu, rfl⟩ : ∃ fu, fuel = fu + 1 := ⟨fuel - 1, by omega⟩
          rw [edr] at hfl
          simp only [flF] at hfl
          cases hsp : isSp (S.getD i 0)
          · rw [hsp] at el hfl
            (try simp -dsimp (disch := omega) only [↓pre, sp, sp2, wp_some, Int.cast_ofNat_Int, Nat.reduceAdd, Nat.reduceMul, Nat.reduceSub, Nat.reduceLeDiff, Nat.reduceEqDiff, Nat.reducePow, Int.reduceToNat, Int.reducePow, Int.reduceAdd, Int.reduceSub, Int.reduceMul, Int.reduceLT, Int.reduceLE, Int.reduceEq, Int.reduceNeg, ei, es, el, spN, e1])
            refine hj2 _ _ ⟨m - 1, by omega, fs, i + 1, fu, acc, rfl, by omega, by omega, k3, hal, o3, ?_, ?_⟩
            · rw [← hfl]
              have et : (S.take (i + 1)).drop fs = (S.take i).drop fs ++ [S.getD i 0] := by
                rw [List.take_succ_eq_append_getElem hi, List.drop_append_of_le_length (by rw [List.length_take]; omega)]
                simp only [List.getD_eq_getElem?_getD, List.getElem?_eq_getElem hi, Option.getD_some]
              rw [et]; rfl
            · rw [List.length_drop] at hfu ⊢; omega
          · rw [hsp] at el hfl
            have hlt : acc.length < (fieldsL S).length := by
              rw [← hfl]; simp
            have ec := cutS (S := S) hfi (Nat.le_of_lt hi)
            (try simp -dsimp (disch := omega) only [↓pre, sp, sp2, wp_some, Int.cast_ofNat_Int, Nat.reduceAdd, Nat.reduceMul, Nat.reduceSub, Nat.reduceLeDiff, Nat.reduceEqDiff, Nat.reducePow, Int.reduceToNat, Int.reducePow, Int.reduceAdd, Int.reduceSub, Int.reduceMul, Int.reduceLT, Int.reduceLE, Int.reduceEq, Int.reduceNeg, ei, es, el, spN, e1, ec, (Ow.rd o3).at])
            refine wp_storeOw (j := acc.length) k3.w' o3 rfl rfl rfl (by simp [strs_len]; omega) (by simp [strs_len]; omega) rfl fun h4 o4 k4 n4 => ?_
            rw [splice_one _ _ _ (by simp [strs_len]; omega), strs_set, show (fieldsL S).length - acc.length = ((fieldsL S).length - (acc.length + 1)) + 1 by omega, List.replicate_succ, set_app] at o4
            have k04 : Kp h h4 := Ke.new_p k3 k4 fun i hi => f1 i hi
            have e2 : IntKind.wrap .i64 ((acc.length : Int) + 1) = ((acc ++ [(S.take i).drop fs]).length : Int) := by rw [wr_i64 (by omega) (by omega)]; simp
            (try simp -dsimp (disch := omega) only [↓pre, sp, sp2, wp_some, Int.cast_ofNat_Int, Nat.reduceAdd, Nat.reduceMul, Nat.reduceSub, Nat.reduceLeDiff, Nat.reduceEqDiff, Nat.reducePow, Int.reduceToNat, Int.reducePow, Int.reduceAdd, Int.reduceSub, Int.reduceMul, Int.reduceLT, Int.reduceLE, Int.reduceEq, Int.reduceNeg, e1, e2])
            refine wp_loop (fun m3 l h5 => ∃ i3 : Nat, l = [.int .i64 i3] ∧ i3 + m3 = S.length ∧ i < i3 ∧ h5 = h4 ∧ (S.drop i3).dropWhile isSp = (S.drop (i + 1)).dropWhile isSp) (S.length - (i + 1)) (by omega) ⟨i + 1, rfl, by omega, by omega, rfl, rfl⟩ ?_
            rintro m3 _ _ j3 ⟨i3, rfl, him3, hii, rfl, hd3⟩ hj3
            unfold L_strings_Fields_0
            (try simp -dsimp (disch := omega) only [↓pre, sp, sp2, wp_some, Int.cast_ofNat_Int, Nat.reduceAdd, Nat.reduceMul, Nat.reduceSub, Nat.reduceLeDiff, Nat.reduceEqDiff, Nat.reducePow, Int.reduceToNat, Int.reducePow, Int.reduceAdd, Int.reduceSub, Int.reduceMul, Int.reduceLT, Int.reduceLE, Int.reduceEq, Int.reduceNeg, sp5])
            refine wp_kT (.bool (decide (i3 < S.length) && isSp (S.getD i3 0))) (fun j4 hj4 => cond_sp (tb.ke k04) hl (by omega) hj4) ?_
            cases hcnd : (decide (i3 < S.length) && isSp (S.getD i3 0))
            · (try simp -dsimp (disch := omega) only [↓pre, sp, sp2, wp_some, Int.cast_ofNat_Int, Nat.reduceAdd, Nat.reduceMul, Nat.reduceSub, Nat.reduceLeDiff, Nat.reduceEqDiff, Nat.reducePow, Int.reduceToNat, Int.reducePow, Int.reduceAdd, Int.reduceSub, Int.reduceMul, Int.reduceLT, Int.reduceLE, Int.reduceEq, Int.reduceNeg])
              have hdr := drop_no S i3 (by omega) hcnd
              refine hj2 _ _ ⟨S.length - i3, by omega, i3, i3, fu, acc ++ [(S.take i).drop fs], rfl, by omega, Nat.le_refl _, k04, by simp; omega, ?_, ?_, ?_⟩
              · simpa using o4
              · have : (S.take i3).drop i3 = [] := List.drop_of_length_le (by rw [List.length_take]; omega)
                rw [this, ← hdr, hd3, ← hfl]
                simp
              · rw [List.length_drop] at hfu ⊢; omega
            · have hi3 : i3 < S.length ∧ isSp (S.getD i3 0) = true := by simpa using hcnd
              have e3 : IntKind.wrap .i64 ((i3 : Int) + 1) = ((i3 + 1 : Nat) : Int) := by rw [wr_i64 (by omega) (by omega)]; omega
              (try simp -dsimp (disch := omega) only [↓pre, sp, sp2, wp_some, Int.cast_ofNat_Int, Nat.reduceAdd, Nat.reduceMul, Nat.reduceSub, Nat.reduceLeDiff, Nat.reduceEqDiff, Nat.reducePow, Int.reduceToNat, Int.reducePow, Int.reduceAdd, Int.reduceSub, Int.reduceMul, Int.reduceLT, Int.reduceLE, Int.reduceEq, Int.reduceNeg, e3])
              refine hj3 (m3 - 1) _ _ (by omega) ⟨i3 + 1, rfl, by omega, by omega, rfl, ?_⟩
              rw [← hd3, dropWhile_drop S i3 hi3.1, hi3.2]; rfl
        · rintro l h4 ⟨m', hm', hF⟩
          have hF' := hF
          obtain ⟨fs', i', fuel', acc', rfl, -⟩ := hF'
          (try simp -dsimp (disch := omega) only [↓pre, sp, sp2, wp_some, Int.cast_ofNat_Int, Nat.reduceAdd, Nat.reduceMul, Nat.reduceSub, Nat.reduceLeDiff, Nat.reduceEqDiff, Nat.reducePow, Int.reduceToNat, Int.reducePow, Int.reduceAdd, Int.reduceSub, Int.reduceMul, Int.reduceLT, Int.reduceLE, Int.reduceEq, Int.reduceNeg])
          exact hj m' _ _ hm' hF
      · have hi : i = S.length := by omega
        subst hi
        have hfl' : acc ++ (if S.drop fs = [] then [] else [S.drop fs]) = fieldsL S := by
          rw [← hfl, List.drop_length, List.take_length]
          obtain ⟨fu, rfl⟩ : ∃ fu, fuel = fu + 1 := ⟨fuel - 1, by omega⟩
          rfl
        (try simp -dsimp (disch := omega) only [↓pre, sp, sp2, wp_some, Int.cast_ofNat_Int, Nat.reduceAdd, Nat.reduceMul, Nat.reduceSub, Nat.reduceLeDiff, Nat.reduceEqDiff, Nat.reducePow, Int.reduceToNat, Int.reducePow, Int.reduceAdd, Int.reduceSub, Int.reduceMul, Int.reduceLT, Int.reduceLE, Int.reduceEq, Int.reduceNeg, sp5])
        refine wp_kJ (fun l h4 => Kp h h4 ∧ Os h4 v (fieldsL S)) (fun j2 hj2 => ?_) ?_
        · (try simp -dsimp (disch := omega) only [↓pre, sp, sp2, wp_some, Int.cast_ofNat_Int, Nat.reduceAdd, Nat.reduceMul, Nat.reduceSub, Nat.reduceLeDiff, Nat.reduceEqDiff, Nat.reducePow, Int.reduceToNat, Int.reducePow, Int.reduceAdd, Int.reduceSub, Int.reduceMul, Int.reduceLT, Int.reduceLE, Int.reduceEq, Int.reduceNeg])
          refine wp_ite (fun c2 => ?_) (fun c2 => ?_)
          · have hne : ¬ S.drop fs = [] := by simp; omega
            rw [if_neg hne] at hfl'
            have hlt : acc.length < (fieldsL S).length := by rw [← hfl']; simp
            have ec := cutSn (S := S) hfi
            (try simp -dsimp (disch := omega) only [↓pre, sp, sp2, wp_some, Int.cast_ofNat_Int, Nat.reduceAdd, Nat.reduceMul, Nat.reduceSub, Nat.reduceLeDiff, Nat.reduceEqDiff, Nat.reducePow, Int.reduceToNat, Int.reducePow, Int.reduceAdd, Int.reduceSub, Int.reduceMul, Int.reduceLT, Int.reduceLE, Int.reduceEq, Int.reduceNeg, ec, (Ow.rd o3).at])
            refine wp_storeOw (j := acc.length) k3.w' o3 rfl rfl rfl (by simp [strs_len]; omega) (by simp [strs_len]; omega) rfl fun h4 o4 k4 n4 => ?_
            have hl1 : (fieldsL S).length - acc.length = 0 + 1 := by rw [← hfl']; simp
            rw [splice_one _ _ _ (by simp [strs_len]; omega), strs_set, hl1, List.replicate_succ, set_app, List.replicate_zero, hfl'] at o4
            (try simp -dsimp (disch := omega) only [↓pre, sp, sp2, wp_some, Int.cast_ofNat_Int, Nat.reduceAdd, Nat.reduceMul, Nat.reduceSub, Nat.reduceLeDiff, Nat.reduceEqDiff, Nat.reducePow, Int.reduceToNat, Int.reducePow, Int.reduceAdd, Int.reduceSub, Int.reduceMul, Int.reduceLT, Int.reduceLE, Int.reduceEq, Int.reduceNeg])
            exact hj2 _ _ ⟨Ke.new_p k3 k4 fun i hi => f1 i hi, o4⟩
          · have hne : S.drop fs = [] := by simp; omega
            rw [if_pos hne, List.append_nil] at hfl'
            have hl1 : (fieldsL S).length - acc.length = 0 := by rw [← hfl']; omega
            rw [hl1, List.replicate_zero, List.append_nil, hfl'] at o3
            exact hj2 _ _ ⟨k3, o3⟩
        · rintro l h4 ⟨k4, o4⟩
          (try simp -dsimp (disch := omega) only [↓pre, sp, sp2, wp_some, Int.cast_ofNat_Int, Nat.reduceAdd, Nat.reduceMul, Nat.reduceSub, Nat.reduceLeDiff, Nat.reduceEqDiff, Nat.reducePow, Int.reduceToNat, Int.reducePow, Int.reduceAdd, Int.reduceSub, Int.reduceMul, Int.reduceLT, Int.reduceLE, Int.reduceEq, Int.reduceNeg])
          exact ⟨k4, o4, f1⟩
    · have hi : i < S.length ∧ isSp (S.getD i 0) = true := by simpa using hcnd
      have e1 : IntKind.wrap .i64 ((i : Int) + 1) = ((i + 1 : Nat) : Int) := by rw [wr_i64 (by omega) (by omega)]; omega
      (try simp -dsimp (disch := omega) only [↓pre, sp, sp2, wp_some, Int.cast_ofNat_Int, Nat.reduceAdd, Nat.reduceMul, Nat.reduceSub, Nat.reduceLeDiff, Nat.reduceEqDiff, Nat.reducePow, Int.reduceToNat, Int.reducePow, Int.reduceAdd, Int.reduceSub, Int.reduceMul, Int.reduceLT, Int.reduceLE, Int.reduceEq, Int.reduceNeg, e1])
      refine hj (m - 1) _ _ (by omega) ⟨i + 1, rfl, by omega, rfl, ?_⟩
      rw [← hd, dropWhile_drop S i hi.1, hi.2]; rfl
end Go.Proofs.YtindiedfioiejaaDoor.AI
