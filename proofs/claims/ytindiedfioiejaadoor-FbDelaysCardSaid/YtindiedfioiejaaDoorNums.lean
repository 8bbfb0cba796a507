/- Numbers in slices; runghelp.Nums. -/
import Derived.Test.YtindiedfioiejaaDoorF
import Derived.Test.YtindiedfioiejaaDoorAiLib5
namespace Go.Proofs.YtindiedfioiejaaDoor.AI
open Go
set_option linter.unusedSimpArgs false
set_option linter.unusedVariables false
variable {ov : AOver} {h : AH} {v a b : AVal} {md md' : AMode}
/-- Numbers as cells. -/
def i64s (l : List Int) : List AVal := l.map (AVal.int .i64)
theorem i64s_len (l : List Int) : (i64s l).length = l.length := by simp [i64s]
theorem i64s_cells (l : List Int) : (i64s l).all AVal.isCell = true := by simp [i64s, AVal.isCell]
theorem i64s_append (l m : List Int) : i64s (l ++ m) = i64s l ++ i64s m := by simp [i64s]
abbrev Oi (h : AH) (v : AVal) (l : List Int) : Prop := Ow h v T_int64 1 l.length (i64s l)
abbrev Si (h : AH) (v : AVal) (l : List Int) (md : AMode) : Prop := Sz h v 1 l.length (i64s l) md
theorem Oi.si {l : List Int} (o : Oi h v l) : Si h v l .rw := Ow.rd o
theorem Si.ldI {l : List Int} (s : Si h v l md) {j : Nat} (hj : j < l.length) : rLoad (ea v j) h = some (.int .i64 (l.getD j 0)) := by
  rw [s.ld (by rw [i64s_len]; exact hj)]; simp [i64s, hj]
theorem nums_spec (H : Plain ov) (n : Nat) {x y : List Int} (ha : Sz h a 1 x.length (i64s x) md) (hb : Sz h b 1 y.length (i64s y) md') (hl : x.length ≤ 2 ^ 40) : kc ov (n + 1) N_runghelp_Nums [a, b] h = some (.bool (decide (x = y)), h) := by
  refine Wp.eq ?_
  rw [C_runghelp_Nums H]; unfold F_runghelp_Nums
  (try simp -dsimp (disch := omega) only [↓pre, sp, sp2, wp_some, Int.cast_ofNat_Int, Nat.reduceAdd, Nat.reduceMul, Nat.reduceSub, Nat.reduceLeDiff, Nat.reduceEqDiff, Nat.reducePow, Int.reduceToNat, Int.reducePow, Int.reduceAdd, Int.reduceSub, Int.reduceMul, Int.reduceLT, Int.reduceLE, Int.reduceEq, Int.reduceNeg, ha.len, hb.len])
  refine wp_ite (fun c => ?_) (fun c => ?_)
  · (try simp -dsimp (disch := omega) only [↓pre, sp, sp2, wp_some, Int.cast_ofNat_Int, Nat.reduceAdd, Nat.reduceMul, Nat.reduceSub, Nat.reduceLeDiff, Nat.reduceEqDiff, Nat.reducePow, Int.reduceToNat, Int.reducePow, Int.reduceAdd, Int.reduceSub, Int.reduceMul, Int.reduceLT, Int.reduceLE, Int.reduceEq, Int.reduceNeg])
    have : ¬ x = y := fun e => by subst e; exact c rfl
    simp [this]
  · have hxy : x.length = y.length := by omega
    refine wp_loop (fun m z h1 => ∃ i : Nat, z = [.int .i64 i] ∧ i + m = x.length ∧ h = h1 ∧ x.take i = y.take i) x.length (by omega) ⟨0, rfl, by omega, rfl, by simp⟩ ?_
    rintro m _ _ j ⟨i, rfl, him, rfl, ht⟩ hj
    unfold L_runghelp_Nums_0
    (try simp -dsimp (disch := omega) only [↓pre, sp, sp2, wp_some, Int.cast_ofNat_Int, Nat.reduceAdd, Nat.reduceMul, Nat.reduceSub, Nat.reduceLeDiff, Nat.reduceEqDiff, Nat.reducePow, Int.reduceToNat, Int.reducePow, Int.reduceAdd, Int.reduceSub, Int.reduceMul, Int.reduceLT, Int.reduceLE, Int.reduceEq, Int.reduceNeg, ha.len])
    refine wp_ite (fun c => ?_) (fun c => ?_)
    · have hi : i < x.length := by omega
      have hi' : i < y.length := by omega
      have h1 : rLoad (ea a i) h = some (.int .i64 (x.getD i 0)) := by
        rw [ha.ld (by rw [i64s_len]; exact hi)]; simp [i64s, hi]
      have h2 : rLoad (ea b i) h = some (.int .i64 (y.getD i 0)) := by
        rw [hb.ld (by rw [i64s_len]; exact hi')]; simp [i64s, hi']
      (try simp -dsimp (disch := omega) only [↓pre, sp, sp2, wp_some, Int.cast_ofNat_Int, Nat.reduceAdd, Nat.reduceMul, Nat.reduceSub, Nat.reduceLeDiff, Nat.reduceEqDiff, Nat.reducePow, Int.reduceToNat, Int.reducePow, Int.reduceAdd, Int.reduceSub, Int.reduceMul, Int.reduceLT, Int.reduceLE, Int.reduceEq, Int.reduceNeg, ha.at, h1, hb.at, h2])
      refine wp_ite (fun c2 => ?_) (fun c2 => ?_)
      · (try simp -dsimp (disch := omega) only [↓pre, sp, sp2, wp_some, Int.cast_ofNat_Int, Nat.reduceAdd, Nat.reduceMul, Nat.reduceSub, Nat.reduceLeDiff, Nat.reduceEqDiff, Nat.reducePow, Int.reduceToNat, Int.reducePow, Int.reduceAdd, Int.reduceSub, Int.reduceMul, Int.reduceLT, Int.reduceLE, Int.reduceEq, Int.reduceNeg])
        have : ¬ x = y := fun e => by subst e; exact c2 rfl
        simp [this]
      · have ei : IntKind.wrap .i64 ((i : Int) + 1) = ((i + 1 : Nat) : Int) := by rw [wr_i64 (by omega) (by omega)]; omega
        (try simp -dsimp (disch := omega) only [↓pre, sp, sp2, wp_some, Int.cast_ofNat_Int, Nat.reduceAdd, Nat.reduceMul, Nat.reduceSub, Nat.reduceLeDiff, Nat.reduceEqDiff, Nat.reducePow, Int.reduceToNat, Int.reducePow, Int.reduceAdd, Int.reduceSub, Int.reduceMul, Int.reduceLT, Int.reduceLE, Int.reduceEq, Int.reduceNeg, ei])
        refine hj (m - 1) _ _ (by omega) ⟨i + 1, rfl, by omega, rfl, ?_⟩
        rw [List.take_succ_eq_append_getElem hi, List.take_succ_eq_append_getElem hi', ht]
        have : x.getD i 0 = y.getD i 0 := by simpa using c2
        simp [hi, hi'] at this
        rw [this]
    · rw [List.take_of_length_le (by omega), List.take_of_length_le (by omega)] at ht
      (try simp -dsimp (disch := omega) only [↓pre, sp, sp2, wp_some, Int.cast_ofNat_Int, Nat.reduceAdd, Nat.reduceMul, Nat.reduceSub, Nat.reduceLeDiff, Nat.reduceEqDiff, Nat.reducePow, Int.reduceToNat, Int.reducePow, Int.reduceAdd, Int.reduceSub, Int.reduceMul, Int.reduceLT, Int.reduceLE, Int.reduceEq, Int.reduceNeg])
      simp [ht]

end Go.Proofs.YtindiedfioiejaaDoor.AI
