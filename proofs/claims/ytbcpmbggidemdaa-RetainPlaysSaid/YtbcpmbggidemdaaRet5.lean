/- Chapter 9: the statements' numbers. -/
import Derived.Test.YtbcpmbggidemdaaRetQ
namespace Go.Proofs.Ytbcpmbggidemdaa.AI
open Go
set_option linter.unusedSimpArgs false
set_option linter.unusedVariables false
variable {ov : AOver} {h : AH} {v a b : AVal} {md md' : AMode} {p q : Nat} {s : BSt} {lv : AVal} {vs : List AVal}

def lcg (x : Nat) : Nat := (x * 6364136223846793005 + 1442695040888963407) % 2 ^ 64
def lcgs (x : Nat) : Nat → Nat
  | 0 => x
  | i + 1 => lcg (lcgs x i)
def seed9 (s : Int) : Nat := (u64 s * 11400714819323198485 + 1) % 2 ^ 64
def num9 (x i : Nat) : Int := IntKind.wrap .i64 ((lcgs x (i + 1) : Int) / (2 : Int) ^ (i % 50))
def nums9 (s : Int) (n : Nat) : List Int := (List.range n).map (num9 (seed9 s))
theorem nums9_len (s : Int) (n : Nat) : (nums9 s n).length = n := by simp [nums9]
theorem nums9_in (s : Int) (n : Nat) : ∀ x ∈ nums9 s n, InI64 x := by
  intro x hx
  simp only [nums9, List.mem_map] at hx
  obtain ⟨i, _, rfl⟩ := hx
  unfold num9 InI64
  rw [IntKind.wrap_i64]; omega
theorem lcg_lt (x : Nat) : lcg x < 2 ^ 64 := Nat.mod_lt _ (by omega)
theorem lcgs_lt {x : Nat} (h : x < 2 ^ 64) (i : Nat) : lcgs x i < 2 ^ 64 := by
  cases i with
  | zero => exact h
  | succ i => exact lcg_lt _
theorem numbers_spec (H : Plain ov) (n : Nat) (w : Wf h) {s : Int} {k : Nat} (hk : k ≤ 4096) :
    Wp (kc ov (n + 1) N_runglaw9_numbers [.int .i64 s, .int .i64 k] h) fun r h' => Kp h h' ∧ Oi h' r (nums9 s k) ∧ Fresh h r := by
  rw [C_runglaw9_numbers H]; unfold F_runglaw9_numbers
  have hu := u64_lt s
  have e0 : IntKind.wrap .u64 (IntKind.wrap .u64 ((u64 s : Int) * 11400714819323198485) + 1) = (seed9 s : Int) := by
    rw [IntKind.wrap_u64, IntKind.wrap_u64, seed9]; omega
  have hs9 : seed9 s < 2 ^ 64 := Nat.mod_lt _ (by omega)
  (try simp -dsimp (disch := omega) only [↓pre, sp, sp2, wp_some, Int.cast_ofNat_Int, Nat.reduceAdd, Nat.reduceMul, Nat.reduceSub, Nat.reduceLeDiff, Nat.reduceEqDiff, Nat.reducePow, Int.reduceToNat, Int.reducePow, Int.reduceAdd, Int.reduceSub, Int.reduceMul, Int.reduceLT, Int.reduceLE, Int.reduceEq, Int.reduceNeg, u64_eq s])
  rw [e0]
  refine wp_loop (fun m y h2 => ∃ (i : Nat) (r : AVal), y = [r, .int .u64 (lcgs (seed9 s) i : Nat), .int .i64 i] ∧ i + m = k ∧ Kp h h2 ∧ Ow h2 r T_int64 1 i (i64s (nums9 s i)) ∧ Fresh h r) k (by omega)
    ⟨0, .slice none 0 0, rfl, by omega, Ke.refl w, Ow.nil _ _ _ (by omega), fun i hi => hi.elim⟩ ?_
  rintro m _ h2 j ⟨i, r, rfl, him, k2, o2, f2⟩ hj
  unfold L_runglaw9_numbers_0
  (try simp -dsimp (disch := omega) only [↓pre, sp, sp2, wp_some, Int.cast_ofNat_Int, Nat.reduceAdd, Nat.reduceMul, Nat.reduceSub, Nat.reduceLeDiff, Nat.reduceEqDiff, Nat.reducePow, Int.reduceToNat, Int.reducePow, Int.reduceAdd, Int.reduceSub, Int.reduceMul, Int.reduceLT, Int.reduceLE, Int.reduceEq, Int.reduceNeg])
  refine wp_ite (fun c => ?_) (fun c => ?_)
  · have hl := lcgs_lt hs9 i
    have hl2 := lcgs_lt hs9 (i + 1)
    have e1 : IntKind.wrap .u64 (IntKind.wrap .u64 ((lcgs (seed9 s) i : Int) * 6364136223846793005) + 1442695040888963407) = (lcgs (seed9 s) (i + 1) : Int) := by
      rw [IntKind.wrap_u64, IntKind.wrap_u64]
      show _ = ((lcg (lcgs (seed9 s) i) : Nat) : Int)
      rw [lcg]; omega
    have e2 : Int.tmod (i : Int) 50 = ((i % 50 : Nat) : Int) := (Int.ofNat_tmod i 50).symm
    have e3 : IntKind.wrap .i64 ((lcgs (seed9 s) (i + 1) : Int) / (2 : Int) ^ (i % 50)) = num9 (seed9 s) i := rfl
    have ei : IntKind.wrap .i64 ((i : Int) + 1) = ((i + 1 : Nat) : Int) := by rw [wr_i64 (by omega) (by omega)]; omega
    (try simp -dsimp (disch := omega) only [↓pre, sp, sp2, wp_some, Int.cast_ofNat_Int, Nat.reduceAdd, Nat.reduceMul, Nat.reduceSub, Nat.reduceLeDiff, Nat.reduceEqDiff, Nat.reducePow, Int.reduceToNat, Int.reducePow, Int.reduceAdd, Int.reduceSub, Int.reduceMul, Int.reduceLT, Int.reduceLE, Int.reduceEq, Int.reduceNeg, e1, e2, e3, Int.toNat_natCast])
    refine wp_buildSl k2.w' (by simp) rfl rfl fun q h5 hq k5 n5 g5 => ?_
    have s5 : Ow h5 (.slice (some (q, 0, 1)) 1 1) T_int64 1 1 (i64s [num9 (seed9 s) i]) := by subst hq; exact Ow.new g5 (by omega) 1 rfl rfl
    refine wp_append k5.w' (o2.kp k5) (Ow.rd s5) (i64s_cells _) (by omega) (by omega) fun r6 h6 o6 k6 f6 => ?_
    (try simp -dsimp (disch := omega) only [↓pre, sp, sp2, wp_some, Int.cast_ofNat_Int, Nat.reduceAdd, Nat.reduceMul, Nat.reduceSub, Nat.reduceLeDiff, Nat.reduceEqDiff, Nat.reducePow, Int.reduceToNat, Int.reducePow, Int.reduceAdd, Int.reduceSub, Int.reduceMul, Int.reduceLT, Int.reduceLE, Int.reduceEq, Int.reduceNeg, ei])
    refine hj (m - 1) _ _ (by omega) ⟨i + 1, r6, by rw [← e1], by omega, Ke.new_p (k2.trans k5) k6 f2, o6.to (by rw [nums9, nums9, List.range_succ, List.map_append, i64s_append]; rfl) rfl, fun j hj => ?_⟩
    rcases f6 j hj with f | f
    · exact f2 j f
    · have := k2.n; have := k5.n; omega
  · obtain rfl : i = k := by omega
    (try simp -dsimp (disch := omega) only [↓pre, sp, sp2, wp_some, Int.cast_ofNat_Int, Nat.reduceAdd, Nat.reduceMul, Nat.reduceSub, Nat.reduceLeDiff, Nat.reduceEqDiff, Nat.reducePow, Int.reduceToNat, Int.reducePow, Int.reduceAdd, Int.reduceSub, Int.reduceMul, Int.reduceLT, Int.reduceLE, Int.reduceEq, Int.reduceNeg])
    exact ⟨k2, o2.to rfl (by rw [nums9_len]), f2⟩

theorem nums_spec (H : Plain ov) (n : Nat) {x y : List Int} (ha : Sz h a 1 x.length (i64s x) md) (hb : Sz h b 1 y.length (i64s y) md') (hl : x.length ≤ 2 ^ 40) : kc ov (n + 1) N_runghelp_Nums [a, b] h = some (.bool (decide (x = y)), h) := by
  refine Wp.eq ?_
  rw [C_runghelp_Nums H]; unfold F_runghelp_Nums
  (try simp -dsimp (disch := omega) only [↓pre, sp, sp2, wp_some, Int.cast_ofNat_Int, Nat.reduceAdd, Nat.reduceMul, Nat.reduceSub, Nat.reduceLeDiff, Nat.reduceEqDiff, Nat.reducePow, Int.reduceToNat, Int.reducePow, Int.reduceAdd, Int.reduceSub, Int.reduceMul, Int.reduceLT, Int.reduceLE, Int.reduceEq, Int.reduceNeg, ha.len, hb.len])
  refine wp_ite (fun c => ?_) (fun c => ?_)
  · (try simp -dsimp (disch := omega) only [↓pre, sp, sp2, wp_some, Int.cast_ofNat_Int, Nat.reduceAdd, Nat.reduceMul, Nat.reduceSub, Nat.reduceLeDiff, Nat.reduceEqDiff, Nat.reducePow, Int.reduceToNat, Int.reducePow, Int.reduceAdd, Int.reduceSub, Int.reduceMul, Int.reduceLT, Int.reduceLE, Int.reduceEq, Int.reduceNeg])
    have : ¬ x = y := fun e => by subst e; exact c rfl
    simp [this]
  · have hxy : x.length = y.length := by omega
    refine wp_loop (fun m z h1 => ∃ i : Nat, z = [.int .i64 i] ∧ i + m = x.length ∧ h = h1 ∧ x.take i = y.take i) x.length (by omega) ⟨0, rfl, by omega, rfl, by simp⟩ ?_
    rintro m _ _ j ⟨i, rfl, him, rfl, ht⟩ hj
    unfold L_runghelp_Nums_0
    (try simp -dsimp (disch := omega) only [↓pre, sp, sp2, wp_some, Int.cast_ofNat_Int, Nat.reduceAdd, Nat.reduceMul, Nat.reduceSub, Nat.reduceLeDiff, Nat.reduceEqDiff, Nat.reducePow, Int.reduceToNat, Int.reducePow, Int.reduceAdd, Int.reduceSub, Int.reduceMul, Int.reduceLT, Int.reduceLE, Int.reduceEq, Int.reduceNeg, ha.len])
    refine wp_ite (fun c => ?_) (fun c => ?_)
    · have hi : i < x.length := by omega
      have hi' : i < y.length := by omega
      have h1 : rLoad (ea a i) h = some (.int .i64 (x.getD i 0)) := by
        rw [ha.ld (by rw [i64s_len]; exact hi)]; simp [i64s, hi]
      have h2 : rLoad (ea b i) h = some (.int .i64 (y.getD i 0)) := by
        rw [hb.ld (by rw [i64s_len]; exact hi')]; simp [i64s, hi']
      (try simp -dsimp (disch := omega) only [↓pre, sp, sp2, wp_some, Int.cast_ofNat_Int, Nat.reduceAdd, Nat.reduceMul, Nat.reduceSub, Nat.reduceLeDiff, Nat.reduceEqDiff, Nat.reducePow, Int.reduceToNat, Int.reducePow, Int.reduceAdd, Int.reduceSub, Int.reduceMul, Int.reduceLT, Int.reduceLE, Int.reduceEq, Int.reduceNeg, ha.at, h1, hb.at, h2])
      refine wp_ite (fun c2 => ?_) (fun c2 => ?_)
      · (try simp -dsimp (disch := omega) only [↓pre, sp, sp2, wp_some, Int.cast_ofNat_Int, Nat.reduceAdd, Nat.reduceMul, Nat.reduceSub, Nat.reduceLeDiff, Nat.reduceEqDiff, Nat.reducePow, Int.reduceToNat, Int.reducePow, Int.reduceAdd, Int.reduceSub, Int.reduceMul, Int.reduceLT, Int.reduceLE, Int.reduceEq, Int.reduceNeg])
        have : ¬ x = y := fun e => by subst e; exact c2 rfl
        simp [this]
      · have ei : IntKind.wrap .i64 ((i : Int) + 1) = ((i + 1 : Nat) : Int) := by rw [wr_i64 (by omega) (by omega)]; omega
        (try simp -dsimp (disch := omega) only [↓pre, sp, sp2, wp_some, Int.cast_ofNat_Int, Nat.reduceAdd, Nat.reduceMul, Nat.reduceSub, Nat.reduceLeDiff, Nat.reduceEqDiff, Nat.reducePow, Int.reduceToNat, Int.reducePow, Int.reduceAdd, Int.reduceSub, Int.reduceMul, Int.reduceLT, Int.reduceLE, Int.reduceEq, Int.reduceNeg, ei])
        refine hj (m - 1) _ _ (by omega) ⟨i + 1, rfl, by omega, rfl, ?_⟩
        rw [List.take_succ_eq_append_getElem hi, List.take_succ_eq_append_getElem hi', ht]
        have : x.getD i 0 = y.getD i 0 := by simpa using c2
        simp [hi, hi'] at this
        rw [this]
    · rw [List.take_of_length_le (by omega), List.take_of_length_le (by omega)] at ht
      (try simp -dsimp (disch := omega) only [↓pre, sp, sp2, wp_some, Int.cast_ofNat_Int, Nat.reduceAdd, Nat.reduceMul, Nat.reduceSub, Nat.reduceLeDiff, Nat.reduceEqDiff, Nat.reducePow, Int.reduceToNat, Int.reducePow, Int.reduceAdd, Int.reduceSub, Int.reduceMul, Int.reduceLT, Int.reduceLE, Int.reduceEq, Int.reduceNeg])
      simp [ht]

/-- Stores as new. -/
theorem new_inv (blocks size : Int) (hb : 4 ≤ blocks) (hs : 64 ≤ size) : Inv (newM blocks size) 0 ∧ LowS (newM blocks size) ∧ Empty (newM blocks size) ∧ (newM blocks size).size = (min size 4096).toNat ∧ (newM blocks size).dead = false ∧ (newM blocks size).left = -1 ∧ (newM blocks size).writes = 0 ∧ (newM blocks size).bl.length = (min blocks 64).toNat := by
  have es : (min (max size 16) 4096).toNat = (min size 4096).toNat := by omega
  have e8 : (min (max blocks 1) 64).toNat = (min blocks 64).toNat := by omega
  have eb : newM blocks size = { bl := List.replicate (min blocks 64).toNat (List.replicate (min size 4096).toNat 0), size := (min size 4096).toNat, writes := 0, left := -1, pre := 0, dead := false } := by
    unfold newM; rw [e8, es]
  rw [eb]
  generalize hB : (min blocks 64).toNat = B
  generalize hS : (min size 4096).toNat = S
  have hB4 : 4 ≤ B := by omega
  have b : ∀ i, i < B → bAt ({ bl := List.replicate B (List.replicate S 0), size := S, writes := 0, left := -1, pre := 0, dead := false } : BSt) i = List.replicate S 0 := fun i hi => by
    show (List.replicate B _).getD i [] = _
    rw [List.getD_eq_getElem?_getD, List.getElem?_replicate, if_pos hi]; rfl
  have hz : numOf (List.replicate S 0) = 0 := by
    have h1 := numOf_or (List.replicate S 0)
    have h2 : unbe ((List.replicate S (0 : UInt8)).take 8) = 0 := by
      rw [List.take_replicate, show min 8 S = 8 by omega]; decide
    omega
  refine ⟨⟨by simp; omega, by simp; omega, fun i hi => by rw [b i (by omega)]; simp, fun i => ?_⟩, fun i hi => ?_, ⟨?_, ?_, ?_, ?_⟩, rfl, rfl, rfl, rfl, by simp⟩
  · by_cases hi : i < B
    · rw [b i hi, hz]; omega
    · have : bAt ({ bl := List.replicate B (List.replicate S 0), size := S, writes := 0, left := -1, pre := 0, dead := false } : BSt) i = [] := by simp [bAt, hi]
      rw [this]
      have h1 := numOf_or []
      have h2 : unbe (([] : List UInt8).take 8) = 0 := by decide
      omega
  · rw [b i (by omega), List.take_replicate, show min 7 S = 7 by omega]
  · rw [b 2 (by omega), hz]
  · rw [b 3 (by omega), hz]
  · rw [b 2 (by omega)]; simp [List.getD_eq_getElem?_getD, List.getElem?_replicate]; split <;> rfl
  · rw [b 3 (by omega)]; simp [List.getD_eq_getElem?_getD, List.getElem?_replicate]; split <;> rfl
end Go.Proofs.Ytbcpmbggidemdaa.AI
