/- Chapter 1: NumWraps, NumKinds, NumMoves: what their texts come to. -/
import Derived.Test.YtijdkjngbogegaaLaw1b
import Derived.Test.YtijdkjngbogegaaShift1
import Derived.Test.YtijdkjngbogegaaAiNumR
namespace Go.Proofs.Ytijdkjngbogegaa.AI
open Go
set_option linter.unusedSimpArgs false
set_option linter.unusedVariables false
variable {ov : AOver} {h : AH}
theorem k3_ofInt {k : Int} (hk : K3 k) : (kdM k).w ≤ 64 ∧ (∀ x, wrapM k x = ((BitVec.ofInt (kdM k).w x).toNat : Int)) ∧ ∀ x y, wrapM k (iOr .i64 x y) = ((BitVec.ofInt (kdM k).w x ||| BitVec.ofInt (kdM k).w y).toNat : Int) := by
  rcases hk with rfl | rfl | rfl
  · exact ⟨by decide, ov8, or_any8⟩
  · exact ⟨by decide, ov16, or_any16⟩
  · exact ⟨by decide, ov32, or_any32⟩
theorem ofInt_own {W : Nat} (X : BitVec W) : BitVec.ofInt W (X.toNat : Int) = X := by
  rw [BitVec.ofInt_natCast, BitVec.ofNat_toNat, BitVec.setWidth_eq]
theorem shM_rol {k a n : Int} (hk : K3 k) (r : Nat) (hr : (max n 0).tmod (kdM k).w = r) (hr2 : r < (kdM k).w) :
    shM [82, 79, 76] k a n = ((BitVec.ofInt (kdM k).w a <<< r ||| BitVec.ofInt (kdM k).w a >>> ((kdM k).w - r)).toNat : Int) := by
  obtain ⟨hw, h1, h2⟩ := k3_ofInt hk
  unfold shM shB
  rw [if_pos hk, if_neg (by decide), if_neg (by decide), if_pos rfl, h1 a, hr, h2, Int.toNat_natCast, ofInt_shl hw, show (((kdM k).w : Int) - r).toNat = (kdM k).w - r by omega, ofInt_shr]
theorem shM_ror {k a n : Int} (hk : K3 k) (r : Nat) (hr : (max n 0).tmod (kdM k).w = r) (hr2 : r < (kdM k).w) :
    shM [82, 79, 82] k a n = ((BitVec.ofInt (kdM k).w a >>> r ||| BitVec.ofInt (kdM k).w a <<< ((kdM k).w - r)).toNat : Int) := by
  obtain ⟨hw, h1, h2⟩ := k3_ofInt hk
  unfold shM shB
  rw [if_pos hk, if_neg (by decide), if_neg (by decide), if_neg (by decide), if_pos rfl, h1 a, hr, h2, Int.toNat_natCast, ofInt_shr, show (((kdM k).w : Int) - r).toNat = (kdM k).w - r by omega, ofInt_shl hw]
theorem round_back {k a n : Int} (hk : K3 k) : shM [82, 79, 82] k (shM [82, 79, 76] k a n) n = wrapM k a := by
  have hw := (k3_w hk).2
  obtain ⟨hw', h1, h2⟩ := k3_ofInt hk
  have ht0 : 0 ≤ (max n 0).tmod (kdM k).w := Int.tmod_nonneg _ (by omega)
  have ht1 : (max n 0).tmod (kdM k).w < (kdM k).w := Int.tmod_lt_of_pos _ (by omega)
  obtain ⟨r, hr⟩ := Int.eq_ofNat_of_zero_le ht0
  have hr2 : r < (kdM k).w := by omega
  rw [shM_rol hk r hr hr2, shM_ror hk r hr hr2, ofInt_own, rot_back _ r hr2, h1]
theorem shM_I64 {s : List UInt8} {k a n : Int} : I64 (shM s k a n) := by
  unfold shM shB
  split
  · rename_i c
    have h0 := k3_pos c a
    have h1 := wrapM_big k a
    repeat' split
    · unfold I64; omega
    · exact wrapM_I64 _ _
    · unfold I64; omega
    · unfold I64
      have e1 : 0 ≤ wrapM k a / 2 ^ (max n 0).toNat := Int.ediv_nonneg h0 (Int.pow_nonneg (by omega))
      have e2 := Int.ediv_le_self (2 ^ (max n 0).toNat) h0
      omega
    · exact wrapM_I64 _ _
    · exact wrapM_I64 _ _
    · unfold I64; omega
  · unfold I64; omega
theorem shM_out {s : List UInt8} (hs : s = [83, 72, 76] ∨ s = [83, 72, 82]) {k a : Int} : shM s k a (kdM k).w = 0 := by
  unfold shM shB
  split
  · rcases hs with rfl | rfl
    · rw [if_pos rfl, if_pos (by omega)]
    · rw [if_neg (by decide), if_pos rfl, if_pos (by omega)]
  · rfl
theorem shM_none {s : List UInt8} (hs : s = [83, 72, 76] ∨ s = [83, 72, 82]) {k a n : Int} (hk : K3 k) (hn : n ≤ 0) : shM s k a n = wrapM k a := by
  have hw := (k3_w hk).2
  have h1 := wrapM_big k a
  unfold shM shB
  rw [if_pos hk, show max n 0 = 0 by omega]
  rcases hs with rfl | rfl
  · rw [if_pos rfl, if_neg (by omega)]
    show wrapM k (IntKind.wrap .i64 (wrapM k a * 1)) = _
    rw [Int.mul_one, wr_i64 (by omega) (by omega), wrapM_wrapM]
  · rw [if_neg (by decide), if_pos rfl, if_neg (by omega)]
    show wrapM k a / 1 = _
    rw [Int.ediv_one]
theorem numWraps (H : Plain ov) (K : ov N_runglaw1_known = some knownYes) (n : Nat) (w : Wf h) {kind x : Int} (hk : I64 kind) (hx : I64 x) :
    Wp (kc ov (n + 6) N_runglaw1_NumWraps [.int .i64 kind, .int .i64 x] h) fun r h' => r = .bool true := by
  rw [C_runglaw1_NumWraps H]; unfold F_runglaw1_NumWraps
  obtain ⟨i, hi, e1, _⟩ := place_spec (h := h) H (n + 4) hk (m := 11) (by omega) (by omega)
  have e1' : kc ov (n + 5) N_runghelp_Place [.int .i64 kind, .int .i64 11] h = some (.int .i64 i, h) := e1
  (try simp -dsimp (disch := omega) only [↓pre, sp, sp2, wp_some, Int.cast_ofNat_Int, Nat.reduceAdd, Nat.reduceMul, Nat.reduceSub, Nat.reduceLeDiff, Nat.reduceEqDiff, Nat.reducePow, Int.reduceToNat, Int.reducePow, Int.reduceAdd, Int.reduceSub, Int.reduceMul, Int.reduceLT, Int.reduceLE, Int.reduceEq, Int.reduceNeg, known_spec K, e1'])
  generalize hkk : (1 : Int) + i = k
  have hR : 1 ≤ k ∧ k ≤ 11 := by omega
  refine Wp.bind (wrap_spec H (n + 3) w k x hx) fun v1 h1 ⟨k1, f1⟩ => ?_
  subst f1
  (try simp -dsimp (disch := omega) only [↓pre, sp, sp2, wp_some, Int.cast_ofNat_Int, Nat.reduceAdd, Nat.reduceMul, Nat.reduceSub, Nat.reduceLeDiff, Nat.reduceEqDiff, Nat.reducePow, Int.reduceToNat, Int.reducePow, Int.reduceAdd, Int.reduceSub, Int.reduceMul, Int.reduceLT, Int.reduceLE, Int.reduceEq, Int.reduceNeg])
  refine Wp.bind (range_spec H (n + 3) k1.w' k) fun v2 h2 ⟨k2, f2⟩ => ?_
  subst f2
  (try simp -dsimp (disch := omega) only [↓pre, sp, sp2, wp_some, Int.cast_ofNat_Int, Nat.reduceAdd, Nat.reduceMul, Nat.reduceSub, Nat.reduceLeDiff, Nat.reduceEqDiff, Nat.reducePow, Int.reduceToNat, Int.reducePow, Int.reduceAdd, Int.reduceSub, Int.reduceMul, Int.reduceLT, Int.reduceLE, Int.reduceEq, Int.reduceNeg])
  refine Wp.bind (wrap_spec H (n + 3) k2.w' kind x hx) fun v3 h3 ⟨k3, f3⟩ => ?_
  subst f3
  (try simp -dsimp (disch := omega) only [↓pre, sp, sp2, wp_some, Int.cast_ofNat_Int, Nat.reduceAdd, Nat.reduceMul, Nat.reduceSub, Nat.reduceLeDiff, Nat.reduceEqDiff, Nat.reducePow, Int.reduceToNat, Int.reducePow, Int.reduceAdd, Int.reduceSub, Int.reduceMul, Int.reduceLT, Int.reduceLE, Int.reduceEq, Int.reduceNeg])
  refine Wp.bind (rwrap_spec H (n + 1) k3.w' kind x hx) fun v4 h4 ⟨k4, f4⟩ => ?_
  subst f4
  have rg := wrapM_range k x
  (try simp -dsimp (disch := omega) only [↓pre, sp, sp2, wp_some, Int.cast_ofNat_Int, Nat.reduceAdd, Nat.reduceMul, Nat.reduceSub, Nat.reduceLeDiff, Nat.reduceEqDiff, Nat.reducePow, Int.reduceToNat, Int.reducePow, Int.reduceAdd, Int.reduceSub, Int.reduceMul, Int.reduceLT, Int.reduceLE, Int.reduceEq, Int.reduceNeg, decide_true, Bool.not_true])
  refine wp_kTh (fun r h' => r = .bool false ∧ Kp h4 h') (fun j hj => ?_) ?_
  · have n1 : ¬ wrapM k x < loM k := by omega
    have n2 : ¬ wrapM k x > hiM k := by omega
    (try simp -dsimp (disch := omega) only [↓pre, sp, sp2, wp_some, Int.cast_ofNat_Int, Nat.reduceAdd, Nat.reduceMul, Nat.reduceSub, Nat.reduceLeDiff, Nat.reduceEqDiff, Nat.reducePow, Int.reduceToNat, Int.reducePow, Int.reduceAdd, Int.reduceSub, Int.reduceMul, Int.reduceLT, Int.reduceLE, Int.reduceEq, Int.reduceNeg, n1, n2, decide_false])
    refine Wp.bind (wrap_spec H (n + 3) k4.w' k _ (wrapM_I64 k x)) fun v5 h5 ⟨k5, f5⟩ => ?_
    rw [wrapM_wrapM] at f5
    subst f5
    (try simp -dsimp (disch := omega) only [↓pre, sp, sp2, wp_some, Int.cast_ofNat_Int, Nat.reduceAdd, Nat.reduceMul, Nat.reduceSub, Nat.reduceLeDiff, Nat.reduceEqDiff, Nat.reducePow, Int.reduceToNat, Int.reducePow, Int.reduceAdd, Int.reduceSub, Int.reduceMul, Int.reduceLT, Int.reduceLE, Int.reduceEq, Int.reduceNeg, decide_true, Bool.not_true])
    exact hj _ _ ⟨rfl, k5⟩
  · rintro v h5 ⟨rfl, k5⟩
    (try simp -dsimp (disch := omega) only [↓pre, sp, sp2, wp_some, Int.cast_ofNat_Int, Nat.reduceAdd, Nat.reduceMul, Nat.reduceSub, Nat.reduceLeDiff, Nat.reduceEqDiff, Nat.reducePow, Int.reduceToNat, Int.reducePow, Int.reduceAdd, Int.reduceSub, Int.reduceMul, Int.reduceLT, Int.reduceLE, Int.reduceEq, Int.reduceNeg])
    refine wp_kTh (fun r h' => r = .bool true) (fun j hj => ?_) (fun v hh e => by subst e; (try simp -dsimp (disch := omega) only [↓pre, sp, sp2, wp_some, Int.cast_ofNat_Int, Nat.reduceAdd, Nat.reduceMul, Nat.reduceSub, Nat.reduceLeDiff, Nat.reduceEqDiff, Nat.reducePow, Int.reduceToNat, Int.reducePow, Int.reduceAdd, Int.reduceSub, Int.reduceMul, Int.reduceLT, Int.reduceLE, Int.reduceEq, Int.reduceNeg]))
    by_cases c : k = 1
    · (try simp -dsimp (disch := omega) only [↓pre, sp, sp2, wp_some, Int.cast_ofNat_Int, Nat.reduceAdd, Nat.reduceMul, Nat.reduceSub, Nat.reduceLeDiff, Nat.reduceEqDiff, Nat.reducePow, Int.reduceToNat, Int.reducePow, Int.reduceAdd, Int.reduceSub, Int.reduceMul, Int.reduceLT, Int.reduceLE, Int.reduceEq, Int.reduceNeg, c, decide_true])
      exact hj _ _ rfl
    · (try simp -dsimp (disch := omega) only [↓pre, sp, sp2, wp_some, Int.cast_ofNat_Int, Nat.reduceAdd, Nat.reduceMul, Nat.reduceSub, Nat.reduceLeDiff, Nat.reduceEqDiff, Nat.reducePow, Int.reduceToNat, Int.reducePow, Int.reduceAdd, Int.reduceSub, Int.reduceMul, Int.reduceLT, Int.reduceLE, Int.reduceEq, Int.reduceNeg, c, decide_false])
      refine Wp.bind (width_spec H (n + 3) k5.w' k) fun v6 h6 ⟨k6, f6⟩ => ?_
      subst f6
      have hz : IntKind.wrap .u64 (IntKind.wrap .u64 (IntKind.wrap .i64 (wrapM k x - x)) * 2 ^ ((64 : Int) - ((kdM k).w : Int)).toNat) = 0 := by
        have key : ∀ m : Int, (m = 256 ∨ m = 65536 ∨ m = 4294967296) → wrapM k x % m = x % m → ∀ s : Int, m * s = 18446744073709551616 → IntKind.wrap .u64 (IntKind.wrap .u64 (IntKind.wrap .i64 (wrapM k x - x)) * s) = 0 := by
          intro m hm he s hs
          rw [IntKind.wrap_u64, IntKind.wrap_u64, IntKind.wrap_i64]
          generalize wrapM k x = y at he
          rcases hm with rfl | rfl | rfl
          · obtain rfl : s = 72057594037927936 := by omega
            omega
          · obtain rfl : s = 281474976710656 := by omega
            omega
          · obtain rfl : s = 4294967296 := by omega
            omega
        have he := wrapM_emod k (by omega) x
        unfold modM at he
        rcases kcases k with rfl | rfl | rfl | rfl | rfl | rfl | rfl | rfl | rfl | rfl | rfl | ⟨_, _, h⟩
        · exact absurd rfl c
        · exact key 256 (.inl rfl) he _ rfl
        · exact key 65536 (.inr (.inl rfl)) he _ rfl
        · exact key 4294967296 (.inr (.inr rfl)) he _ rfl
        · exact key 256 (.inl rfl) he _ rfl
        · exact key 65536 (.inr (.inl rfl)) he _ rfl
        · exact key 4294967296 (.inr (.inr rfl)) he _ rfl
        · exact key 256 (.inl rfl) he _ rfl
        · exact key 65536 (.inr (.inl rfl)) he _ rfl
        · exact key 4294967296 (.inr (.inr rfl)) he _ rfl
        · exact key 4294967296 (.inr (.inr rfl)) he _ rfl
        · omega
      have hW : (kdM k).w ≤ 32 := by
        rcases kcases k with rfl | rfl | rfl | rfl | rfl | rfl | rfl | rfl | rfl | rfl | rfl | ⟨e, _, h⟩
        all_goals first | decide | (rw [e]; decide)
      (try simp -dsimp (disch := omega) only [↓pre, sp, sp2, wp_some, Int.cast_ofNat_Int, Nat.reduceAdd, Nat.reduceMul, Nat.reduceSub, Nat.reduceLeDiff, Nat.reduceEqDiff, Nat.reducePow, Int.reduceToNat, Int.reducePow, Int.reduceAdd, Int.reduceSub, Int.reduceMul, Int.reduceLT, Int.reduceLE, Int.reduceEq, Int.reduceNeg, c, decide_false, hz, decide_true])
      exact hj _ _ rfl
theorem numKinds (H : Plain ov) (K : ov N_runglaw1_known = some knownYes) (n : Nat) (w : Wf h) {k : Int} {s : List UInt8} :
    Wp (kc ov (n + 6) N_runglaw1_NumKinds [.int .i64 k, .str s] h) fun r h' => r = .bool true := by
  rw [C_runglaw1_NumKinds H]; unfold F_runglaw1_NumKinds
  (try simp -dsimp (disch := omega) only [↓pre, sp, sp2, wp_some, Int.cast_ofNat_Int, Nat.reduceAdd, Nat.reduceMul, Nat.reduceSub, Nat.reduceLeDiff, Nat.reduceEqDiff, Nat.reducePow, Int.reduceToNat, Int.reducePow, Int.reduceAdd, Int.reduceSub, Int.reduceMul, Int.reduceLT, Int.reduceLE, Int.reduceEq, Int.reduceNeg, known_spec K])
  refine wp_kIf (fun c => ?_) (fun c => ?_)
  · (try simp -dsimp (disch := omega) only [↓pre, sp, sp2, wp_some, Int.cast_ofNat_Int, Nat.reduceAdd, Nat.reduceMul, Nat.reduceSub, Nat.reduceLeDiff, Nat.reduceEqDiff, Nat.reducePow, Int.reduceToNat, Int.reducePow, Int.reduceAdd, Int.reduceSub, Int.reduceMul, Int.reduceLT, Int.reduceLE, Int.reduceEq, Int.reduceNeg])
  (try simp -dsimp (disch := omega) only [↓pre, sp, sp2, wp_some, Int.cast_ofNat_Int, Nat.reduceAdd, Nat.reduceMul, Nat.reduceSub, Nat.reduceLeDiff, Nat.reduceEqDiff, Nat.reducePow, Int.reduceToNat, Int.reducePow, Int.reduceAdd, Int.reduceSub, Int.reduceMul, Int.reduceLT, Int.reduceLE, Int.reduceEq, Int.reduceNeg])
  refine Wp.bind (range_spec H (n + 3) w k) fun v1 h1 ⟨k1, f1⟩ => ?_
  subst f1
  (try simp -dsimp (disch := omega) only [↓pre, sp, sp2, wp_some, Int.cast_ofNat_Int, Nat.reduceAdd, Nat.reduceMul, Nat.reduceSub, Nat.reduceLeDiff, Nat.reduceEqDiff, Nat.reducePow, Int.reduceToNat, Int.reducePow, Int.reduceAdd, Int.reduceSub, Int.reduceMul, Int.reduceLT, Int.reduceLE, Int.reduceEq, Int.reduceNeg])
  refine Wp.bind (rrange_spec H (n + 2) k1.w' k) fun v2 h2 ⟨k2, f2⟩ => ?_
  subst f2
  (try simp -dsimp (disch := omega) only [↓pre, sp, sp2, wp_some, Int.cast_ofNat_Int, Nat.reduceAdd, Nat.reduceMul, Nat.reduceSub, Nat.reduceLeDiff, Nat.reduceEqDiff, Nat.reducePow, Int.reduceToNat, Int.reducePow, Int.reduceAdd, Int.reduceSub, Int.reduceMul, Int.reduceLT, Int.reduceLE, Int.reduceEq, Int.reduceNeg])
  refine Wp.bind (scalar_spec H (n + 3) k2.w' k) fun v3 h3 ⟨k3, f3⟩ => ?_
  subst f3
  (try simp -dsimp (disch := omega) only [↓pre, sp, sp2, wp_some, Int.cast_ofNat_Int, Nat.reduceAdd, Nat.reduceMul, Nat.reduceSub, Nat.reduceLeDiff, Nat.reduceEqDiff, Nat.reducePow, Int.reduceToNat, Int.reducePow, Int.reduceAdd, Int.reduceSub, Int.reduceMul, Int.reduceLT, Int.reduceLE, Int.reduceEq, Int.reduceNeg])
  refine Wp.bind (rscalar_spec H (n + 4) k) fun v4 h4 ⟨k4, f4⟩ => ?_
  subst k4 f4
  (try simp -dsimp (disch := omega) only [↓pre, sp, sp2, wp_some, Int.cast_ofNat_Int, Nat.reduceAdd, Nat.reduceMul, Nat.reduceSub, Nat.reduceLeDiff, Nat.reduceEqDiff, Nat.reducePow, Int.reduceToNat, Int.reducePow, Int.reduceAdd, Int.reduceSub, Int.reduceMul, Int.reduceLT, Int.reduceLE, Int.reduceEq, Int.reduceNeg, beq_self_eq_true])
  refine wp_kTh (fun r h' => r = .bool true) (fun j hj => ?_) (fun v hh e => by subst e; (try simp -dsimp (disch := omega) only [↓pre, sp, sp2, wp_some, Int.cast_ofNat_Int, Nat.reduceAdd, Nat.reduceMul, Nat.reduceSub, Nat.reduceLeDiff, Nat.reduceEqDiff, Nat.reducePow, Int.reduceToNat, Int.reducePow, Int.reduceAdd, Int.reduceSub, Int.reduceMul, Int.reduceLT, Int.reduceLE, Int.reduceEq, Int.reduceNeg]))
  (try simp -dsimp (disch := omega) only [↓pre, sp, sp2, wp_some, Int.cast_ofNat_Int, Nat.reduceAdd, Nat.reduceMul, Nat.reduceSub, Nat.reduceLeDiff, Nat.reduceEqDiff, Nat.reducePow, Int.reduceToNat, Int.reducePow, Int.reduceAdd, Int.reduceSub, Int.reduceMul, Int.reduceLT, Int.reduceLE, Int.reduceEq, Int.reduceNeg])
  refine Wp.bind (signed_spec H (n + 3) k3.w' k) fun v5 h5 ⟨k5, f5⟩ => ?_
  subst f5
  (try simp -dsimp (disch := omega) only [↓pre, sp, sp2, wp_some, Int.cast_ofNat_Int, Nat.reduceAdd, Nat.reduceMul, Nat.reduceSub, Nat.reduceLeDiff, Nat.reduceEqDiff, Nat.reducePow, Int.reduceToNat, Int.reducePow, Int.reduceAdd, Int.reduceSub, Int.reduceMul, Int.reduceLT, Int.reduceLE, Int.reduceEq, Int.reduceNeg])
  refine Wp.bind (rsigned_spec H (n + 4) k) fun v6 h6 ⟨k6, f6⟩ => ?_
  subst k6 f6
  (try simp -dsimp (disch := omega) only [↓pre, sp, sp2, wp_some, Int.cast_ofNat_Int, Nat.reduceAdd, Nat.reduceMul, Nat.reduceSub, Nat.reduceLeDiff, Nat.reduceEqDiff, Nat.reducePow, Int.reduceToNat, Int.reducePow, Int.reduceAdd, Int.reduceSub, Int.reduceMul, Int.reduceLT, Int.reduceLE, Int.reduceEq, Int.reduceNeg, beq_self_eq_true])
  refine Wp.bind (width_spec H (n + 3) k5.w' k) fun v7 h7 ⟨k7, f7⟩ => ?_
  subst f7
  (try simp -dsimp (disch := omega) only [↓pre, sp, sp2, wp_some, Int.cast_ofNat_Int, Nat.reduceAdd, Nat.reduceMul, Nat.reduceSub, Nat.reduceLeDiff, Nat.reduceEqDiff, Nat.reducePow, Int.reduceToNat, Int.reducePow, Int.reduceAdd, Int.reduceSub, Int.reduceMul, Int.reduceLT, Int.reduceLE, Int.reduceEq, Int.reduceNeg])
  refine Wp.bind (rwidth_spec H (n + 3) k7.w' k) fun v8 h8 ⟨k8, f8⟩ => ?_
  subst f8
  (try simp -dsimp (disch := omega) only [↓pre, sp, sp2, wp_some, Int.cast_ofNat_Int, Nat.reduceAdd, Nat.reduceMul, Nat.reduceSub, Nat.reduceLeDiff, Nat.reduceEqDiff, Nat.reducePow, Int.reduceToNat, Int.reducePow, Int.reduceAdd, Int.reduceSub, Int.reduceMul, Int.reduceLT, Int.reduceLE, Int.reduceEq, Int.reduceNeg, decide_true])
  refine Wp.bind (name_spec H (n + 3) k8.w' k) fun v9 h9 ⟨k9, f9⟩ => ?_
  subst f9
  (try simp -dsimp (disch := omega) only [↓pre, sp, sp2, wp_some, Int.cast_ofNat_Int, Nat.reduceAdd, Nat.reduceMul, Nat.reduceSub, Nat.reduceLeDiff, Nat.reduceEqDiff, Nat.reducePow, Int.reduceToNat, Int.reducePow, Int.reduceAdd, Int.reduceSub, Int.reduceMul, Int.reduceLT, Int.reduceLE, Int.reduceEq, Int.reduceNeg])
  refine Wp.bind (rname_spec H (n + 3) k9.w' k) fun v10 h10 ⟨k10, f10⟩ => ?_
  subst f10
  (try simp -dsimp (disch := omega) only [↓pre, sp, sp2, wp_some, Int.cast_ofNat_Int, Nat.reduceAdd, Nat.reduceMul, Nat.reduceSub, Nat.reduceLeDiff, Nat.reduceEqDiff, Nat.reducePow, Int.reduceToNat, Int.reducePow, Int.reduceAdd, Int.reduceSub, Int.reduceMul, Int.reduceLT, Int.reduceLE, Int.reduceEq, Int.reduceNeg, decide_true])
  refine Wp.bind (kind_spec H (n + 2) k10.w' s) fun v11 h11 ⟨k11, f11⟩ => ?_
  subst f11
  (try simp -dsimp (disch := omega) only [↓pre, sp, sp2, wp_some, Int.cast_ofNat_Int, Nat.reduceAdd, Nat.reduceMul, Nat.reduceSub, Nat.reduceLeDiff, Nat.reduceEqDiff, Nat.reducePow, Int.reduceToNat, Int.reducePow, Int.reduceAdd, Int.reduceSub, Int.reduceMul, Int.reduceLT, Int.reduceLE, Int.reduceEq, Int.reduceNeg])
  refine Wp.bind (rkind_spec H (n + 3) k11.w' s) fun v12 h12 ⟨k12, f12⟩ => ?_
  subst f12
  (try simp -dsimp (disch := omega) only [↓pre, sp, sp2, wp_some, Int.cast_ofNat_Int, Nat.reduceAdd, Nat.reduceMul, Nat.reduceSub, Nat.reduceLeDiff, Nat.reduceEqDiff, Nat.reducePow, Int.reduceToNat, Int.reducePow, Int.reduceAdd, Int.reduceSub, Int.reduceMul, Int.reduceLT, Int.reduceLE, Int.reduceEq, Int.reduceNeg, decide_true])
  refine Wp.bind (name_spec H (n + 3) k12.w' k) fun v13 h13 ⟨k13, f13⟩ => ?_
  subst f13
  (try simp -dsimp (disch := omega) only [↓pre, sp, sp2, wp_some, Int.cast_ofNat_Int, Nat.reduceAdd, Nat.reduceMul, Nat.reduceSub, Nat.reduceLeDiff, Nat.reduceEqDiff, Nat.reducePow, Int.reduceToNat, Int.reducePow, Int.reduceAdd, Int.reduceSub, Int.reduceMul, Int.reduceLT, Int.reduceLE, Int.reduceEq, Int.reduceNeg])
  refine Wp.bind (kind_spec H (n + 2) k13.w' (kdM k).nm) fun v14 h14 ⟨k14, f14⟩ => ?_
  subst f14
  (try simp -dsimp (disch := omega) only [↓pre, sp, sp2, wp_some, Int.cast_ofNat_Int, Nat.reduceAdd, Nat.reduceMul, Nat.reduceSub, Nat.reduceLeDiff, Nat.reduceEqDiff, Nat.reducePow, Int.reduceToNat, Int.reducePow, Int.reduceAdd, Int.reduceSub, Int.reduceMul, Int.reduceLT, Int.reduceLE, Int.reduceEq, Int.reduceNeg])
  refine Wp.bind (rname_spec H (n + 3) k14.w' k) fun v15 h15 ⟨k15, f15⟩ => ?_
  subst f15
  (try simp -dsimp (disch := omega) only [↓pre, sp, sp2, wp_some, Int.cast_ofNat_Int, Nat.reduceAdd, Nat.reduceMul, Nat.reduceSub, Nat.reduceLeDiff, Nat.reduceEqDiff, Nat.reducePow, Int.reduceToNat, Int.reducePow, Int.reduceAdd, Int.reduceSub, Int.reduceMul, Int.reduceLT, Int.reduceLE, Int.reduceEq, Int.reduceNeg])
  refine Wp.bind (rkind_spec H (n + 3) k15.w' (kdM k).nm) fun v16 h16 ⟨k16, f16⟩ => ?_
  subst f16
  (try simp -dsimp (disch := omega) only [↓pre, sp, sp2, wp_some, Int.cast_ofNat_Int, Nat.reduceAdd, Nat.reduceMul, Nat.reduceSub, Nat.reduceLeDiff, Nat.reduceEqDiff, Nat.reducePow, Int.reduceToNat, Int.reducePow, Int.reduceAdd, Int.reduceSub, Int.reduceMul, Int.reduceLT, Int.reduceLE, Int.reduceEq, Int.reduceNeg, decide_true])
  exact hj _ _ rfl
theorem numMoves (H : Plain ov) (K : ov N_runglaw1_known = some knownYes) (n : Nat) (w : Wf h) {s : List UInt8} {k q a m : Int} (hk : I64 k) (ha : I64 a) (hm : I64 m) :
    Wp (kc ov (n + 6) N_runglaw1_NumMoves [.str s, .int .i64 k, .int .i64 q, .int .i64 a, .int .i64 m] h) fun r h' => r = .bool true := by
  rw [C_runglaw1_NumMoves H]; unfold F_runglaw1_NumMoves
  (try simp -dsimp (disch := omega) only [↓pre, sp, sp2, wp_some, Int.cast_ofNat_Int, Nat.reduceAdd, Nat.reduceMul, Nat.reduceSub, Nat.reduceLeDiff, Nat.reduceEqDiff, Nat.reducePow, Int.reduceToNat, Int.reducePow, Int.reduceAdd, Int.reduceSub, Int.reduceMul, Int.reduceLT, Int.reduceLE, Int.reduceEq, Int.reduceNeg, known_spec K])
  refine wp_kIf (fun c => ?_) (fun c => ?_)
  · (try simp -dsimp (disch := omega) only [↓pre, sp, sp2, wp_some, Int.cast_ofNat_Int, Nat.reduceAdd, Nat.reduceMul, Nat.reduceSub, Nat.reduceLeDiff, Nat.reduceEqDiff, Nat.reducePow, Int.reduceToNat, Int.reducePow, Int.reduceAdd, Int.reduceSub, Int.reduceMul, Int.reduceLT, Int.reduceLE, Int.reduceEq, Int.reduceNeg])
  (try simp -dsimp (disch := omega) only [↓pre, sp, sp2, wp_some, Int.cast_ofNat_Int, Nat.reduceAdd, Nat.reduceMul, Nat.reduceSub, Nat.reduceLeDiff, Nat.reduceEqDiff, Nat.reducePow, Int.reduceToNat, Int.reducePow, Int.reduceAdd, Int.reduceSub, Int.reduceMul, Int.reduceLT, Int.reduceLE, Int.reduceEq, Int.reduceNeg])
  refine Wp.bind (convert_spec H (n + 2) w k q a ha) fun v1 h1 ⟨k1, f1⟩ => ?_
  subst f1
  (try simp -dsimp (disch := omega) only [↓pre, sp, sp2, wp_some, Int.cast_ofNat_Int, Nat.reduceAdd, Nat.reduceMul, Nat.reduceSub, Nat.reduceLeDiff, Nat.reduceEqDiff, Nat.reducePow, Int.reduceToNat, Int.reducePow, Int.reduceAdd, Int.reduceSub, Int.reduceMul, Int.reduceLT, Int.reduceLE, Int.reduceEq, Int.reduceNeg])
  refine Wp.bind (rconvert_spec H n k1.w' k q a ha) fun v2 h2 ⟨k2, f2⟩ => ?_
  subst f2
  (try simp -dsimp (disch := omega) only [↓pre, sp, sp2, wp_some, Int.cast_ofNat_Int, Nat.reduceAdd, Nat.reduceMul, Nat.reduceSub, Nat.reduceLeDiff, Nat.reduceEqDiff, Nat.reducePow, Int.reduceToNat, Int.reducePow, Int.reduceAdd, Int.reduceSub, Int.reduceMul, Int.reduceLT, Int.reduceLE, Int.reduceEq, Int.reduceNeg, decide_true, Bool.not_true])
  refine wp_kTh (fun r h' => r = .bool false ∧ Kp h2 h') (fun j hj => ?_) ?_
  · (try simp -dsimp (disch := omega) only [↓pre, sp, sp2, wp_some, Int.cast_ofNat_Int, Nat.reduceAdd, Nat.reduceMul, Nat.reduceSub, Nat.reduceLeDiff, Nat.reduceEqDiff, Nat.reducePow, Int.reduceToNat, Int.reducePow, Int.reduceAdd, Int.reduceSub, Int.reduceMul, Int.reduceLT, Int.reduceLE, Int.reduceEq, Int.reduceNeg])
    refine Wp.bind (shift_spec H (n + 2) k2.w' s ha hm) fun v3 h3 ⟨k3, f3⟩ => ?_
    subst f3
    (try simp -dsimp (disch := omega) only [↓pre, sp, sp2, wp_some, Int.cast_ofNat_Int, Nat.reduceAdd, Nat.reduceMul, Nat.reduceSub, Nat.reduceLeDiff, Nat.reduceEqDiff, Nat.reducePow, Int.reduceToNat, Int.reducePow, Int.reduceAdd, Int.reduceSub, Int.reduceMul, Int.reduceLT, Int.reduceLE, Int.reduceEq, Int.reduceNeg])
    refine Wp.bind (rshift_spec H n k3.w' s ha hm) fun v4 h4 ⟨k4, f4⟩ => ?_
    subst f4
    (try simp -dsimp (disch := omega) only [↓pre, sp, sp2, wp_some, Int.cast_ofNat_Int, Nat.reduceAdd, Nat.reduceMul, Nat.reduceSub, Nat.reduceLeDiff, Nat.reduceEqDiff, Nat.reducePow, Int.reduceToNat, Int.reducePow, Int.reduceAdd, Int.reduceSub, Int.reduceMul, Int.reduceLT, Int.reduceLE, Int.reduceEq, Int.reduceNeg, decide_true, Bool.not_true])
    exact hj _ _ ⟨rfl, k3.trans k4⟩
  rintro v h3 ⟨rfl, k3⟩
  obtain ⟨i, hi, e1, _⟩ := place_spec (h := h3) H (n + 4) hk (m := 3) (by omega) (by omega)
  have e1' : kc ov (n + 5) N_runghelp_Place [.int .i64 k, .int .i64 3] h3 = some (.int .i64 i, h3) := e1
  (try simp -dsimp (disch := omega) only [↓pre, sp, sp2, wp_some, Int.cast_ofNat_Int, Nat.reduceAdd, Nat.reduceMul, Nat.reduceSub, Nat.reduceLeDiff, Nat.reduceEqDiff, Nat.reducePow, Int.reduceToNat, Int.reducePow, Int.reduceAdd, Int.reduceSub, Int.reduceMul, Int.reduceLT, Int.reduceLE, Int.reduceEq, Int.reduceNeg, e1'])
  generalize hkk : (8 : Int) + i = kk
  have hR : K3 kk := by unfold K3; omega
  refine Wp.bind (shift_spec H (n + 2) k3.w' [82, 79, 76] ha hm) fun v4 h4 ⟨k4, f4⟩ => ?_
  subst f4
  (try simp -dsimp (disch := omega) only [↓pre, sp, sp2, wp_some, Int.cast_ofNat_Int, Nat.reduceAdd, Nat.reduceMul, Nat.reduceSub, Nat.reduceLeDiff, Nat.reduceEqDiff, Nat.reducePow, Int.reduceToNat, Int.reducePow, Int.reduceAdd, Int.reduceSub, Int.reduceMul, Int.reduceLT, Int.reduceLE, Int.reduceEq, Int.reduceNeg])
  refine Wp.bind (shift_spec H (n + 2) k4.w' [82, 79, 82] shM_I64 hm) fun v5 h5 ⟨k5, f5⟩ => ?_
  rw [round_back hR] at f5
  subst f5
  (try simp -dsimp (disch := omega) only [↓pre, sp, sp2, wp_some, Int.cast_ofNat_Int, Nat.reduceAdd, Nat.reduceMul, Nat.reduceSub, Nat.reduceLeDiff, Nat.reduceEqDiff, Nat.reducePow, Int.reduceToNat, Int.reducePow, Int.reduceAdd, Int.reduceSub, Int.reduceMul, Int.reduceLT, Int.reduceLE, Int.reduceEq, Int.reduceNeg])
  refine Wp.bind (wrap_spec H (n + 3) k5.w' kk a ha) fun v6 h6 ⟨k6, f6⟩ => ?_
  subst f6
  (try simp -dsimp (disch := omega) only [↓pre, sp, sp2, wp_some, Int.cast_ofNat_Int, Nat.reduceAdd, Nat.reduceMul, Nat.reduceSub, Nat.reduceLeDiff, Nat.reduceEqDiff, Nat.reducePow, Int.reduceToNat, Int.reducePow, Int.reduceAdd, Int.reduceSub, Int.reduceMul, Int.reduceLT, Int.reduceLE, Int.reduceEq, Int.reduceNeg, decide_true, Bool.not_true])
  refine wp_loop (fun m y hh => ∃ i : Nat, y = [.int .i64 i] ∧ i + m = 2 ∧ Kp h6 hh) 2 (by omega) ⟨0, rfl, by omega, Ke.refl k6.w'⟩ ?_
  rintro m' _ hh j ⟨i', rfl, him, kh⟩ hj
  unfold L_runglaw1_NumMoves_0
  (try simp -dsimp (disch := omega) only [↓pre, sp, sp2, wp_some, Int.cast_ofNat_Int, Nat.reduceAdd, Nat.reduceMul, Nat.reduceSub, Nat.reduceLeDiff, Nat.reduceEqDiff, Nat.reducePow, Int.reduceToNat, Int.reducePow, Int.reduceAdd, Int.reduceSub, Int.reduceMul, Int.reduceLT, Int.reduceLE, Int.reduceEq, Int.reduceNeg])
  refine wp_ite (fun c1 => ?_) (fun c1 => ?_)
  · refine wp_buildSl (cs := [.str [83, 72, 76], .str [83, 72, 82]]) kh.w' ⟨by decide, rfl, by decide⟩ rfl rfl fun r h7 hr k7 n7 g7 => ?_
    have s7 := (Ow.new (sz := 1) (e := T_string) g7 (by omega) 2 rfl rfl).rd
    obtain ⟨t, ht, et⟩ : ∃ t : List UInt8, (t = [83, 72, 76] ∨ t = [83, 72, 82]) ∧ ([.str [83, 72, 76], .str [83, 72, 82]] : List AVal)[i']? = some (.str t) := by
      rcases (by omega : i' = 0 ∨ i' = 1) with rfl | rfl
      · exact ⟨_, .inl rfl, rfl⟩
      · exact ⟨_, .inr rfl, rfl⟩
    have at7 := s7.at (k := .i64) (i := i') (by omega) (by omega)
    have ld7 := s7.ld (j := i') (by show _ < 2; omega)
    rw [et] at ld7
    rw [Int.toNat_natCast, Nat.mul_one] at at7
    (try simp -dsimp (disch := omega) only [↓pre, sp, sp2, wp_some, Int.cast_ofNat_Int, Nat.reduceAdd, Nat.reduceMul, Nat.reduceSub, Nat.reduceLeDiff, Nat.reduceEqDiff, Nat.reducePow, Int.reduceToNat, Int.reducePow, Int.reduceAdd, Int.reduceSub, Int.reduceMul, Int.reduceLT, Int.reduceLE, Int.reduceEq, Int.reduceNeg, at7, ld7])
    refine Wp.bind (width_spec H (n + 3) k7.w' kk) fun v8 h8 ⟨k8, f8⟩ => ?_
    subst f8
    have hW : (kdM kk).w ≤ 32 := by have := (k3_w hR).2; omega
    (try simp -dsimp (disch := omega) only [↓pre, sp, sp2, wp_some, Int.cast_ofNat_Int, Nat.reduceAdd, Nat.reduceMul, Nat.reduceSub, Nat.reduceLeDiff, Nat.reduceEqDiff, Nat.reducePow, Int.reduceToNat, Int.reducePow, Int.reduceAdd, Int.reduceSub, Int.reduceMul, Int.reduceLT, Int.reduceLE, Int.reduceEq, Int.reduceNeg])
    refine Wp.bind (shift_spec H (n + 2) k8.w' t (k := kk) (a := a) (n := (kdM kk).w) ha (by unfold I64; omega)) fun v9 h9 ⟨k9, f9⟩ => ?_
    rw [shM_out ht] at f9
    subst f9
    (try simp -dsimp (disch := omega) only [↓pre, sp, sp2, wp_some, Int.cast_ofNat_Int, Nat.reduceAdd, Nat.reduceMul, Nat.reduceSub, Nat.reduceLeDiff, Nat.reduceEqDiff, Nat.reducePow, Int.reduceToNat, Int.reducePow, Int.reduceAdd, Int.reduceSub, Int.reduceMul, Int.reduceLT, Int.reduceLE, Int.reduceEq, Int.reduceNeg, decide_true, Bool.not_true])
    refine wp_kTh (fun r h' => r = .bool false ∧ Kp h9 h') (fun j' hj' => ?_) ?_
    · (try simp -dsimp (disch := omega) only [↓pre, sp, sp2, wp_some, Int.cast_ofNat_Int, Nat.reduceAdd, Nat.reduceMul, Nat.reduceSub, Nat.reduceLeDiff, Nat.reduceEqDiff, Nat.reducePow, Int.reduceToNat, Int.reducePow, Int.reduceAdd, Int.reduceSub, Int.reduceMul, Int.reduceLT, Int.reduceLE, Int.reduceEq, Int.reduceNeg])
      refine Wp.bind (shift_spec H (n + 2) k9.w' t (k := kk) (a := a) (n := 0) ha (by unfold I64; omega)) fun v10 h10 ⟨k10, f10⟩ => ?_
      rw [shM_none ht hR (by omega)] at f10
      subst f10
      (try simp -dsimp (disch := omega) only [↓pre, sp, sp2, wp_some, Int.cast_ofNat_Int, Nat.reduceAdd, Nat.reduceMul, Nat.reduceSub, Nat.reduceLeDiff, Nat.reduceEqDiff, Nat.reducePow, Int.reduceToNat, Int.reducePow, Int.reduceAdd, Int.reduceSub, Int.reduceMul, Int.reduceLT, Int.reduceLE, Int.reduceEq, Int.reduceNeg])
      refine Wp.bind (wrap_spec H (n + 3) k10.w' kk a ha) fun v11 h11 ⟨k11, f11⟩ => ?_
      subst f11
      (try simp -dsimp (disch := omega) only [↓pre, sp, sp2, wp_some, Int.cast_ofNat_Int, Nat.reduceAdd, Nat.reduceMul, Nat.reduceSub, Nat.reduceLeDiff, Nat.reduceEqDiff, Nat.reducePow, Int.reduceToNat, Int.reducePow, Int.reduceAdd, Int.reduceSub, Int.reduceMul, Int.reduceLT, Int.reduceLE, Int.reduceEq, Int.reduceNeg, decide_true, Bool.not_true])
      refine Wp.bind (shift_spec H (n + 2) k11.w' t (k := kk) (a := a) (n := -1) ha (by unfold I64; omega)) fun v12 h12 ⟨k12, f12⟩ => ?_
      rw [shM_none ht hR (by omega)] at f12
      subst f12
      (try simp -dsimp (disch := omega) only [↓pre, sp, sp2, wp_some, Int.cast_ofNat_Int, Nat.reduceAdd, Nat.reduceMul, Nat.reduceSub, Nat.reduceLeDiff, Nat.reduceEqDiff, Nat.reducePow, Int.reduceToNat, Int.reducePow, Int.reduceAdd, Int.reduceSub, Int.reduceMul, Int.reduceLT, Int.reduceLE, Int.reduceEq, Int.reduceNeg])
      refine Wp.bind (wrap_spec H (n + 3) k12.w' kk a ha) fun v13 h13 ⟨k13, f13⟩ => ?_
      subst f13
      (try simp -dsimp (disch := omega) only [↓pre, sp, sp2, wp_some, Int.cast_ofNat_Int, Nat.reduceAdd, Nat.reduceMul, Nat.reduceSub, Nat.reduceLeDiff, Nat.reduceEqDiff, Nat.reducePow, Int.reduceToNat, Int.reducePow, Int.reduceAdd, Int.reduceSub, Int.reduceMul, Int.reduceLT, Int.reduceLE, Int.reduceEq, Int.reduceNeg, decide_true, Bool.not_true])
      exact hj' _ _ ⟨rfl, ((k10.trans k11).trans k12).trans k13⟩
    · rintro v h10 ⟨rfl, k10⟩
      have ei : ((i' : Int) + 1) = ((i' + 1 : Nat) : Int) := by omega
      (try simp -dsimp (disch := omega) only [↓pre, sp, sp2, wp_some, Int.cast_ofNat_Int, Nat.reduceAdd, Nat.reduceMul, Nat.reduceSub, Nat.reduceLeDiff, Nat.reduceEqDiff, Nat.reducePow, Int.reduceToNat, Int.reducePow, Int.reduceAdd, Int.reduceSub, Int.reduceMul, Int.reduceLT, Int.reduceLE, Int.reduceEq, Int.reduceNeg, ei])
      exact hj (m' - 1) _ _ (by omega) ⟨i' + 1, rfl, by omega, (((kh.trans k7).trans k8).trans k9).trans k10⟩
  · (try simp -dsimp (disch := omega) only [↓pre, sp, sp2, wp_some, Int.cast_ofNat_Int, Nat.reduceAdd, Nat.reduceMul, Nat.reduceSub, Nat.reduceLeDiff, Nat.reduceEqDiff, Nat.reducePow, Int.reduceToNat, Int.reducePow, Int.reduceAdd, Int.reduceSub, Int.reduceMul, Int.reduceLT, Int.reduceLE, Int.reduceEq, Int.reduceNeg])
end Go.Proofs.Ytijdkjngbogegaa.AI
