/- Chapter 9: numbers as bytes. -/
import Derived.Test.YtbcpmbggidemdaaCrc32
import Derived.Test.YtbcpmbggidemdaaBlk
namespace Go.Proofs.Ytbcpmbggidemdaa.AI
open Go
set_option linter.unusedSimpArgs false
set_option linter.unusedVariables false
variable {ov : AOver} {h : AH} {v a b : AVal} {md md' : AMode}

theorem put_spec (H : Plain ov) (n : Nat) (w : Wf h) {l : List UInt8} (o : Ob h b l) (hl : l.length ≤ 2 ^ 30) {x : Nat} (hx : x < 2 ^ 64) {k : Nat} (hk : k ≤ 8) :
    Wp (kc ov (n + 1) N_retain_put [b, .int .u64 x, .int .i64 k] h) fun r h' => Ke (isBk b) h h' ∧ Ob h' r (l ++ beN x k) ∧ ∀ i, isBk r i → isBk b i ∨ h.n ≤ i := by
  rw [C_retain_put H]; unfold F_retain_put
  (try simp -dsimp (disch := omega) only [↓pre, sp, sp2, wp_some, Int.cast_ofNat_Int, Nat.reduceAdd, Nat.reduceMul, Nat.reduceSub, Nat.reduceLeDiff, Nat.reduceEqDiff, Nat.reducePow, Int.reduceToNat, Int.reducePow, Int.reduceAdd, Int.reduceSub, Int.reduceMul, Int.reduceLT, Int.reduceLE, Int.reduceEq, Int.reduceNeg])
  refine wp_loop (fun m y h2 => ∃ (i : Nat) (r : AVal) (c : List UInt8), y = [r, .int .i64 ((i : Int) - 1)] ∧ i = m ∧ i ≤ k ∧ c ++ beN x i = l ++ beN x k ∧ c.length ≤ 2 ^ 30 + 8 ∧ Ke (isBk b) h h2 ∧ Ob h2 r c ∧ ∀ i, isBk r i → isBk b i ∨ h.n ≤ i) k (by omega)
    ⟨k, b, l, rfl, rfl, Nat.le_refl _, rfl, by omega, Ke.refl w, o, fun i hi => .inl hi⟩ ?_
  rintro m _ h2 j ⟨i, r, c, rfl, him, hik, hc, hcl, k2, o2, f2⟩ hj
  unfold L_retain_put_0
  (try simp -dsimp (disch := omega) only [↓pre, sp, sp2, wp_some, Int.cast_ofNat_Int, Nat.reduceAdd, Nat.reduceMul, Nat.reduceSub, Nat.reduceLeDiff, Nat.reduceEqDiff, Nat.reducePow, Int.reduceToNat, Int.reducePow, Int.reduceAdd, Int.reduceSub, Int.reduceMul, Int.reduceLT, Int.reduceLE, Int.reduceEq, Int.reduceNeg])
  refine wp_ite (fun c1 => ?_) (fun c1 => ?_)
  · obtain ⟨i', rfl⟩ : ∃ i', i = i' + 1 := ⟨i - 1, by omega⟩
    have e0 : ((i' + 1 : Nat) : Int) - 1 = (i' : Int) := by omega
    have e1 : IntKind.wrap .u8 ((x : Int) / 2 ^ (8 * (i' : Int)).toNat) = ((UInt8.ofNat (x / 256 ^ i')).toNat : Int) := by
      have e2 : (8 * (i' : Int)).toNat = 8 * i' := by omega
      have e3 : (2 : Int) ^ (8 * i') = ((256 ^ i' : Nat) : Int) := by
        rw [Int.pow_mul]; simp
      have e4 : (UInt8.ofNat (x / 256 ^ i')).toNat = x / 256 ^ i' % 256 := by simp
      rw [e2, e3, ← Int.natCast_ediv, IntKind.wrap_u8, e4]
      omega
    (try simp -dsimp (disch := omega) only [↓pre, sp, sp2, wp_some, Int.cast_ofNat_Int, Nat.reduceAdd, Nat.reduceMul, Nat.reduceSub, Nat.reduceLeDiff, Nat.reduceEqDiff, Nat.reducePow, Int.reduceToNat, Int.reducePow, Int.reduceAdd, Int.reduceSub, Int.reduceMul, Int.reduceLT, Int.reduceLE, Int.reduceEq, Int.reduceNeg, e0, e1])
    refine wp_buildSl k2.w' (by simp) rfl rfl fun q h3 hq k3 n3 g3 => ?_
    have s3 : Ow h3 (.slice (some (q, 0, 1)) 1 1) T_uint8 1 1 (bytesOf [UInt8.ofNat (x / 256 ^ i')]) := by
      subst hq; exact Ow.new g3 (by omega) 1 rfl rfl
    have o3 := o2.kp k3
    refine wp_append k3.w' o3 (Ow.rd s3) (isCell_bytes _) (by omega) (by omega) fun r4 h4 o4 k4 f4 => ?_
    have ew : IntKind.wrap .i64 ((i' : Int) - 1) = (i' : Int) - 1 := wr_i64 (by omega) (by omega)
    rw [← bytesOf_append] at o4
    have hk24 : Ke (isBk b) h h4 := Ke.new (k2.trans k3.ke) k4 f2
    have hn : h.n ≤ h3.n := (k2.trans k3.ke).n
    (try simp -dsimp (disch := omega) only [↓pre, sp, sp2, wp_some, Int.cast_ofNat_Int, Nat.reduceAdd, Nat.reduceMul, Nat.reduceSub, Nat.reduceLeDiff, Nat.reduceEqDiff, Nat.reducePow, Int.reduceToNat, Int.reducePow, Int.reduceAdd, Int.reduceSub, Int.reduceMul, Int.reduceLT, Int.reduceLE, Int.reduceEq, Int.reduceNeg, ew])
    refine hj (m - 1) _ _ (by omega) ⟨i', r4, c ++ [UInt8.ofNat (x / 256 ^ i')], by rw [show ((i' + 1 : Nat) : Int) - 1 - 1 = (i' : Int) - 1 by omega], by omega, by omega, ?_, ?_, hk24, o4.to rfl (by simp), fun i hi => ?_⟩
    · rw [← hc, beN]; simp
    · have := congrArg List.length hc
      simp [beN_len] at this
      simp; omega
    · rcases f4 i hi with f | f
      · exact f2 i f
      · exact .inr (by omega)
  · (try simp -dsimp (disch := omega) only [↓pre, sp, sp2, wp_some, Int.cast_ofNat_Int, Nat.reduceAdd, Nat.reduceMul, Nat.reduceSub, Nat.reduceLeDiff, Nat.reduceEqDiff, Nat.reducePow, Int.reduceToNat, Int.reducePow, Int.reduceAdd, Int.reduceSub, Int.reduceMul, Int.reduceLT, Int.reduceLE, Int.reduceEq, Int.reduceNeg])
    obtain rfl : i = 0 := by omega
    simp only [beN, List.append_nil] at hc
    subst hc
    exact ⟨k2, o2, f2⟩

theorem or_byte {x y : Nat} (hx : x < 2 ^ 56) (hy : y < 256) : iOr .u64 ((x : Int) * 256) (y : Int) = ((x * 256 + y : Nat) : Int) := by
  rw [iOr_bytes hy (by simp only [IntKind.bits]; omega) (wr_u64 (by omega) (by omega))]
  omega
theorem get_spec (H : Plain ov) (n : Nat) {l : List UInt8} (s : Bs h v l md) (hl : l.length ≤ 8) : kc ov (n + 1) N_retain_get [v] h = some (.int .u64 (unbe l : Nat), h) := by
  refine Wp.eq ?_
  rw [C_retain_get H]; unfold F_retain_get
  (try simp -dsimp (disch := omega) only [↓pre, sp, sp2, wp_some, Int.cast_ofNat_Int, Nat.reduceAdd, Nat.reduceMul, Nat.reduceSub, Nat.reduceLeDiff, Nat.reduceEqDiff, Nat.reducePow, Int.reduceToNat, Int.reducePow, Int.reduceAdd, Int.reduceSub, Int.reduceMul, Int.reduceLT, Int.reduceLE, Int.reduceEq, Int.reduceNeg, s.len])
  refine wp_loop (fun m x h1 => ∃ i : Nat, x = [.int .u64 (unbe (l.take i) : Nat), .int .i64 i] ∧ i + m = l.length ∧ h = h1) l.length (by omega) ⟨0, by simp [unbe], by omega, rfl⟩ ?_
  rintro m _ _ j ⟨i, rfl, him, rfl⟩ hj
  unfold L_retain_get_0
  (try simp -dsimp (disch := omega) only [↓pre, sp, sp2, wp_some, Int.cast_ofNat_Int, Nat.reduceAdd, Nat.reduceMul, Nat.reduceSub, Nat.reduceLeDiff, Nat.reduceEqDiff, Nat.reducePow, Int.reduceToNat, Int.reducePow, Int.reduceAdd, Int.reduceSub, Int.reduceMul, Int.reduceLT, Int.reduceLE, Int.reduceEq, Int.reduceNeg])
  refine wp_ite (fun c => ?_) (fun c => ?_)
  · have hi : i < l.length := by omega
    have hg := gb_lt l i
    have hu : unbe (l.take i) < 2 ^ 56 := by
      have h1 := unbe_lt (l.take i)
      have h2 : 256 ^ (l.take i).length ≤ 256 ^ 7 := Nat.pow_le_pow_right (by omega) (by rw [List.length_take]; omega)
      omega
    have ei : IntKind.wrap .i64 ((i : Int) + 1) = ((i + 1 : Nat) : Int) := by rw [wr_i64 (by omega) (by omega)]; omega
    have e8 : IntKind.wrap .u64 ((unbe (l.take i) : Int) * 256) = (unbe (l.take i) : Int) * 256 := wr_u64 (by omega) (by omega)
    have eo := or_byte hu hg
    rw [← unbe_take hi] at eo
    (try simp -dsimp (disch := omega) only [↓pre, sp, sp2, wp_some, Int.cast_ofNat_Int, Nat.reduceAdd, Nat.reduceMul, Nat.reduceSub, Nat.reduceLeDiff, Nat.reduceEqDiff, Nat.reducePow, Int.reduceToNat, Int.reducePow, Int.reduceAdd, Int.reduceSub, Int.reduceMul, Int.reduceLT, Int.reduceLE, Int.reduceEq, Int.reduceNeg, s.at, s.ldb, e8, eo, ei])
    exact hj (m - 1) _ _ (by omega) ⟨i + 1, rfl, by omega, rfl⟩
  · have : l.take i = l := List.take_of_length_le (by omega)
    rw [this]
    (try simp -dsimp (disch := omega) only [↓pre, sp, sp2, wp_some, Int.cast_ofNat_Int, Nat.reduceAdd, Nat.reduceMul, Nat.reduceSub, Nat.reduceLeDiff, Nat.reduceEqDiff, Nat.reducePow, Int.reduceToNat, Int.reducePow, Int.reduceAdd, Int.reduceSub, Int.reduceMul, Int.reduceLT, Int.reduceLE, Int.reduceEq, Int.reduceNeg])

theorem equal_spec (H : Plain ov) (n : Nat) {x y : List UInt8} (ha : Bs h a x md) (hb : Bs h b y md') (hl : x.length ≤ 2 ^ 40) : kc ov (n + 1) N_slices_Equal___byte_byte_ [a, b] h = some (.bool (decide (x = y)), h) := by
  refine Wp.eq ?_
  rw [C_slices_Equal___byte_byte_ H]; unfold F_slices_Equal___byte_byte_
  (try simp -dsimp (disch := omega) only [↓pre, sp, sp2, wp_some, Int.cast_ofNat_Int, Nat.reduceAdd, Nat.reduceMul, Nat.reduceSub, Nat.reduceLeDiff, Nat.reduceEqDiff, Nat.reducePow, Int.reduceToNat, Int.reducePow, Int.reduceAdd, Int.reduceSub, Int.reduceMul, Int.reduceLT, Int.reduceLE, Int.reduceEq, Int.reduceNeg, ha.len, hb.len])
  refine wp_ite (fun c => ?_) (fun c => ?_)
  · (try simp -dsimp (disch := omega) only [↓pre, sp, sp2, wp_some, Int.cast_ofNat_Int, Nat.reduceAdd, Nat.reduceMul, Nat.reduceSub, Nat.reduceLeDiff, Nat.reduceEqDiff, Nat.reducePow, Int.reduceToNat, Int.reducePow, Int.reduceAdd, Int.reduceSub, Int.reduceMul, Int.reduceLT, Int.reduceLE, Int.reduceEq, Int.reduceNeg])
    have : ¬ x = y := fun e => by subst e; exact c rfl
    simp [this]
  · have hxy : x.length = y.length := by omega
    refine wp_loop (fun m z h1 => ∃ i : Nat, z = [.int .i64 i] ∧ i + m = x.length ∧ h = h1 ∧ x.take i = y.take i) x.length (by omega) ⟨0, rfl, by omega, rfl, by simp⟩ ?_
    rintro m _ _ j ⟨i, rfl, him, rfl, ht⟩ hj
    unfold L_slices_Equal___byte_byte__0
    (try simp -dsimp (disch := omega) only [↓pre, sp, sp2, wp_some, Int.cast_ofNat_Int, Nat.reduceAdd, Nat.reduceMul, Nat.reduceSub, Nat.reduceLeDiff, Nat.reduceEqDiff, Nat.reducePow, Int.reduceToNat, Int.reducePow, Int.reduceAdd, Int.reduceSub, Int.reduceMul, Int.reduceLT, Int.reduceLE, Int.reduceEq, Int.reduceNeg])
    refine wp_ite (fun c => ?_) (fun c => ?_)
    · have hi : i < x.length := by omega
      have hi' : i < y.length := by omega
      (try simp -dsimp (disch := omega) only [↓pre, sp, sp2, wp_some, Int.cast_ofNat_Int, Nat.reduceAdd, Nat.reduceMul, Nat.reduceSub, Nat.reduceLeDiff, Nat.reduceEqDiff, Nat.reducePow, Int.reduceToNat, Int.reducePow, Int.reduceAdd, Int.reduceSub, Int.reduceMul, Int.reduceLT, Int.reduceLE, Int.reduceEq, Int.reduceNeg, ha.at, ha.ldb, hb.at, hb.ldb])
      refine wp_ite (fun c2 => ?_) (fun c2 => ?_)
      · (try simp -dsimp (disch := omega) only [↓pre, sp, sp2, wp_some, Int.cast_ofNat_Int, Nat.reduceAdd, Nat.reduceMul, Nat.reduceSub, Nat.reduceLeDiff, Nat.reduceEqDiff, Nat.reducePow, Int.reduceToNat, Int.reducePow, Int.reduceAdd, Int.reduceSub, Int.reduceMul, Int.reduceLT, Int.reduceLE, Int.reduceEq, Int.reduceNeg])
        have : ¬ x = y := fun e => by subst e; exact c2 rfl
        simp [this]
      · have ei : IntKind.wrap .i64 ((i : Int) + 1) = ((i + 1 : Nat) : Int) := by rw [wr_i64 (by omega) (by omega)]; omega
        (try simp -dsimp (disch := omega) only [↓pre, sp, sp2, wp_some, Int.cast_ofNat_Int, Nat.reduceAdd, Nat.reduceMul, Nat.reduceSub, Nat.reduceLeDiff, Nat.reduceEqDiff, Nat.reducePow, Int.reduceToNat, Int.reducePow, Int.reduceAdd, Int.reduceSub, Int.reduceMul, Int.reduceLT, Int.reduceLE, Int.reduceEq, Int.reduceNeg, ei])
        refine hj (m - 1) _ _ (by omega) ⟨i + 1, rfl, by omega, rfl, ?_⟩
        rw [List.take_succ_eq_append_getElem hi, List.take_succ_eq_append_getElem hi', ht]
        have : gb x i = gb y i := by omega
        simp only [gb, List.getD, List.getElem?_eq_getElem hi, List.getElem?_eq_getElem hi', Option.getD_some] at this
        rw [UInt8.toNat_inj.1 this]
    · rw [List.take_of_length_le (by omega), List.take_of_length_le (by omega)] at ht
      (try simp -dsimp (disch := omega) only [↓pre, sp, sp2, wp_some, Int.cast_ofNat_Int, Nat.reduceAdd, Nat.reduceMul, Nat.reduceSub, Nat.reduceLeDiff, Nat.reduceEqDiff, Nat.reducePow, Int.reduceToNat, Int.reducePow, Int.reduceAdd, Int.reduceSub, Int.reduceMul, Int.reduceLT, Int.reduceLE, Int.reduceEq, Int.reduceNeg])
      simp [ht]

theorem numbered_spec (H : Plain ov) (n : Nat) (w : Wf h) {x : Nat} (hx : x < 2 ^ 64) :
    Wp (kc ov (n + 2) N_retain_numbered [.int .u64 x] h) fun r h' => Kp h h' ∧ Ob h' r (numB x) ∧ Fresh h r := by
  rw [C_retain_numbered H]; unfold F_retain_numbered
  (try simp -dsimp (disch := omega) only [↓pre, sp, sp2, wp_some, Int.cast_ofNat_Int, Nat.reduceAdd, Nat.reduceMul, Nat.reduceSub, Nat.reduceLeDiff, Nat.reduceEqDiff, Nat.reducePow, Int.reduceToNat, Int.reducePow, Int.reduceAdd, Int.reduceSub, Int.reduceMul, Int.reduceLT, Int.reduceLE, Int.reduceEq, Int.reduceNeg])
  refine Wp.bind (put_spec H n w (l := []) (Ow.nil h T_uint8 1 (by omega)) (by simp) hx (k := 8) (by omega)) fun v1 h1 ⟨k1, o1, f1⟩ => ?_
  simp only [List.nil_append] at o1
  have hs := s32_lt (beN x 8)
  (try simp -dsimp (disch := omega) only [↓pre, sp, sp2, wp_some, Int.cast_ofNat_Int, Nat.reduceAdd, Nat.reduceMul, Nat.reduceSub, Nat.reduceLeDiff, Nat.reduceEqDiff, Nat.reducePow, Int.reduceToNat, Int.reducePow, Int.reduceAdd, Int.reduceSub, Int.reduceMul, Int.reduceLT, Int.reduceLE, Int.reduceEq, Int.reduceNeg, s32_spec H n o1.bs (by rw [beN_len]; omega)])
  have ew : IntKind.wrap .u64 (s32 (beN x 8) : Int) = (s32 (beN x 8) : Int) := wr_u64 (by omega) (by omega)
  (try simp -dsimp (disch := omega) only [↓pre, sp, sp2, wp_some, Int.cast_ofNat_Int, Nat.reduceAdd, Nat.reduceMul, Nat.reduceSub, Nat.reduceLeDiff, Nat.reduceEqDiff, Nat.reducePow, Int.reduceToNat, Int.reducePow, Int.reduceAdd, Int.reduceSub, Int.reduceMul, Int.reduceLT, Int.reduceLE, Int.reduceEq, Int.reduceNeg, ew])
  refine Wp.bind (put_spec H n k1.w' o1 (by rw [beN_len]; omega) (x := s32 (beN x 8)) (by omega) (k := 4) (by omega)) fun v2 h2 ⟨k2, o2, f2⟩ => ?_
  (try simp -dsimp (disch := omega) only [↓pre, sp, sp2, wp_some, Int.cast_ofNat_Int, Nat.reduceAdd, Nat.reduceMul, Nat.reduceSub, Nat.reduceLeDiff, Nat.reduceEqDiff, Nat.reducePow, Int.reduceToNat, Int.reducePow, Int.reduceAdd, Int.reduceSub, Int.reduceMul, Int.reduceLT, Int.reduceLE, Int.reduceEq, Int.reduceNeg])
  have hf1 : ∀ i, isBk v1 i → h.n ≤ i := fun i hi => (f1 i hi).resolve_left id
  refine ⟨Ke.new_p (k1.mono fun i hi => hi) k2 hf1, o2, fun i hi => ?_⟩
  rcases f2 i hi with f | f
  · exact hf1 i f
  · have := k1.n; omega

theorem numberOf_spec (H : Plain ov) (n : Nat) (w : Wf h) {l : List UInt8} (s : Bs h v l md) (hl : 12 ≤ l.length) (hl2 : l.length ≤ 2 ^ 30) :
    Wp (kc ov (n + 3) N_retain_numberOf [v] h) fun r h' => r = .int .u64 (numOf l : Nat) ∧ Kp h h' := by
  rw [C_retain_numberOf H]; unfold F_retain_numberOf
  obtain ⟨v8, e8, s8, -⟩ := s.cutR (q := .i64) (b := 8) (by omega) (by omega)
  obtain ⟨v12, e12, s12, -⟩ := s.cutR (q := .i64) (b := 12) (by omega) (by omega)
  have t8 : Bs h v8 (l.take 8) md := s8.to (by simp [bytesOf_take]) (by rw [List.length_take]; omega)
  have t12 : Bs h v12 (l.take 12) md := s12.to (by simp [bytesOf_take]) (by rw [List.length_take]; omega)
  have hu : unbe (l.take 8) < 2 ^ 64 := by
    have h1 := unbe_lt (l.take 8)
    rw [List.length_take, Nat.min_eq_left (by omega)] at h1
    omega
  (try simp -dsimp (disch := omega) only [↓pre, sp, sp2, wp_some, Int.cast_ofNat_Int, Nat.reduceAdd, Nat.reduceMul, Nat.reduceSub, Nat.reduceLeDiff, Nat.reduceEqDiff, Nat.reducePow, Int.reduceToNat, Int.reducePow, Int.reduceAdd, Int.reduceSub, Int.reduceMul, Int.reduceLT, Int.reduceLE, Int.reduceEq, Int.reduceNeg, e8, get_spec H (n + 1) t8 (by rw [List.length_take]; omega), e12])
  refine Wp.bind (numbered_spec H n w hu) fun v1 h1 ⟨k1, o1, f1⟩ => ?_
  have t := t12.kp k1
  (try simp -dsimp (disch := omega) only [↓pre, sp, sp2, wp_some, Int.cast_ofNat_Int, Nat.reduceAdd, Nat.reduceMul, Nat.reduceSub, Nat.reduceLeDiff, Nat.reduceEqDiff, Nat.reducePow, Int.reduceToNat, Int.reducePow, Int.reduceAdd, Int.reduceSub, Int.reduceMul, Int.reduceLT, Int.reduceLE, Int.reduceEq, Int.reduceNeg, equal_spec H (n + 1) o1.bs t (by rw [numB_len]; omega)])
  by_cases c : numB (unbe (l.take 8)) = l.take 12
  · (try simp -dsimp (disch := omega) only [↓pre, sp, sp2, wp_some, Int.cast_ofNat_Int, Nat.reduceAdd, Nat.reduceMul, Nat.reduceSub, Nat.reduceLeDiff, Nat.reduceEqDiff, Nat.reducePow, Int.reduceToNat, Int.reducePow, Int.reduceAdd, Int.reduceSub, Int.reduceMul, Int.reduceLT, Int.reduceLE, Int.reduceEq, Int.reduceNeg, c, decide_true, Bool.not_true, Bool.false_eq_true, if_false])
    refine ⟨by rw [numOf, if_pos c], k1⟩
  · (try simp -dsimp (disch := omega) only [↓pre, sp, sp2, wp_some, Int.cast_ofNat_Int, Nat.reduceAdd, Nat.reduceMul, Nat.reduceSub, Nat.reduceLeDiff, Nat.reduceEqDiff, Nat.reducePow, Int.reduceToNat, Int.reducePow, Int.reduceAdd, Int.reduceSub, Int.reduceMul, Int.reduceLT, Int.reduceLE, Int.reduceEq, Int.reduceNeg, c, decide_false, Bool.not_false, if_true])
    refine ⟨by rw [numOf, if_neg c]; rfl, k1⟩

theorem was_spec (H : Plain ov) (n : Nat) (w : Wf h) {l : List UInt8} (s : Bs h v l md) (hl : 12 ≤ l.length) (hl2 : l.length ≤ 2 ^ 30) :
    Wp (kc ov (n + 4) N_retain_was [v] h) fun r h' => r = .bool (wasB l) ∧ Kp h h' := by
  rw [C_retain_was H]; unfold F_retain_was
  obtain ⟨v12, e12, s12, -⟩ := s.cutR (q := .i64) (b := 12) (by omega) (by omega)
  have hl12 : (l.take 12).length = 12 := by rw [List.length_take]; omega
  have t12 : Bs h v12 (l.take 12) md := s12.to (by simp [bytesOf_take]) (by omega)
  (try simp -dsimp (disch := omega) only [↓pre, sp, sp2, wp_some, Int.cast_ofNat_Int, Nat.reduceAdd, Nat.reduceMul, Nat.reduceSub, Nat.reduceLeDiff, Nat.reduceEqDiff, Nat.reducePow, Int.reduceToNat, Int.reducePow, Int.reduceAdd, Int.reduceSub, Int.reduceMul, Int.reduceLT, Int.reduceLE, Int.reduceEq, Int.reduceNeg, e12, t12.len])
  refine wp_loop (fun m x h1 => ∃ i : Nat, x = [.int .i64 (some0 ((l.take 12).take i) : Nat), .int .i64 i] ∧ i + m = 12 ∧ h = h1) 12 (by omega) ⟨0, rfl, by omega, rfl⟩ ?_
  rintro m _ _ j ⟨i, rfl, him, rfl⟩ hj
  unfold L_retain_was_0
  (try simp -dsimp (disch := omega) only [↓pre, sp, sp2, wp_some, Int.cast_ofNat_Int, Nat.reduceAdd, Nat.reduceMul, Nat.reduceSub, Nat.reduceLeDiff, Nat.reduceEqDiff, Nat.reducePow, Int.reduceToNat, Int.reducePow, Int.reduceAdd, Int.reduceSub, Int.reduceMul, Int.reduceLT, Int.reduceLE, Int.reduceEq, Int.reduceNeg])
  refine wp_ite (fun c => ?_) (fun c => ?_)
  · have hi : i < (l.take 12).length := by omega
    have ei : IntKind.wrap .i64 ((i : Int) + 1) = ((i + 1 : Nat) : Int) := by rw [wr_i64 (by omega) (by omega)]; omega
    have hs := some0_take hi
    have hsl := some0_le ((l.take 12).take i)
    rw [List.length_take] at hsl
    (try simp -dsimp (disch := omega) only [↓pre, sp, sp2, wp_some, Int.cast_ofNat_Int, Nat.reduceAdd, Nat.reduceMul, Nat.reduceSub, Nat.reduceLeDiff, Nat.reduceEqDiff, Nat.reducePow, Int.reduceToNat, Int.reducePow, Int.reduceAdd, Int.reduceSub, Int.reduceMul, Int.reduceLT, Int.reduceLE, Int.reduceEq, Int.reduceNeg, t12.at, t12.ldb])
    refine wp_kJ (fun y h1 => h = h1 ∧ y = [.int .i64 (some0 ((l.take 12).take (i + 1)) : Nat)]) (fun j3 hj3 => ?_) ?_
    · (try simp -dsimp (disch := omega) only [↓pre, sp, sp2, wp_some, Int.cast_ofNat_Int, Nat.reduceAdd, Nat.reduceMul, Nat.reduceSub, Nat.reduceLeDiff, Nat.reduceEqDiff, Nat.reducePow, Int.reduceToNat, Int.reducePow, Int.reduceAdd, Int.reduceSub, Int.reduceMul, Int.reduceLT, Int.reduceLE, Int.reduceEq, Int.reduceNeg])
      refine wp_ite (fun c2 => ?_) (fun c2 => ?_)
      · rw [if_pos (by omega)] at hs
        have es : IntKind.wrap .i64 ((some0 ((l.take 12).take i) : Int) + 1) = (some0 ((l.take 12).take (i + 1)) : Int) := by rw [wr_i64 (by omega) (by omega)]; omega
        (try simp -dsimp (disch := omega) only [↓pre, sp, sp2, wp_some, Int.cast_ofNat_Int, Nat.reduceAdd, Nat.reduceMul, Nat.reduceSub, Nat.reduceLeDiff, Nat.reduceEqDiff, Nat.reducePow, Int.reduceToNat, Int.reducePow, Int.reduceAdd, Int.reduceSub, Int.reduceMul, Int.reduceLT, Int.reduceLE, Int.reduceEq, Int.reduceNeg])
        exact hj3 _ _ ⟨rfl, by rw [hs]; rfl⟩
      · rw [if_neg (by omega)] at hs
        rw [hs] at hj3
        exact hj3 _ _ ⟨rfl, rfl⟩
    · rintro _ _ ⟨rfl, rfl⟩
      (try simp -dsimp (disch := omega) only [↓pre, sp, sp2, wp_some, Int.cast_ofNat_Int, Nat.reduceAdd, Nat.reduceMul, Nat.reduceSub, Nat.reduceLeDiff, Nat.reduceEqDiff, Nat.reducePow, Int.reduceToNat, Int.reducePow, Int.reduceAdd, Int.reduceSub, Int.reduceMul, Int.reduceLT, Int.reduceLE, Int.reduceEq, Int.reduceNeg, ei])
      exact hj (m - 1) _ _ (by omega) ⟨i + 1, rfl, by omega, rfl⟩
  · have e12' : (l.take 12).take i = l.take 12 := List.take_of_length_le (by omega)
    rw [e12']
    (try simp -dsimp (disch := omega) only [↓pre, sp, sp2, wp_some, Int.cast_ofNat_Int, Nat.reduceAdd, Nat.reduceMul, Nat.reduceSub, Nat.reduceLeDiff, Nat.reduceEqDiff, Nat.reducePow, Int.reduceToNat, Int.reducePow, Int.reduceAdd, Int.reduceSub, Int.reduceMul, Int.reduceLT, Int.reduceLE, Int.reduceEq, Int.reduceNeg])
    refine Wp.bind (numberOf_spec H n w s hl hl2) fun v1 h1 ⟨e1, k1⟩ => ?_
    subst e1
    have s1 := s.kp k1
    (try simp -dsimp (disch := omega) only [↓pre, sp, sp2, wp_some, Int.cast_ofNat_Int, Nat.reduceAdd, Nat.reduceMul, Nat.reduceSub, Nat.reduceLeDiff, Nat.reduceEqDiff, Nat.reducePow, Int.reduceToNat, Int.reducePow, Int.reduceAdd, Int.reduceSub, Int.reduceMul, Int.reduceLT, Int.reduceLE, Int.reduceEq, Int.reduceNeg])
    refine wp_kT (.bool (wasB l)) (fun j hj => ?_) ?_
    · have ef : wasB l = (decide (0 < numOf l) || (decide (1 < some0 (l.take 12)) && decide (l.getD (l.length - 1) 0 ≠ 0))) := rfl
      have eg : (numOf l : Int) > 0 ↔ 0 < numOf l := by omega
      have es : (some0 (l.take 12) : Int) > 1 ↔ 1 < some0 (l.take 12) := by omega
      by_cases c1 : 0 < numOf l
      · (try simp -dsimp (disch := omega) only [↓pre, sp, sp2, wp_some, Int.cast_ofNat_Int, Nat.reduceAdd, Nat.reduceMul, Nat.reduceSub, Nat.reduceLeDiff, Nat.reduceEqDiff, Nat.reducePow, Int.reduceToNat, Int.reducePow, Int.reduceAdd, Int.reduceSub, Int.reduceMul, Int.reduceLT, Int.reduceLE, Int.reduceEq, Int.reduceNeg, eg, c1])
        simpa [ef, c1] using hj
      · by_cases c2 : 1 < some0 (l.take 12)
        · have el : IntKind.wrap .i64 ((l.length : Int) - 1) = ((l.length - 1 : Nat) : Int) := by rw [wr_i64 (by omega) (by omega)]; omega
          have eb : (gb l (l.length - 1) = 0) = (l[l.length - 1]?.getD 0 = 0) := by
            rw [gb, List.getD_eq_getElem?_getD, ← UInt8.toNat_inj]
            simp
          (try simp -dsimp (disch := omega) only [↓pre, sp, sp2, wp_some, Int.cast_ofNat_Int, Nat.reduceAdd, Nat.reduceMul, Nat.reduceSub, Nat.reduceLeDiff, Nat.reduceEqDiff, Nat.reducePow, Int.reduceToNat, Int.reducePow, Int.reduceAdd, Int.reduceSub, Int.reduceMul, Int.reduceLT, Int.reduceLE, Int.reduceEq, Int.reduceNeg, eg, c1, es, c2, s1.len, el, s1.at, s1.ldb])
          simpa [ef, c1, c2, eb] using hj
        · (try simp -dsimp (disch := omega) only [↓pre, sp, sp2, wp_some, Int.cast_ofNat_Int, Nat.reduceAdd, Nat.reduceMul, Nat.reduceSub, Nat.reduceLeDiff, Nat.reduceEqDiff, Nat.reducePow, Int.reduceToNat, Int.reducePow, Int.reduceAdd, Int.reduceSub, Int.reduceMul, Int.reduceLT, Int.reduceLE, Int.reduceEq, Int.reduceNeg, eg, c1, es, c2])
          simpa [ef, c1, c2] using hj
    · (try simp -dsimp (disch := omega) only [↓pre, sp, sp2, wp_some, Int.cast_ofNat_Int, Nat.reduceAdd, Nat.reduceMul, Nat.reduceSub, Nat.reduceLeDiff, Nat.reduceEqDiff, Nat.reducePow, Int.reduceToNat, Int.reducePow, Int.reduceAdd, Int.reduceSub, Int.reduceMul, Int.reduceLT, Int.reduceLE, Int.reduceEq, Int.reduceNeg])
      exact k1
end Go.Proofs.Ytbcpmbggidemdaa.AI
