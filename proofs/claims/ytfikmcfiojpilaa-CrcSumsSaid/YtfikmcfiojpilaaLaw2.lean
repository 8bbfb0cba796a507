/- The statements of chapter 2: what their texts come to. -/
import Derived.Test.YtfikmcfiojpilaaCrcT
namespace Go.Proofs.Ytfikmcfiojpilaa.AI
open Go
set_option linter.unusedSimpArgs false
set_option linter.unusedVariables false
variable {ov : AOver} {h : AH} {v a b : AVal} {md md' : AMode}

theorem known_spec (K : ov N_runglaw2_known = some knownYes) (n : Nat) : kc ov (n + 1) N_runglaw2_known [] h = some (.bool true, h) := ov_call K []

theorem crcZero (X : Xs ov) (K : ov N_runglaw2_known = some knownYes) (n : Nat) (w : Wf h) {l : List UInt8} (s : Bs h v l md) :
    Wp (kc ov (n + 3) N_runglaw2_CrcZero [v] h) fun r h' => r = .bool true := by
  rw [C_runglaw2_CrcZero X.p]; unfold F_runglaw2_CrcZero
  (try simp -dsimp (disch := omega) only [↓pre, sp, sp2, wp_some, Int.cast_ofNat_Int, Nat.reduceAdd, Nat.reduceMul, Nat.reduceSub, Nat.reduceLeDiff, Nat.reduceEqDiff, Nat.reducePow, Int.reduceToNat, Int.reducePow, Int.reduceAdd, Int.reduceSub, Int.reduceMul, Int.reduceLT, Int.reduceLE, Int.reduceEq, Int.reduceNeg, known_spec K, s.len])
  refine wp_ite (fun c => ?_) (fun c => ?_)
  · (try simp -dsimp (disch := omega) only [↓pre, sp, sp2, wp_some, Int.cast_ofNat_Int, Nat.reduceAdd, Nat.reduceMul, Nat.reduceSub, Nat.reduceLeDiff, Nat.reduceEqDiff, Nat.reducePow, Int.reduceToNat, Int.reducePow, Int.reduceAdd, Int.reduceSub, Int.reduceMul, Int.reduceLT, Int.reduceLE, Int.reduceEq, Int.reduceNeg])
  have hs := sum16_spec X.p n s (by omega)
  (try simp -dsimp (disch := omega) only [↓pre, sp, sp2, wp_some, Int.cast_ofNat_Int, Nat.reduceAdd, Nat.reduceMul, Nat.reduceSub, Nat.reduceLeDiff, Nat.reduceEqDiff, Nat.reducePow, Int.reduceToNat, Int.reducePow, Int.reduceAdd, Int.reduceSub, Int.reduceMul, Int.reduceLT, Int.reduceLE, Int.reduceEq, Int.reduceNeg, hs])
  refine Wp.bind (copy_spec X.p (n + 1) w s (by omega)) fun v2 h2 ⟨k2, o2, f2⟩ => ?_
  have e1 := lo8_eq (crc16 l)
  have e2 := hi8_eq (crc16 l)
  (try simp -dsimp (disch := omega) only [↓pre, sp, sp2, wp_some, Int.cast_ofNat_Int, Nat.reduceAdd, Nat.reduceMul, Nat.reduceSub, Nat.reduceLeDiff, Nat.reduceEqDiff, Nat.reducePow, Int.reduceToNat, Int.reducePow, Int.reduceAdd, Int.reduceSub, Int.reduceMul, Int.reduceLT, Int.reduceLE, Int.reduceEq, Int.reduceNeg, e1, e2])
  refine wp_buildSl (cs := bytesOf (sumB l)) k2.w' ⟨by decide, rfl, by decide⟩ rfl (isCell_bytes _) fun q h3 hq k3 n3 g3 => ?_
  have sq : Bs h3 (.slice (some (q, 0, 1)) 2 2) (sumB l) .rw := Ow.rd (e := T_uint8) (Ow.new g3 (by omega) 2 rfl (isCell_bytes _))
  refine wp_append k3.w' (o2.kp k3) sq (isCell_bytes _) (by omega) (by rw [sumB_len]; omega) fun v4 h4 o4 k4 f4 => ?_
  rw [← bytesOf_append] at o4
  have o4' : Ob h4 v4 (l ++ sumB l) := o4.to rfl (by simp)
  have hz := sum16_spec X.p n o4'.rd (by simp [sumB_len]; omega)
  have ez : crc16 (l ++ sumB l) = 0#16 := by
    unfold crc16
    rw [crcL_append]
    exact crc_own _
  rw [ez] at hz
  (try simp -dsimp (disch := omega) only [↓pre, sp, sp2, wp_some, Int.cast_ofNat_Int, Nat.reduceAdd, Nat.reduceMul, Nat.reduceSub, Nat.reduceLeDiff, Nat.reduceEqDiff, Nat.reducePow, Int.reduceToNat, Int.reducePow, Int.reduceAdd, Int.reduceSub, Int.reduceMul, Int.reduceLT, Int.reduceLE, Int.reduceEq, Int.reduceNeg, hz])
  first | rfl | exact congrArg AVal.bool (decide_eq_true rfl)

theorem crcTells (X : Xs ov) (K : ov N_runglaw2_known = some knownYes) (n : Nat) (w : Wf h) {l : List UInt8} {k : Int} {e : BitVec 16} (hk : -9223372036854775808 ≤ k ∧ k < 9223372036854775808) (s : Bs h v l .ro) :
    Wp (kc ov (n + 3) N_runglaw2_CrcTells [v, .int .i64 k, .int .u16 e.toNat] h) fun r h' => r = .bool true := by
  rw [C_runglaw2_CrcTells X.p]; unfold F_runglaw2_CrcTells
  (try simp -dsimp (disch := omega) only [↓pre, sp, sp2, wp_some, Int.cast_ofNat_Int, Nat.reduceAdd, Nat.reduceMul, Nat.reduceSub, Nat.reduceLeDiff, Nat.reduceEqDiff, Nat.reducePow, Int.reduceToNat, Int.reducePow, Int.reduceAdd, Int.reduceSub, Int.reduceMul, Int.reduceLT, Int.reduceLE, Int.reduceEq, Int.reduceNeg, known_spec K, s.len])
  refine wp_kT (.bool (decide (l.length > 2000 ∨ l.length < 2 ∨ e = 0#16))) (fun j hj => ?_) ?_
  · by_cases c : (l.length : Int) > 2000
    · (try simp -dsimp (disch := omega) only [↓pre, sp, sp2, wp_some, Int.cast_ofNat_Int, Nat.reduceAdd, Nat.reduceMul, Nat.reduceSub, Nat.reduceLeDiff, Nat.reduceEqDiff, Nat.reducePow, Int.reduceToNat, Int.reducePow, Int.reduceAdd, Int.reduceSub, Int.reduceMul, Int.reduceLT, Int.reduceLE, Int.reduceEq, Int.reduceNeg, c, decide_true]); simpa [show l.length > 2000 by omega] using hj
    · by_cases c2 : (l.length : Int) < 2
      · (try simp -dsimp (disch := omega) only [↓pre, sp, sp2, wp_some, Int.cast_ofNat_Int, Nat.reduceAdd, Nat.reduceMul, Nat.reduceSub, Nat.reduceLeDiff, Nat.reduceEqDiff, Nat.reducePow, Int.reduceToNat, Int.reducePow, Int.reduceAdd, Int.reduceSub, Int.reduceMul, Int.reduceLT, Int.reduceLE, Int.reduceEq, Int.reduceNeg, c, c2, decide_true, decide_false, s.len]); simpa [show l.length < 2 by omega] using hj
      · (try simp -dsimp (disch := omega) only [↓pre, sp, sp2, wp_some, Int.cast_ofNat_Int, Nat.reduceAdd, Nat.reduceMul, Nat.reduceSub, Nat.reduceLeDiff, Nat.reduceEqDiff, Nat.reducePow, Int.reduceToNat, Int.reducePow, Int.reduceAdd, Int.reduceSub, Int.reduceMul, Int.reduceLT, Int.reduceLE, Int.reduceEq, Int.reduceNeg, c, c2, decide_false, s.len])
        have e1 : ((e.toNat : Int) = 0) ↔ e = 0#16 := ⟨fun hh => BitVec.eq_of_toNat_eq (by simpa using hh), fun hh => by rw [hh]; rfl⟩
        simpa only [e1, show ¬ l.length > 2000 by omega, show ¬ l.length < 2 by omega, false_or] using hj
  (try simp -dsimp (disch := omega) only [↓pre, sp, sp2, wp_some, Int.cast_ofNat_Int, Nat.reduceAdd, Nat.reduceMul, Nat.reduceSub, Nat.reduceLeDiff, Nat.reduceEqDiff, Nat.reducePow, Int.reduceToNat, Int.reducePow, Int.reduceAdd, Int.reduceSub, Int.reduceMul, Int.reduceLT, Int.reduceLE, Int.reduceEq, Int.reduceNeg])
  refine wp_ite (fun c => ?_) (fun c => ?_)
  · (try simp -dsimp (disch := omega) only [↓pre, sp, sp2, wp_some, Int.cast_ofNat_Int, Nat.reduceAdd, Nat.reduceMul, Nat.reduceSub, Nat.reduceLeDiff, Nat.reduceEqDiff, Nat.reducePow, Int.reduceToNat, Int.reducePow, Int.reduceAdd, Int.reduceSub, Int.reduceMul, Int.reduceLT, Int.reduceLE, Int.reduceEq, Int.reduceNeg])
  have he : e ≠ 0#16 := fun hh => c (.inr (.inr hh))
  (try simp -dsimp (disch := omega) only [↓pre, sp, sp2, wp_some, Int.cast_ofNat_Int, Nat.reduceAdd, Nat.reduceMul, Nat.reduceSub, Nat.reduceLeDiff, Nat.reduceEqDiff, Nat.reducePow, Int.reduceToNat, Int.reducePow, Int.reduceAdd, Int.reduceSub, Int.reduceMul, Int.reduceLT, Int.reduceLE, Int.reduceEq, Int.reduceNeg])
  refine Wp.bind (copy_spec X.p (n + 1) w s (by omega)) fun v2 h2 ⟨k2, o2, f2⟩ => ?_
  have s2 := s.kp k2
  have em : (8 : Int) * ((l.length : Int) - 2) + 1 = ((8 * (l.length - 2) + 1 : Nat) : Int) := by omega
  have e4 : IntKind.wrap .i64 ((l.length : Int) - 2) = (l.length : Int) - 2 := wr_i64 (by omega) (by omega)
  have e5 : IntKind.wrap .i64 ((8 : Int) * ((l.length : Int) - 2)) = (8 : Int) * ((l.length : Int) - 2) := wr_i64 (by omega) (by omega)
  have e6 : IntKind.wrap .i64 ((8 : Int) * ((l.length : Int) - 2) + 1) = ((8 * (l.length - 2) + 1 : Nat) : Int) := by rw [wr_i64 (by omega) (by omega)]; omega
  obtain ⟨at_, hat, e7, _⟩ := place_spec (h := h2) X.p (n + 1) hk (m := 8 * (l.length - 2) + 1) (by omega) (by omega)
  (try simp -dsimp (disch := omega) only [↓pre, sp, sp2, wp_some, Int.cast_ofNat_Int, Nat.reduceAdd, Nat.reduceMul, Nat.reduceSub, Nat.reduceLeDiff, Nat.reduceEqDiff, Nat.reducePow, Int.reduceToNat, Int.reducePow, Int.reduceAdd, Int.reduceSub, Int.reduceMul, Int.reduceLT, Int.reduceLE, Int.reduceEq, Int.reduceNeg, s2.len, e4, e5, e6, em, e7])
  refine wp_loop (fun m y h3 => ∃ (i : Nat) (cc : List UInt8), y = [.int .i64 i] ∧ i + m = 16 ∧ Kp h h3 ∧ Ow h3 v2 T_uint8 1 cc.length (bytesOf cc) ∧ Turned l cc at_ i e) 16 (by omega) ⟨0, _, rfl, by omega, k2, o2, Turned.zero _ _ _⟩ ?_
  rintro m _ h3 j ⟨i, cc, rfl, him, k3, o3, t3⟩ hj
  have hcl : cc.length = l.length := t3.1
  have s3 := Ow.rd o3
  unfold L_runglaw2_CrcTells_0
  have hsb := shr_bit e i
  (try simp -dsimp (disch := omega) only [↓pre, sp, sp2, wp_some, Int.cast_ofNat_Int, Nat.reduceAdd, Nat.reduceMul, Nat.reduceSub, Nat.reduceLeDiff, Nat.reduceEqDiff, Nat.reducePow, Int.reduceToNat, Int.reducePow, Int.reduceAdd, Int.reduceSub, Int.reduceMul, Int.reduceLT, Int.reduceLE, Int.reduceEq, Int.reduceNeg, hsb])
  refine wp_ite (fun c1 => ?_) (fun c1 => ?_)
  · have hi : i < 16 := by omega
    refine wp_kJ (fun y h4 => ∃ cc', Kp h h4 ∧ Ow h4 v2 T_uint8 1 cc'.length (bytesOf cc') ∧ Turned l cc' at_ (i + 1) e) (fun j2 hj2 => ?_) ?_
    · rw [bv_toNat]
      cases hb : e.getLsbD i with
      | true =>
        have ea : (at_ : Int) + i = ((at_ + i : Nat) : Int) := by omega
        have eq8 : Int.tdiv ((at_ + i : Nat) : Int) 8 = (((at_ + i) / 8 : Nat) : Int) := (Int.ofNat_tdiv (at_ + i) 8).symm
        have er8 : Int.tmod ((at_ + i : Nat) : Int) 8 = (((at_ + i) % 8 : Nat) : Int) := (Int.ofNat_tmod (at_ + i) 8).symm
        have eb := shl_bit8 (k := (at_ + i) % 8) (by omega)
        have ex : iXor .u8 (gb cc ((at_ + i) / 8) : Int) ((bit8 ((at_ + i) % 8)).toNat : Int) = ((cc.getD ((at_ + i) / 8) 0 ^^^ bit8 ((at_ + i) % 8)).toNat : Int) := xor_u8 _ _
        have ew : IntKind.wrap .i64 (((at_ + i) / 8 : Nat) : Int) = (((at_ + i) / 8 : Nat) : Int) := wr_i64 (by omega) (by omega)
        simp only [if_true]
        (try simp -dsimp (disch := omega) only [↓pre, sp, sp2, wp_some, Int.cast_ofNat_Int, Nat.reduceAdd, Nat.reduceMul, Nat.reduceSub, Nat.reduceLeDiff, Nat.reduceEqDiff, Nat.reducePow, Int.reduceToNat, Int.reducePow, Int.reduceAdd, Int.reduceSub, Int.reduceMul, Int.reduceLT, Int.reduceLE, Int.reduceEq, Int.reduceNeg, decide_true, ea, eq8, er8, ew, s3.at, s3.ldb, eb, ex])
        refine wp_storeOw k3.w' o3 rfl rfl rfl (by rw [bytesOf_length]; omega) (by rw [bytesOf_length]; omega) rfl fun h4 o4 k4 n4 => ?_
        rw [splice_one _ _ _ (by rw [bytesOf_length]; omega), ← bytesOf_set] at o4
        (try simp -dsimp (disch := omega) only [↓pre, sp, sp2, wp_some, Int.cast_ofNat_Int, Nat.reduceAdd, Nat.reduceMul, Nat.reduceSub, Nat.reduceLeDiff, Nat.reduceEqDiff, Nat.reducePow, Int.reduceToNat, Int.reducePow, Int.reduceAdd, Int.reduceSub, Int.reduceMul, Int.reduceLT, Int.reduceLE, Int.reduceEq, Int.reduceNeg])
        exact hj2 _ _ ⟨_, Ke.new_p k3 k4 f2, o4.to rfl (by rw [List.length_set]), t3.on hb (by omega)⟩
      | false =>
        have hne : ¬ ((0 : Int) = 1) := by omega
        simp only [Bool.false_eq_true, if_false, hne, decide_false]
        (try simp -dsimp (disch := omega) only [↓pre, sp, sp2, wp_some, Int.cast_ofNat_Int, Nat.reduceAdd, Nat.reduceMul, Nat.reduceSub, Nat.reduceLeDiff, Nat.reduceEqDiff, Nat.reducePow, Int.reduceToNat, Int.reducePow, Int.reduceAdd, Int.reduceSub, Int.reduceMul, Int.reduceLT, Int.reduceLE, Int.reduceEq, Int.reduceNeg])
        exact hj2 _ _ ⟨cc, k3, o3, t3.off hb⟩
    · rintro _ h4 ⟨cc', k4, o4, t4⟩
      have ei : ((i : Int) + 1) = ((i + 1 : Nat) : Int) := by omega
      (try simp -dsimp (disch := omega) only [↓pre, sp, sp2, wp_some, Int.cast_ofNat_Int, Nat.reduceAdd, Nat.reduceMul, Nat.reduceSub, Nat.reduceLeDiff, Nat.reduceEqDiff, Nat.reducePow, Int.reduceToNat, Int.reducePow, Int.reduceAdd, Int.reduceSub, Int.reduceMul, Int.reduceLT, Int.reduceLE, Int.reduceEq, Int.reduceNeg, ei])
      exact hj (m - 1) _ _ (by omega) ⟨i + 1, cc', rfl, by omega, k4, o4, t4⟩
  · have hi : i = 16 := by omega
    subst hi
    have ht := t3.told he (by omega)
    have ha := sum16_spec X.p n s3 (by omega)
    have hb := sum16_spec X.p n (s.kp k3) (by omega)
    have hne : ((crc16 cc).toNat : Int) ≠ ((crc16 l).toNat : Int) := fun hh => ht (BitVec.eq_of_toNat_eq (by omega))
    (try simp -dsimp (disch := omega) only [↓pre, sp, sp2, wp_some, Int.cast_ofNat_Int, Nat.reduceAdd, Nat.reduceMul, Nat.reduceSub, Nat.reduceLeDiff, Nat.reduceEqDiff, Nat.reducePow, Int.reduceToNat, Int.reducePow, Int.reduceAdd, Int.reduceSub, Int.reduceMul, Int.reduceLT, Int.reduceLE, Int.reduceEq, Int.reduceNeg, ha, hb])
    rw [decide_eq_true hne]

theorem crcSums (X : Xs ov) (K : ov N_runglaw2_known = some knownYes) (n : Nat) (w : Wf h) {l : List UInt8} (s : Bs h v l .ro) :
    Wp (kc ov (n + 8) N_runglaw2_CrcSums [v] h) fun r h' => r = .bool true := by
  rw [C_runglaw2_CrcSums X.p]; unfold F_runglaw2_CrcSums
  (try simp -dsimp (disch := omega) only [↓pre, sp, sp2, wp_some, Int.cast_ofNat_Int, Nat.reduceAdd, Nat.reduceMul, Nat.reduceSub, Nat.reduceLeDiff, Nat.reduceEqDiff, Nat.reducePow, Int.reduceToNat, Int.reducePow, Int.reduceAdd, Int.reduceSub, Int.reduceMul, Int.reduceLT, Int.reduceLE, Int.reduceEq, Int.reduceNeg, known_spec K, s.len])
  refine wp_ite (fun c => ?_) (fun c => ?_)
  · (try simp -dsimp (disch := omega) only [↓pre, sp, sp2, wp_some, Int.cast_ofNat_Int, Nat.reduceAdd, Nat.reduceMul, Nat.reduceSub, Nat.reduceLeDiff, Nat.reduceEqDiff, Nat.reducePow, Int.reduceToNat, Int.reducePow, Int.reduceAdd, Int.reduceSub, Int.reduceMul, Int.reduceLT, Int.reduceLE, Int.reduceEq, Int.reduceNeg])
  (try simp -dsimp (disch := omega) only [↓pre, sp, sp2, wp_some, Int.cast_ofNat_Int, Nat.reduceAdd, Nat.reduceMul, Nat.reduceSub, Nat.reduceLeDiff, Nat.reduceEqDiff, Nat.reducePow, Int.reduceToNat, Int.reducePow, Int.reduceAdd, Int.reduceSub, Int.reduceMul, Int.reduceLT, Int.reduceLE, Int.reduceEq, Int.reduceNeg])
  refine wp_box w rfl rfl fun p h1 hp k1 n1 g1 => ?_
  (try simp -dsimp (disch := omega) only [↓pre, sp, sp2, wp_some, Int.cast_ofNat_Int, Nat.reduceAdd, Nat.reduceMul, Nat.reduceSub, Nat.reduceLeDiff, Nat.reduceEqDiff, Nat.reducePow, Int.reduceToNat, Int.reducePow, Int.reduceAdd, Int.reduceSub, Int.reduceMul, Int.reduceLT, Int.reduceLE, Int.reduceEq, Int.reduceNeg])
  refine Wp.bind (copy_spec X.p (n + 6) k1.w' (s.kp k1) (by omega)) fun v2 h2 ⟨k2, o2, f2⟩ => ?_
  have g2 := k2.gt g1
  have hpn := k1.w'.lt _ _ g1
  obtain ⟨md2, b2, hro⟩ := o2.roOr
  (try simp -dsimp (disch := omega) only [↓pre, sp, sp2, wp_some, Int.cast_ofNat_Int, Nat.reduceAdd, Nat.reduceMul, Nat.reduceSub, Nat.reduceLeDiff, Nat.reduceEqDiff, Nat.reducePow, Int.reduceToNat, Int.reducePow, Int.reduceAdd, Int.reduceSub, Int.reduceMul, Int.reduceLT, Int.reduceLE, Int.reduceEq, Int.reduceNeg])
  refine Wp.bind (tsum_spec X n k2.w' (off := 0) (made := false) g2 ⟨by simp, rfl, rfl, rfl, fun hh => by cases hh⟩ b2 (hro.imp id fun hi hh => by have := f2 _ hi; omega) (by omega)) fun v3 h3 ⟨e3, k3, cs3, par3, g3, d3, _⟩ => ?_
  subst e3
  have K3 : Kp h h3 := Ke.new_p (k1.trans k2) k3 fun i hi => by omega
  have s3 := s.kp K3
  have hr := rsum16_spec X.p (n + 6) s3 (by omega)
  have hs := sum16_spec X.p (n + 5) s3 (by omega)
  obtain ⟨r32, hr32, e32⟩ := sum32_spec X.p (n + 6) s3 (by omega)
  have f32 := rsum32_spec X.p (n + 6) s3 (by omega) hr32
  obtain ⟨r', er'⟩ : ∃ x : Int, r32 = .int .u32 x := by
    unfold aUn at hr32
    simp only [Option.map_eq_some_iff] at hr32
    obtain ⟨x, _, e⟩ := hr32
    exact ⟨x, e.symm⟩
  subst er'
  have o3 : Ob h3 v2 l := o2.ke k3 fun i hi hh => by have := f2 i hi; omega
  (try simp -dsimp (disch := omega) only [↓pre, sp, sp2, wp_some, Int.cast_ofNat_Int, Nat.reduceAdd, Nat.reduceMul, Nat.reduceSub, Nat.reduceLeDiff, Nat.reduceEqDiff, Nat.reducePow, Int.reduceToNat, Int.reducePow, Int.reduceAdd, Int.reduceSub, Int.reduceMul, Int.reduceLT, Int.reduceLE, Int.reduceEq, Int.reduceNeg, hr])
  refine wp_kTh (fun v h4 => v = .bool true) (fun j hj => ?_) ?_
  · (try simp -dsimp (disch := omega) only [↓pre, sp, sp2, wp_some, Int.cast_ofNat_Int, Nat.reduceAdd, Nat.reduceMul, Nat.reduceSub, Nat.reduceLeDiff, Nat.reduceEqDiff, Nat.reducePow, Int.reduceToNat, Int.reducePow, Int.reduceAdd, Int.reduceSub, Int.reduceMul, Int.reduceLT, Int.reduceLE, Int.reduceEq, Int.reduceNeg, hs, decide_true, e32, f32])
    refine Wp.bind (tsum_spec X n k3.w' (off := 0) (made := true) g3 d3 s3 (.inl rfl) (by omega)) fun v4 h4 ⟨e4, k4, cs4, par4, g4, d4, _⟩ => ?_
    subst e4
    have hm := made_spec X (n + 4) (row_rw g4) d4
    simp only [if_true] at hm
    have o4 : Ob h4 v2 l := o3.ke k4 fun i hi hh => by have := f2 i hi; omega
    have s4 := s.kp (Ke.new_p K3 k4 fun i hi => by omega)
    have hb := bytes_spec X.p (n + 6) o4.rd s4
    (try simp -dsimp (disch := omega) only [↓pre, sp, sp2, wp_some, Int.cast_ofNat_Int, Nat.reduceAdd, Nat.reduceMul, Nat.reduceSub, Nat.reduceLeDiff, Nat.reduceEqDiff, Nat.reducePow, Int.reduceToNat, Int.reducePow, Int.reduceAdd, Int.reduceSub, Int.reduceMul, Int.reduceLT, Int.reduceLE, Int.reduceEq, Int.reduceNeg, hm, decide_true, hb])
    exact hj _ _ rfl
  · rintro _ h4 rfl
    (try simp -dsimp (disch := omega) only [↓pre, sp, sp2, wp_some, Int.cast_ofNat_Int, Nat.reduceAdd, Nat.reduceMul, Nat.reduceSub, Nat.reduceLeDiff, Nat.reduceEqDiff, Nat.reducePow, Int.reduceToNat, Int.reducePow, Int.reduceAdd, Int.reduceSub, Int.reduceMul, Int.reduceLT, Int.reduceLE, Int.reduceEq, Int.reduceNeg])

theorem Tab.congr {p off : Nat} {cs cs' : List AVal} {made : Bool} (d : Tab h p off cs made) (hl : cs'.length = cs.length) (hk : ∀ k, off ≤ k → k < off + 5 → cs'[k]? = cs[k]?) : Tab h p off cs' made := by
  obtain ⟨h1, h2, h3, h4, h5⟩ := d
  refine ⟨by omega, by rw [hk _ (by omega) (by omega)]; exact h2, by rw [hk _ (by omega) (by omega)]; exact h3, by rw [hk _ (by omega) (by omega)]; exact h4, fun m => ?_⟩
  rw [hk _ (by omega) (by omega)]; exact h5 m
/-- Texts that are read alone. -/
def BsL (h : AH) (vs : List AVal) (ls : List (List UInt8)) : Prop := vs.length = ls.length ∧ ∀ (i : Nat) l, ls[i]? = some l → ∃ v, vs[i]? = some v ∧ Bs h v l .ro ∧ l.length ≤ 2 ^ 48
def b2i (b : Bool) : Int := if b then 1 else 0
/-- Two tables; who was asked. -/
structure Two (h : AH) (p q : Nat) (cs : List AVal) (m0 m1 : Bool) : Prop where
  g : ∃ par, h.get p = some ⟨.row cs T__2_crc_Table false, .rw, par⟩
  gq : ∃ par, h.get q = some ⟨.row [.int .i64 (b2i m0), .int .i64 (b2i m1)] T__2_int false, .rw, par⟩
  hl : cs.length = 10
  hpq : p ≠ q
  d0 : Tab h p 0 cs m0
  d1 : Tab h p 5 cs m1
  f0 : ∀ v i, cs[4]? = some v → isBk v i → i ≠ q
  f1 : ∀ v i, cs[9]? = some v → isBk v i → i ≠ q
theorem crcOnce (X : Xs ov) (K : ov N_runglaw2_known = some knownYes) (n : Nat) (w : Wf h) {vs : List AVal} {ls : List (List UInt8)} {ws : List Bool} (s : Sz h a 1 vs.length vs .ro) (bl : BsL h vs ls) (sw : Sz h b 1 ws.length (ws.map AVal.bool) .ro) :
    Wp (kc ov (n + 8) N_runglaw2_CrcOnce [a, b] h) fun r h' => r = .bool true := by
  have hvl := bl.1
  rw [C_runglaw2_CrcOnce X.p]; unfold F_runglaw2_CrcOnce
  (try simp -dsimp (disch := omega) only [↓pre, sp, sp2, wp_some, Int.cast_ofNat_Int, Nat.reduceAdd, Nat.reduceMul, Nat.reduceSub, Nat.reduceLeDiff, Nat.reduceEqDiff, Nat.reducePow, Int.reduceToNat, Int.reducePow, Int.reduceAdd, Int.reduceSub, Int.reduceMul, Int.reduceLT, Int.reduceLE, Int.reduceEq, Int.reduceNeg, known_spec K, s.len])
  refine wp_kT (.bool (decide (vs.length > 40 ∨ ws.length > 40))) (fun j hj => ?_) ?_
  · by_cases c : (vs.length : Int) > 40
    · (try simp -dsimp (disch := omega) only [↓pre, sp, sp2, wp_some, Int.cast_ofNat_Int, Nat.reduceAdd, Nat.reduceMul, Nat.reduceSub, Nat.reduceLeDiff, Nat.reduceEqDiff, Nat.reducePow, Int.reduceToNat, Int.reducePow, Int.reduceAdd, Int.reduceSub, Int.reduceMul, Int.reduceLT, Int.reduceLE, Int.reduceEq, Int.reduceNeg, c, decide_true]); simpa [show vs.length > 40 by omega] using hj
    · (try simp -dsimp (disch := omega) only [↓pre, sp, sp2, wp_some, Int.cast_ofNat_Int, Nat.reduceAdd, Nat.reduceMul, Nat.reduceSub, Nat.reduceLeDiff, Nat.reduceEqDiff, Nat.reducePow, Int.reduceToNat, Int.reducePow, Int.reduceAdd, Int.reduceSub, Int.reduceMul, Int.reduceLT, Int.reduceLE, Int.reduceEq, Int.reduceNeg, c, decide_false, sw.len])
      have e : ((ws.length : Int) > 40) ↔ ws.length > 40 := by omega
      simpa only [e, show ¬ vs.length > 40 by omega, false_or] using hj
  (try simp -dsimp (disch := omega) only [↓pre, sp, sp2, wp_some, Int.cast_ofNat_Int, Nat.reduceAdd, Nat.reduceMul, Nat.reduceSub, Nat.reduceLeDiff, Nat.reduceEqDiff, Nat.reducePow, Int.reduceToNat, Int.reducePow, Int.reduceAdd, Int.reduceSub, Int.reduceMul, Int.reduceLT, Int.reduceLE, Int.reduceEq, Int.reduceNeg])
  refine wp_ite (fun c => ?_) (fun c => ?_)
  · (try simp -dsimp (disch := omega) only [↓pre, sp, sp2, wp_some, Int.cast_ofNat_Int, Nat.reduceAdd, Nat.reduceMul, Nat.reduceSub, Nat.reduceLeDiff, Nat.reduceEqDiff, Nat.reducePow, Int.reduceToNat, Int.reducePow, Int.reduceAdd, Int.reduceSub, Int.reduceMul, Int.reduceLT, Int.reduceLE, Int.reduceEq, Int.reduceNeg])
  (try simp -dsimp (disch := omega) only [↓pre, sp, sp2, wp_some, Int.cast_ofNat_Int, Nat.reduceAdd, Nat.reduceMul, Nat.reduceSub, Nat.reduceLeDiff, Nat.reduceEqDiff, Nat.reducePow, Int.reduceToNat, Int.reducePow, Int.reduceAdd, Int.reduceSub, Int.reduceMul, Int.reduceLT, Int.reduceLE, Int.reduceEq, Int.reduceNeg])
  refine wp_box w rfl rfl fun p h1 hp k1 n1 g1 => ?_
  (try simp -dsimp (disch := omega) only [↓pre, sp, sp2, wp_some, Int.cast_ofNat_Int, Nat.reduceAdd, Nat.reduceMul, Nat.reduceSub, Nat.reduceLeDiff, Nat.reduceEqDiff, Nat.reducePow, Int.reduceToNat, Int.reducePow, Int.reduceAdd, Int.reduceSub, Int.reduceMul, Int.reduceLT, Int.reduceLE, Int.reduceEq, Int.reduceNeg])
  refine wp_box k1.w' rfl rfl fun q h2 hq k2 n2 g2 => ?_
  (try simp -dsimp (disch := omega) only [↓pre, sp, sp2, wp_some, Int.cast_ofNat_Int, Nat.reduceAdd, Nat.reduceMul, Nat.reduceSub, Nat.reduceLeDiff, Nat.reduceEqDiff, Nat.reducePow, Int.reduceToNat, Int.reducePow, Int.reduceAdd, Int.reduceSub, Int.reduceMul, Int.reduceLT, Int.reduceLE, Int.reduceEq, Int.reduceNeg])
  refine wp_store k2.w' g2 rfl rfl (by simp) rfl fun h3 k3 n3 g3 => ?_
  (try simp -dsimp (disch := omega) only [↓pre, sp, sp2, wp_some, Int.cast_ofNat_Int, Nat.reduceAdd, Nat.reduceMul, Nat.reduceSub, Nat.reduceLeDiff, Nat.reduceEqDiff, Nat.reducePow, Int.reduceToNat, Int.reducePow, Int.reduceAdd, Int.reduceSub, Int.reduceMul, Int.reduceLT, Int.reduceLE, Int.reduceEq, Int.reduceNeg])
  have hpn := k1.w'.lt _ _ g1
  have K3 : Kp h h3 := Ke.new_p (k1.trans k2) k3 fun i hi => by omega
  have g13 := k3.gt (k2.gt g1) (by omega)
  refine wp_loop (fun m y h4 => ∃ (i : Nat) (cs : List AVal) (m0 m1 : Bool), y = [.int .i64 i] ∧ i + m = vs.length ∧ Kp h h4 ∧ Two h4 p q cs m0 m1) vs.length (by omega)
    ⟨0, _, false, false, rfl, by omega, K3, ⟨_, g13⟩, ⟨_, g3⟩, rfl, by omega, ⟨by decide, rfl, rfl, rfl, fun hh => by cases hh⟩, ⟨by decide, rfl, rfl, rfl, fun hh => by cases hh⟩, fun v i hv hi => by cases hv; exact hi.elim, fun v i hv hi => by cases hv; exact hi.elim⟩ ?_
  rintro m _ h4 j ⟨i, cs, m0, m1, rfl, him, k4, T⟩ hj
  have s4 := s.ro k4
  have sw4 := sw.ro k4
  unfold L_runglaw2_CrcOnce_0
  (try simp -dsimp (disch := omega) only [↓pre, sp, sp2, wp_some, Int.cast_ofNat_Int, Nat.reduceAdd, Nat.reduceMul, Nat.reduceSub, Nat.reduceLeDiff, Nat.reduceEqDiff, Nat.reducePow, Int.reduceToNat, Int.reducePow, Int.reduceAdd, Int.reduceSub, Int.reduceMul, Int.reduceLT, Int.reduceLE, Int.reduceEq, Int.reduceNeg, s4.len])
  refine wp_ite (fun c1 => ?_) (fun c1 => ?_)
  rotate_left
  · (try simp -dsimp (disch := omega) only [↓pre, sp, sp2, wp_some, Int.cast_ofNat_Int, Nat.reduceAdd, Nat.reduceMul, Nat.reduceSub, Nat.reduceLeDiff, Nat.reduceEqDiff, Nat.reducePow, Int.reduceToNat, Int.reducePow, Int.reduceAdd, Int.reduceSub, Int.reduceMul, Int.reduceLT, Int.reduceLE, Int.reduceEq, Int.reduceNeg])
  obtain ⟨x, hx⟩ : ∃ x, ls[i]? = some x := ⟨_, List.getElem?_eq_getElem (by omega)⟩
  obtain ⟨u, hu, su0, hxl⟩ := bl.2 i x hx
  have su := su0.ro k4
  have hld : rLoad (ea a i) h4 = some u := by rw [s4.ld (by omega), hu]
  (try simp -dsimp (disch := omega) only [↓pre, sp, sp2, wp_some, Int.cast_ofNat_Int, Nat.reduceAdd, Nat.reduceMul, Nat.reduceSub, Nat.reduceLeDiff, Nat.reduceEqDiff, Nat.reducePow, Int.reduceToNat, Int.reducePow, Int.reduceAdd, Int.reduceSub, Int.reduceMul, Int.reduceLT, Int.reduceLE, Int.reduceEq, Int.reduceNeg, s4.at, hld, su.len])
  refine wp_ite (fun c2 => ?_) (fun c2 => ?_)
  · (try simp -dsimp (disch := omega) only [↓pre, sp, sp2, wp_some, Int.cast_ofNat_Int, Nat.reduceAdd, Nat.reduceMul, Nat.reduceSub, Nat.reduceLeDiff, Nat.reduceEqDiff, Nat.reducePow, Int.reduceToNat, Int.reducePow, Int.reduceAdd, Int.reduceSub, Int.reduceMul, Int.reduceLT, Int.reduceLE, Int.reduceEq, Int.reduceNeg])
  (try simp -dsimp (disch := omega) only [↓pre, sp, sp2, wp_some, Int.cast_ofNat_Int, Nat.reduceAdd, Nat.reduceMul, Nat.reduceSub, Nat.reduceLeDiff, Nat.reduceEqDiff, Nat.reducePow, Int.reduceToNat, Int.reducePow, Int.reduceAdd, Int.reduceSub, Int.reduceMul, Int.reduceLT, Int.reduceLE, Int.reduceEq, Int.reduceNeg, sw4.len])
  have step : ∀ kk : Nat, kk = 0 ∨ kk = 1 → Wp (kc ov (n + 7) N_crc_Table_Sum16 [.ptr (some (p, kk * 5)), u] h4) fun r h5 => r = .int .u16 (crc16 x).toNat ∧ Kp h h5 ∧ ∃ cs' par par', h5.get p = some ⟨.row cs' T__2_crc_Table false, .rw, par⟩ ∧
      h5.get q = some ⟨.row [.int .i64 (b2i m0), .int .i64 (b2i m1)] T__2_int false, .rw, par'⟩ ∧ cs'.length = 10 ∧ Tab h5 p 0 cs' (if kk = 0 then true else m0) ∧ Tab h5 p 5 cs' (if kk = 1 then true else m1) ∧
      (∀ v i, cs'[4]? = some v → isBk v i → i ≠ q) ∧ (∀ v i, cs'[9]? = some v → isBk v i → i ≠ q) := by
    obtain ⟨⟨par, g⟩, ⟨parq, gq⟩, hl, hpq, d0, d1, f0, f1⟩ := T
    have hqn := k4.w'.lt _ _ gq
    rintro kk (rfl | rfl)
    · refine (tsum_spec X n k4.w' (off := 0) g d0 su (.inl rfl) (by omega)).mono ?_
      rintro r h5 ⟨e5, k5, cs', par', g5, d5, l5, o5, fr5⟩
      refine ⟨e5, Ke.new_p k4 k5 fun i hi => by omega, cs', par', parq, g5, k5.gt gq (Ne.symm hpq), by omega, d5, ?_, fun v i hv hi => ?_, fun v i hv hi => f1 v i (by rw [← o5 9 (by omega)]; exact hv) hi⟩
      · exact (d1.kep k5).congr l5 fun k h1 h2 => o5 k (by omega)
      · rcases fr5 v i hv hi with hh | hh
        · omega
        · exact f0 v i hh hi
    · refine (tsum_spec X n k4.w' (off := 5) g d1 su (.inl rfl) (by omega)).mono ?_
      rintro r h5 ⟨e5, k5, cs', par', g5, d5, l5, o5, fr5⟩
      refine ⟨e5, Ke.new_p k4 k5 fun i hi => by omega, cs', par', parq, g5, k5.gt gq (Ne.symm hpq), by omega, ?_, d5, fun v i hv hi => f0 v i (by rw [← o5 4 (by omega)]; exact hv) hi, fun v i hv hi => ?_⟩
      · exact (d0.kep k5).congr l5 fun k h1 h2 => o5 k (by omega)
      · rcases fr5 v i hv hi with hh | hh
        · omega
        · exact f1 v i hh hi
  have fin : ∀ (kk : Nat), kk = 0 ∨ kk = 1 → ∀ (h5 : AH) (cs' : List AVal) (par par' : List Nat), Kp h h5 → h5.get p = some ⟨.row cs' T__2_crc_Table false, .rw, par⟩ →
      h5.get q = some ⟨.row [.int .i64 (b2i m0), .int .i64 (b2i m1)] T__2_int false, .rw, par'⟩ → cs'.length = 10 → Tab h5 p 0 cs' (if kk = 0 then true else m0) → Tab h5 p 5 cs' (if kk = 1 then true else m1) →
      (∀ v i, cs'[4]? = some v → isBk v i → i ≠ q) → (∀ v i, cs'[9]? = some v → isBk v i → i ≠ q) → ∀ (h6 : AH), Ke (· = q) h5 h6 → h6.get q = some ⟨.row (splice [.int .i64 (b2i m0), .int .i64 (b2i m1)] (0 + kk * 1) [.int .i64 1]) T__2_int false, .rw, []⟩ →
      Two h6 p q cs' (if kk = 0 then true else m0) (if kk = 1 then true else m1) := by
    intro kk hkk h5 cs' par par' K5 g5 gq5 hl5 d0 d1 f0 f1 h6 k6 gq6
    refine ⟨⟨par, k6.gt g5 T.hpq⟩, ⟨[], ?_⟩, hl5, T.hpq, d0.ke k6 f0, d1.ke k6 f1, f0, f1⟩
    rw [gq6]
    rcases hkk with rfl | rfl <;> rfl
  refine wp_kTp (fun y => ∃ bb : Bool, y = .bool bb) (fun j2 hj2 => ?_) ?_
  · by_cases c3 : (i : Int) < ws.length
    · have hw : (ws.map AVal.bool)[i]? = some (.bool (ws[i]'(by omega))) := by
        rw [List.getElem?_map, List.getElem?_eq_getElem (by omega)]; rfl
      have hlw : rLoad (ea b i) h4 = some (.bool (ws[i]'(by omega))) := by rw [sw4.ld (by rw [List.length_map]; omega), hw]
      (try simp -dsimp (disch := omega) only [↓pre, sp, sp2, wp_some, Int.cast_ofNat_Int, Nat.reduceAdd, Nat.reduceMul, Nat.reduceSub, Nat.reduceLeDiff, Nat.reduceEqDiff, Nat.reducePow, Int.reduceToNat, Int.reducePow, Int.reduceAdd, Int.reduceSub, Int.reduceMul, Int.reduceLT, Int.reduceLE, Int.reduceEq, Int.reduceNeg, c3, decide_true, sw4.at, hlw])
      exact hj2 _ ⟨_, rfl⟩
    · (try simp -dsimp (disch := omega) only [↓pre, sp, sp2, wp_some, Int.cast_ofNat_Int, Nat.reduceAdd, Nat.reduceMul, Nat.reduceSub, Nat.reduceLeDiff, Nat.reduceEqDiff, Nat.reducePow, Int.reduceToNat, Int.reducePow, Int.reduceAdd, Int.reduceSub, Int.reduceMul, Int.reduceLT, Int.reduceLE, Int.reduceEq, Int.reduceNeg, c3, decide_false])
      exact hj2 _ ⟨_, rfl⟩
  rintro _ ⟨bb, rfl⟩
  refine wp_kJ (fun y h5 => h4 = h5 ∧ ∃ kk : Nat, y = [.int .i64 kk] ∧ (kk = 0 ∨ kk = 1)) (fun j2 hj2 => ?_) ?_
  · cases bb
    · (try simp -dsimp (disch := omega) only [↓pre, sp, sp2, wp_some, Int.cast_ofNat_Int, Nat.reduceAdd, Nat.reduceMul, Nat.reduceSub, Nat.reduceLeDiff, Nat.reduceEqDiff, Nat.reducePow, Int.reduceToNat, Int.reducePow, Int.reduceAdd, Int.reduceSub, Int.reduceMul, Int.reduceLT, Int.reduceLE, Int.reduceEq, Int.reduceNeg])
      exact hj2 _ _ ⟨rfl, 0, rfl, .inl rfl⟩
    · (try simp -dsimp (disch := omega) only [↓pre, sp, sp2, wp_some, Int.cast_ofNat_Int, Nat.reduceAdd, Nat.reduceMul, Nat.reduceSub, Nat.reduceLeDiff, Nat.reduceEqDiff, Nat.reducePow, Int.reduceToNat, Int.reducePow, Int.reduceAdd, Int.reduceSub, Int.reduceMul, Int.reduceLT, Int.reduceLE, Int.reduceEq, Int.reduceNeg])
      exact hj2 _ _ ⟨rfl, 1, rfl, .inr rfl⟩
  rintro _ _ ⟨rfl, kk, rfl, hkk⟩
  have ha5 : rAtArr 2 5 (.ptr (some (p, 0))) (.int .i64 kk) = some (.ptr (some (p, kk * 5))) := by
    rcases hkk with rfl | rfl <;> rfl
  have ha1 : rAtArr 2 1 (.ptr (some (q, 0))) (.int .i64 kk) = some (.ptr (some (q, 0 + kk * 1))) := by
    rcases hkk with rfl | rfl <;> rfl
  (try simp -dsimp (disch := omega) only [↓pre, sp, sp2, wp_some, Int.cast_ofNat_Int, Nat.reduceAdd, Nat.reduceMul, Nat.reduceSub, Nat.reduceLeDiff, Nat.reduceEqDiff, Nat.reducePow, Int.reduceToNat, Int.reducePow, Int.reduceAdd, Int.reduceSub, Int.reduceMul, Int.reduceLT, Int.reduceLE, Int.reduceEq, Int.reduceNeg, ha5, s4.at, hld])
  refine Wp.bind (step kk hkk) fun v5 h5 ⟨e5, K5, cs5, par5, parq5, g5, gq5, hl5, d05, d15, f05, f15⟩ => ?_
  subst e5
  have s5 := s.ro K5
  have su5 := su0.ro K5
  have hld5 : rLoad (ea a i) h5 = some u := by rw [s5.ld (by omega), hu]
  have hr := rsum16_spec X.p (n + 6) su5 (by omega)
  (try simp -dsimp (disch := omega) only [↓pre, sp, sp2, wp_some, Int.cast_ofNat_Int, Nat.reduceAdd, Nat.reduceMul, Nat.reduceSub, Nat.reduceLeDiff, Nat.reduceEqDiff, Nat.reducePow, Int.reduceToNat, Int.reducePow, Int.reduceAdd, Int.reduceSub, Int.reduceMul, Int.reduceLT, Int.reduceLE, Int.reduceEq, Int.reduceNeg, hld5, hr, ha1])
  refine wp_store K5.w' gq5 rfl rfl (by rcases hkk with rfl | rfl <;> simp) rfl fun h6 k6 n6 gq6 => ?_
  have T6 := fin kk hkk h5 cs5 par5 parq5 K5 g5 gq5 hl5 d05 d15 f05 f15 h6 k6 (by simpa using gq6)
  obtain ⟨⟨par6, g6⟩, ⟨parq6, gq6'⟩, _, _, d06, d16, _, _⟩ := id T6
  have hpq2 : ∀ i, i = q → h.n ≤ i := fun i hi => by omega
  have ha50 : rAtArr 2 5 (.ptr (some (p, 0))) (.int .i64 0) = some (.ptr (some (p, 0))) := rfl
  have ha51 : rAtArr 2 5 (.ptr (some (p, 0))) (.int .i64 1) = some (.ptr (some (p, 5))) := rfl
  have ha10 : rAtArr 2 1 (.ptr (some (q, 0))) (.int .i64 0) = some (.ptr (some (q, 0))) := rfl
  have ha11 : rAtArr 2 1 (.ptr (some (q, 0))) (.int .i64 1) = some (.ptr (some (q, 1))) := rfl
  have hm0 := made_spec X (n + 4) (row_rw g6) d06
  have hm1 := made_spec X (n + 4) (row_rw g6) d16
  have et : ∀ i : Int, (¬ (i = i)) = False := by simp
  have eb : ∀ b : Bool, (if b = true then (1 : Int) else 0) = b2i b := fun b => rfl
  rw [eb] at hm0 hm1
  have ei : ((i : Int) + 1) = ((i + 1 : Nat) : Int) := by omega
  (try simp -dsimp (disch := omega) only [↓pre, sp, sp2, wp_some, Int.cast_ofNat_Int, Nat.reduceAdd, Nat.reduceMul, Nat.reduceSub, Nat.reduceLeDiff, Nat.reduceEqDiff, Nat.reducePow, Int.reduceToNat, Int.reducePow, Int.reduceAdd, Int.reduceSub, Int.reduceMul, Int.reduceLT, Int.reduceLE, Int.reduceEq, Int.reduceNeg, ha50, ha51, ha10, ha11, row_rw gq6', hm0, hm1, decide_false, ei])
  exact hj (m - 1) _ _ (by omega) ⟨i + 1, cs5, _, _, rfl, by omega, Ke.new_p K5 k6 hpq2, T6⟩

def nine : List UInt8 := [49, 50, 51, 52, 53, 54, 55, 56, 57]
theorem nine16 : crc16 nine = 0x4B37#16 := by decide +kernel
theorem nine32 : aUn .xor (.int .u32 (crcL32 0xFFFFFFFF#32 nine).toNat) = some (.int .u32 3421780262) := by kernel_rfl
/-- The chapter's example holds. -/
theorem known_holds (X : Xs ov) (hk : ov N_runglaw2_known = none) (n : Nat) (w : Wf h) : Wp (kcall Try.prog [] ov (n + 8) N_runglaw2_known [] h) fun r h' => r = .bool true := by
  rw [C_runglaw2_known hk]
  change Wp (F_runglaw2_known (kc ov (n + 7)) (kd ov (n + 7)) h) _
  unfold F_runglaw2_known
  (try simp -dsimp (disch := omega) only [↓pre, sp, sp2, wp_some, Int.cast_ofNat_Int, Nat.reduceAdd, Nat.reduceMul, Nat.reduceSub, Nat.reduceLeDiff, Nat.reduceEqDiff, Nat.reducePow, Int.reduceToNat, Int.reducePow, Int.reduceAdd, Int.reduceSub, Int.reduceMul, Int.reduceLT, Int.reduceLE, Int.reduceEq, Int.reduceNeg])
  refine wp_box w rfl rfl fun p h1 hp k1 n1 g1 => ?_
  refine wp_buildSl (cs := bytesOf nine) k1.w' ⟨by decide, rfl, by decide⟩ rfl (isCell_bytes _) fun q h2 hq k2 n2 g2 => ?_
  have g12 := k2.gt g1
  refine Wp.bind (convB_wp k2.w' g2 (off := 0) (c := 9) (sz := 1) (n := 9) (by omega)) fun v3 h3 ⟨e3, k3, n3, g3⟩ => ?_
  subst e3
  have hpn := k1.w'.lt _ _ g1
  have g13 := k3.gt g12 (by omega)
  have s3 : Bs h3 (.slice (some (q, 0, 1)) 9 9) nine .ro := ⟨_, _, rfl, rfl, Nat.le_refl _, by omega, .inr (.inr ⟨q, 0, rfl, ⟨⟨_, _, _, _, g3, by decide, rfl⟩, .inl rfl⟩⟩)⟩
  have d3 : Tab h3 p 0 [.int .u32 0, .int .i32 0, .int .u32 0, .int .i64 0, .slice none 0 0] false := ⟨by decide, rfl, rfl, rfl, fun hh => by cases hh⟩
  have hm := made_spec X (n + 4) (row_rw g13) d3
  simp only [Bool.false_eq_true, if_false] at hm
  (try simp -dsimp (disch := omega) only [↓pre, sp, sp2, wp_some, Int.cast_ofNat_Int, Nat.reduceAdd, Nat.reduceMul, Nat.reduceSub, Nat.reduceLeDiff, Nat.reduceEqDiff, Nat.reducePow, Int.reduceToNat, Int.reducePow, Int.reduceAdd, Int.reduceSub, Int.reduceMul, Int.reduceLT, Int.reduceLE, Int.reduceEq, Int.reduceNeg, hm])
  refine Wp.bind (tsum_spec X n k3.w' (off := 0) g13 d3 s3 (.inl rfl) (by decide)) fun v4 h4 ⟨e4, k4, cs4, par4, g4, d4, _⟩ => ?_
  subst e4
  (try simp -dsimp (disch := omega) only [↓pre, sp, sp2, wp_some, Int.cast_ofNat_Int, Nat.reduceAdd, Nat.reduceMul, Nat.reduceSub, Nat.reduceLeDiff, Nat.reduceEqDiff, Nat.reducePow, Int.reduceToNat, Int.reducePow, Int.reduceAdd, Int.reduceSub, Int.reduceMul, Int.reduceLT, Int.reduceLE, Int.reduceEq, Int.reduceNeg])
  refine Wp.bind (tsum_spec X n k4.w' (off := 0) (l := []) (md := .ro) g4 d4 (Sz.nil _ 1 (by omega) .ro) (.inl rfl) (by simp)) fun v5 h5 ⟨e5, k5, cs5, par5, g5, d5, _⟩ => ?_
  have s5 := (s3.ro k4).ro k5
  have hs := sum16_spec X.p (n + 5) s5 (by decide)
  have hr : kc ov (n + 7) N_crc_Sum32 [.slice (some (q, 0, 1)) 9 9] h5 = some (.int .u32 3421780262, h5) := by
    obtain ⟨r, e1, e2⟩ := sum32_spec X.p (n + 6) s5 (by decide)
    rw [nine32] at e1
    cases e1
    exact e2
  have hm5 := made_spec X (n + 4) (row_rw g5) d5
  simp only [if_true] at hm5
  have e16 : ((crc16 nine).toNat : Int) = 19255 := by rw [nine16]; rfl
  (try simp -dsimp (disch := omega) only [↓pre, sp, sp2, wp_some, Int.cast_ofNat_Int, Nat.reduceAdd, Nat.reduceMul, Nat.reduceSub, Nat.reduceLeDiff, Nat.reduceEqDiff, Nat.reducePow, Int.reduceToNat, Int.reducePow, Int.reduceAdd, Int.reduceSub, Int.reduceMul, Int.reduceLT, Int.reduceLE, Int.reduceEq, Int.reduceNeg, hs, e16, decide_true])
  refine wp_kTh (fun v h6 => v = .bool true) (fun j hj => ?_) ?_
  · (try simp -dsimp (disch := omega) only [↓pre, sp, sp2, wp_some, Int.cast_ofNat_Int, Nat.reduceAdd, Nat.reduceMul, Nat.reduceSub, Nat.reduceLeDiff, Nat.reduceEqDiff, Nat.reducePow, Int.reduceToNat, Int.reducePow, Int.reduceAdd, Int.reduceSub, Int.reduceMul, Int.reduceLT, Int.reduceLE, Int.reduceEq, Int.reduceNeg, hr, e16, hm5, decide_true])
    exact hj _ _ rfl
  · rintro _ h6 rfl
    (try simp -dsimp (disch := omega) only [↓pre, sp, sp2, wp_some, Int.cast_ofNat_Int, Nat.reduceAdd, Nat.reduceMul, Nat.reduceSub, Nat.reduceLeDiff, Nat.reduceEqDiff, Nat.reducePow, Int.reduceToNat, Int.reducePow, Int.reduceAdd, Int.reduceSub, Int.reduceMul, Int.reduceLT, Int.reduceLE, Int.reduceEq, Int.reduceNeg])
end Go.Proofs.Ytfikmcfiojpilaa.AI
