/- Chapter 9: RetainPlays. -/
import Derived.Test.YtbcpmbggidemdaaLaw9
namespace Go.Proofs.Ytbcpmbggidemdaa.AI
open Go
set_option linter.unusedSimpArgs false
set_option linter.unusedVariables false
variable {ov : AOver} {h : AH} {v a b : AVal} {md md' : AMode} {p q : Nat} {s : BSt} {lv : AVal} {vs : List AVal}

/-- How it stands at a step. -/
def PlayI (h : AH) (a : AVal) (len : Nat) (cs : List AVal) (p : Nat) (lv : AVal) (vs : List AVal) (rm k i : Nat) (y : List AVal) : Prop :=
  ∃ (q : Nat) (s : BSt) (j : JSt) (lastV : AVal) (lastL : List Int) (laid : Bool) (sc ct c : Nat) (o : Option (Nat × Nat × List Int)),
    y = [.ptr (some (q, 0)), lastV, .bool laid, .int .u64 sc, .int .u64 ct] ∧ Sz h a 3 len cs .ro ∧ On9 h p s lv vs c ∧ c ≤ i ∧ s.left = -1 ∧ LowS s ∧ roomM s = rm ∧ Rdy s j k c o ∧ Jr h q p j ∧ ¬ Mine p lv vs q ∧ j.laid = ct ∧ ct ≤ i ∧ sc ≤ i ∧
    (laid = true → ∃ N, o = some (N, sc, lastL)) ∧ (laid = false → o = none) ∧ Oi h lastV lastL ∧ lastL.length ≤ 4096 ∧ ∀ x, isBk lastV x → ¬ Mine p lv vs x ∧ x ≠ q
theorem play_lay (X : Xs ov) (n : Nat) {len k rm i c : Nat} {cs : List AVal} {o : Option (Nat × Nat × List Int)} {j : JSt} (sa : Sz h a 3 len cs .ro) (L : On9 h p s lv vs c) (hci : c ≤ i) (lf : s.left = -1) (low : LowS s) (hrm : roomM s = rm) (hk : k ≤ rm) (R : Rdy s j k c o) (g : Jr h q p j) (hq : ¬ Mine p lv vs q) (hi : i < 80)
    {sc : Nat} (hsc : sc ≤ i) (hct : j.laid ≤ i) {nv : AVal} {seed : Int} (on : Oi h nv (nums9 seed k)) (hn : ∀ x, isBk nv x → ¬ Mine p lv vs x ∧ x ≠ q) {l44 : List AVal} (h0 : gd l44 0 = .ptr (some (q, 0))) (h4 : gd l44 4 = .int .u64 j.laid)
    {j51 : List AVal → AH → Ans} (hj : ∀ y h', PlayI h' a len cs p lv vs rm k (i + 1) y → Wp (j51 y h') fun r h' => r = .bool true) :
    Wp (ke (rAppend T_int64 1 8 (.slice none 0 0) nv h) fun v83 h12 =>
      kq (some v83) <| fun v84 =>
      kq (some (gd l44 0)) <| fun v85 =>
      kq (some (.int .u64 ((sc : Int) + 1))) <| fun v86 =>
      kq (some v84) <| fun v87 =>
      ke (kc ov (n + 5) N_retain_Journal_Lay [v85, v86, v87] h12) <| fun v88 h13 =>
      kq (rBin .neq .no true v88 (.int .i64 0)) <| fun v89 =>
      kIf v89 (
      kq (some (.bool false)) <| fun v90 =>
      some (v90, h13)) (
      kq (some (.int .i64 0)) <| fun v91 =>
      kLoop (L_runglaw9_RetainPlays_0 (kc ov (n + 5)) (kd ov (n + 5)) v84 nv l44 (.int .u64 ((sc : Int) + 1)) j51) rounds [v91] h13)) fun r h' => r = .bool true := by
  have H := X.p
  have hsz := L.I.sz
  have hr := L.room
  have hl := nums9_len seed k
  refine wp_append L.w (Ow.nil h T_int64 1 (by omega)) (Ow.rd on) (i64s_cells _) (by omega) (by omega) fun vi h1 oi k1 f1 => ?_
  have fi : ∀ x, isBk vi x → h.n ≤ x := fun x hx => (f1 x hx).resolve_left id
  have k1' : Kp h h1 := Ke.new_p (Ke.refl L.w) k1 fun x hx => hx.elim
  rw [List.nil_append] at oi
  have oi' : Oi h1 vi (nums9 seed k) := oi.to rfl (by omega)
  rw [h0]
  (try simp -dsimp (disch := omega) only [↓pre, sp, sp2, wp_some, Int.cast_ofNat_Int, Nat.reduceAdd, Nat.reduceMul, Nat.reduceSub, Nat.reduceLeDiff, Nat.reduceEqDiff, Nat.reducePow, Int.reduceToNat, Int.reducePow, Int.reduceAdd, Int.reduceSub, Int.reduceMul, Int.reduceLT, Int.reduceLE, Int.reduceEq, Int.reduceNeg])
  have esc : ((sc : Int) + 1) = ((sc + 1 : Nat) : Int) := by omega
  rw [esc]
  have q1 : q < h.n := L.w.lt _ _ g
  refine Wp.bind (lay9 X (n + 1) (L.kp k1') (k := k) (by omega) R (g.kp k1') hq (by omega) (Ow.rd oi') hl (nums9_in _ _) (scan := sc + 1) (by omega) (.inl lf) (by omega)) fun v5 h5 ⟨e5, k5, s5, L5, low5, hs5, lf5, hr5, R5, g5, hb5⟩ => ?_
  subst e5
  have nvi : ∀ x, isBk vi x → ¬ (Mine p lv vs x ∨ x = q) := fun x hx hm => by
    have h2 := fi x hx
    rcases hm with hm | hm
    · have := L.t.lt L.w hm; omega
    · omega
  have oi5 : Oi h5 vi (nums9 seed k) := oi'.ke k5 nvi
  have on5 : Oi h5 nv (nums9 seed k) := (on.kp k1').ke k5 fun x hx hm => by
    rcases hm with hm | hm
    · exact (hn x hx).1 hm
    · exact (hn x hx).2 hm
  have sa5 := (sa.kp k1').ro k5
  (try simp -dsimp (disch := omega) only [↓pre, sp, sp2, wp_some, Int.cast_ofNat_Int, Nat.reduceAdd, Nat.reduceMul, Nat.reduceSub, Nat.reduceLeDiff, Nat.reduceEqDiff, Nat.reducePow, Int.reduceToNat, Int.reducePow, Int.reduceAdd, Int.reduceSub, Int.reduceMul, Int.reduceLT, Int.reduceLE, Int.reduceEq, Int.reduceNeg])
  refine wp_loop (fun m y h6 => ∃ (i6 : Nat) (c6 : List AVal), y = [.int .i64 i6] ∧ i6 + m = k ∧ c6.length = k ∧ Ke (isBk vi) h5 h6 ∧ Ow h6 vi T_int64 1 k c6) k (by omega) ⟨0, _, rfl, by omega, by rw [i64s_len, hl], Ke.refl k5.w', oi5.to rfl hl⟩ ?_
  rintro m _ h6 jl ⟨i6, c6, rfl, him, hc6, k6, o6⟩ hjl
  unfold L_runglaw9_RetainPlays_0
  (try simp -dsimp (disch := omega) only [↓pre, sp, sp2, wp_some, Int.cast_ofNat_Int, Nat.reduceAdd, Nat.reduceMul, Nat.reduceSub, Nat.reduceLeDiff, Nat.reduceEqDiff, Nat.reducePow, Int.reduceToNat, Int.reducePow, Int.reduceAdd, Int.reduceSub, Int.reduceMul, Int.reduceLT, Int.reduceLE, Int.reduceEq, Int.reduceNeg, (Ow.rd o6).len])
  refine wp_ite (fun c7 => ?_) (fun c7 => ?_)
  · (try simp -dsimp (disch := omega) only [↓pre, sp, sp2, wp_some, Int.cast_ofNat_Int, Nat.reduceAdd, Nat.reduceMul, Nat.reduceSub, Nat.reduceLeDiff, Nat.reduceEqDiff, Nat.reducePow, Int.reduceToNat, Int.reducePow, Int.reduceAdd, Int.reduceSub, Int.reduceMul, Int.reduceLT, Int.reduceLE, Int.reduceEq, Int.reduceNeg, (Ow.rd o6).at])
    refine wp_storeOw k6.w' o6 rfl rfl rfl (by omega) (by omega) rfl fun h7 o7 k7 n7 => ?_
    have ei : IntKind.wrap .i64 ((i6 : Int) + 1) = ((i6 + 1 : Nat) : Int) := by rw [wr_i64 (by omega) (by omega)]; omega
    (try simp -dsimp (disch := omega) only [↓pre, sp, sp2, wp_some, Int.cast_ofNat_Int, Nat.reduceAdd, Nat.reduceMul, Nat.reduceSub, Nat.reduceLeDiff, Nat.reduceEqDiff, Nat.reducePow, Int.reduceToNat, Int.reducePow, Int.reduceAdd, Int.reduceSub, Int.reduceMul, Int.reduceLT, Int.reduceLE, Int.reduceEq, Int.reduceNeg, ei])
    exact hjl (m - 1) _ _ (by omega) ⟨i6 + 1, _, rfl, by omega, by rw [splice_len (by simp; omega)]; exact hc6, k6.trans k7, o7⟩
  · have hqv : ¬ isBk vi q := fun hx => nvi q hx (.inr rfl)
    have g6 := g5.ke k6 hqv
    have L6 : On9 h6 p s5 lv vs (c + 1) := ⟨k6.w', L5.t.ke k6 fun x hm hx => nvi x hx (.inl hm), L5.I, L5.d, L5.wr, L5.c⟩
    have on6 : Oi h6 nv (nums9 seed k) := on5.ke k6 fun x hx hv => by
      have h1 := fi x hv
      have h2 := Ow.bk_lt L.w on hx
      omega
    have es := scan_spec H (n + 4) g6
    have el := laid_spec X (n + 2) g6
    have es' : kc ov (n + 5) N_retain_Journal_Scan [.ptr (some (q, 0))] h6 = some (.int .u64 ((sc + 1 : Nat) : Int), h6) := es
    have el' : kc ov (n + 5) N_retain_Journal_Laid [.ptr (some (q, 0))] h6 = some (.int .u64 ((j.laid + 1 : Nat) : Int), h6) := el
    have ew : IntKind.wrap .u64 ((j.laid : Int) + 1) = ((j.laid + 1 : Nat) : Int) := by rw [wr_u64 (by omega) (by omega)]; omega
    rw [h0, h4]
    (try simp -dsimp (disch := omega) only [↓pre, sp, sp2, wp_some, Int.cast_ofNat_Int, Nat.reduceAdd, Nat.reduceMul, Nat.reduceSub, Nat.reduceLeDiff, Nat.reduceEqDiff, Nat.reducePow, Int.reduceToNat, Int.reducePow, Int.reduceAdd, Int.reduceSub, Int.reduceMul, Int.reduceLT, Int.reduceLE, Int.reduceEq, Int.reduceNeg, ew, es', not_true_eq_false, decide_false])
    refine wp_kTh (fun r h' => h6 = h' ∧ r = .bool false) (fun jj hjj => ?_) ?_
    · (try simp -dsimp (disch := omega) only [↓pre, sp, sp2, wp_some, Int.cast_ofNat_Int, Nat.reduceAdd, Nat.reduceMul, Nat.reduceSub, Nat.reduceLeDiff, Nat.reduceEqDiff, Nat.reducePow, Int.reduceToNat, Int.reducePow, Int.reduceAdd, Int.reduceSub, Int.reduceMul, Int.reduceLT, Int.reduceLE, Int.reduceEq, Int.reduceNeg, el', not_true_eq_false, decide_false])
      exact hjj _ _ ⟨rfl, rfl⟩
    rintro _ _ ⟨rfl, rfl⟩
    (try simp -dsimp (disch := omega) only [↓pre, sp, sp2, wp_some, Int.cast_ofNat_Int, Nat.reduceAdd, Nat.reduceMul, Nat.reduceSub, Nat.reduceLeDiff, Nat.reduceEqDiff, Nat.reducePow, Int.reduceToNat, Int.reducePow, Int.reduceAdd, Int.reduceSub, Int.reduceMul, Int.reduceLT, Int.reduceLE, Int.reduceEq, Int.reduceNeg])
    refine hj _ _ ⟨q, s5, _, nv, nums9 seed k, true, sc + 1, j.laid + 1, c + 1, _, rfl, sa5.ro k6, L6, by omega, by rw [lf5, lf]; decide, low5 low (by omega), by omega, R5, g6, hq, rfl, by omega, by omega, fun _ => ⟨_, rfl⟩, (fun hf => by cases hf), on6, by omega, hn⟩
theorem play_open (X : Xs ov) (n : Nat) {len k rm i c : Nat} {cs : List AVal} {o : Option (Nat × Nat × List Int)} (sa : Sz h a 3 len cs .ro) (L : On9 h p s lv vs c) (hci : c ≤ i) (lf : s.left = -1) (low : LowS s) (hrm : roomM s = rm) (hk : k ≤ rm) (Hs : Has s k o) (hi : i < 80)
    {sc : Nat} (hsc : sc ≤ i) {laid : Bool} {lastV : AVal} {lastL : List Int} (h1 : laid = true → ∃ N, o = some (N, sc, lastL)) (h2 : laid = false → o = none) (ol : Oi h lastV lastL) (hll : lastL.length ≤ 4096) (hlv : ∀ x, isBk lastV x → ¬ Mine p lv vs x)
    {l44 : List AVal} (g1 : gd l44 1 = lastV) (g2 : gd l44 2 = .bool laid) (g3 : gd l44 3 = .int .u64 sc)
    {j51 : List AVal → AH → Ans} (hj : ∀ y h', PlayI h' a len cs p lv vs rm k (i + 1) y → Wp (j51 y h') fun r h' => r = .bool true) :
    Wp (ke (kc ov (n + 5) N_retain_Open [.ptr (some (p, 0)), .int .i64 k] h) fun v260 h39 =>
  kq (some v260) <| fun v261 =>
  kq (aExtract v261 0) <| fun v262 =>
  kq (aExtract v261 1) <| fun v263 =>
  kq (aExtract v261 2) <| fun v264 =>
  kq (aExtract v261 3) <| fun v265 =>
  kq (some v262) <| fun v266 =>
  kq (some v263) <| fun v267 =>
  kq (some v264) <| fun v268 =>
  kq (some v265) <| fun v269 =>
  kq (some v269) <| fun v270 =>
  kq (rBin .neq .no true v270 (.int .i64 0)) <| fun v271 =>
  kq (some v271) <| fun v272 =>
  kth (fun v302 h42 =>
  kIf v302 (
  kq (some (.bool false)) <| fun v303 =>
  some (v303, h42)) (
  kq (some (gd l44 2)) <| fun v304 =>
  kq (some v304) <| fun v305 =>
  kth (fun v313 h45 =>
  kIf v313 (
  kq (some (.bool false)) <| fun v314 =>
  some (v314, h45)) (
  kq (some v266) <| fun v315 =>
  kq (some v315) <| fun v316 =>
  kq (some (.int .u64 0)) <| fun v317 =>
  j51 [v316, (gd l44 1), (gd l44 2), (gd l44 3), v317] h45)) <| fun j306 =>
  kgq v305 true (fun k => kq (some v266) k) <| fun v307 =>
  kgh v305 true h42 (fun k => ke (kc ov (n + 5) N_retain_Journal_Scan [v307] h42) <| fun v308 h43 =>
  k v308 h43) <| fun v309 h44 =>
  kgq v305 true (fun k => kq (some (gd l44 3)) k) <| fun v310 =>
  kgq v305 true (fun k => kq (rBin .neq .no false v309 v310) k) <| fun v311 =>
  kq (rPick v305 v311 (.bool false)) <| fun v312 =>
  j306 v312 h44)) <| fun j273 =>
  kgq v272 false (fun k => kq (some v266) k) <| fun v274 =>
  kgq v272 false (fun k => kq (rBin .eql .ptr true v274 (.ptr none)) k) <| fun v275 =>
  kq (rPick v272 (.bool true) v275) <| fun v276 =>
  kq (some v276) <| fun v277 =>
  kgq v277 false (fun k => kq (some (gd l44 2)) k) <| fun v278 =>
  kgq v277 false (fun k => kq (some v268) k) <| fun v279 =>
  kgq v277 false (fun k => kq (rBin .eql .no true v279 (.int .i64 1)) k) <| fun v280 =>
  kgq v277 false (fun k => kq (rBin .neq .bool false v278 v280) k) <| fun v281 =>
  kq (rPick v277 (.bool true) v281) <| fun v282 =>
  kq (some v282) <| fun v283 =>
  kgq v283 false (fun k => kq (some (gd l44 2)) k) <| fun v284 =>
  kgq v283 false (fun k => kq (some v284) k) <| fun v285 =>
  kgq v285 true (fun k => kq (some v267) k) <| fun v286 =>
  kgq v285 true (fun k => kq (some (gd l44 1)) k) <| fun v287 =>
  kgh v285 true h39 (fun k => ke (kc ov (n + 5) N_runghelp_Nums [v286, v287] h39) <| fun v288 h40 =>
  k v288 h40) <| fun v289 h41 =>
  kgq v285 true (fun k => kq (aUn .not v289) k) <| fun v290 =>
  kgq v283 false (fun k => kq (rPick v285 v290 (.bool false)) k) <| fun v291 =>
  kq (rPick v283 (.bool true) v291) <| fun v292 =>
  kq (some v292) <| fun v293 =>
  kgq v293 false (fun k => kq (some (gd l44 2)) k) <| fun v294 =>
  kgq v293 false (fun k => kq (aUn .not v294) k) <| fun v295 =>
  kgq v293 false (fun k => kq (some v295) k) <| fun v296 =>
  kgq v296 true (fun k => kq (some v267) k) <| fun v297 =>
  kgq v296 true (fun k => kq (rLen v297) k) <| fun v298 =>
  kgq v296 true (fun k => kq (rBin .neq .no true v298 (.int .i64 0)) k) <| fun v299 =>
  kgq v293 false (fun k => kq (rPick v296 v299 (.bool false)) k) <| fun v300 =>
  kq (rPick v293 (.bool true) v300) <| fun v301 =>
  j273 v301 h41) fun r h' => r = .bool true := by
  have H := X.p
  have hbb : ∀ b : Bool, (!(b == b)) = false := by decide
  rw [g1, g2, g3]
  cases laid with
  | true =>
    obtain ⟨N, rfl⟩ := h1 rfl
    refine Wp.bind (openS H n L (k := k) (by omega) Hs) fun v6 h6 ⟨k6, q6, l6, j6, e6, gj6, hq6, o6, R6, hj6, hsc6⟩ => ?_
    subst e6
    have en := nums_spec H (n + 4) (Ow.rd o6) (Ow.rd (ol.kp k6)) (by omega)
    (try simp -dsimp (disch := omega) only [↓pre, sp, sp2, wp_some, Int.cast_ofNat_Int, Nat.reduceAdd, Nat.reduceMul, Nat.reduceSub, Nat.reduceLeDiff, Nat.reduceEqDiff, Nat.reducePow, Int.reduceToNat, Int.reducePow, Int.reduceAdd, Int.reduceSub, Int.reduceMul, Int.reduceLT, Int.reduceLE, Int.reduceEq, Int.reduceNeg, decide_true])
    refine wp_kTh (fun r h' => h6 = h' ∧ r = .bool false) (fun jj hjj => ?_) ?_
    · (try simp -dsimp (disch := omega) only [↓pre, sp, sp2, wp_some, Int.cast_ofNat_Int, Nat.reduceAdd, Nat.reduceMul, Nat.reduceSub, Nat.reduceLeDiff, Nat.reduceEqDiff, Nat.reducePow, Int.reduceToNat, Int.reducePow, Int.reduceAdd, Int.reduceSub, Int.reduceMul, Int.reduceLT, Int.reduceLE, Int.reduceEq, Int.reduceNeg, decide_true, hbb, beq_self_eq_true, Bool.not_true, en])
      exact hjj _ _ ⟨rfl, rfl⟩
    rintro _ _ ⟨rfl, rfl⟩
    have es := scan_spec H (n + 4) gj6
    rw [hsc6] at es
    (try simp -dsimp (disch := omega) only [↓pre, sp, sp2, wp_some, Int.cast_ofNat_Int, Nat.reduceAdd, Nat.reduceMul, Nat.reduceSub, Nat.reduceLeDiff, Nat.reduceEqDiff, Nat.reducePow, Int.reduceToNat, Int.reducePow, Int.reduceAdd, Int.reduceSub, Int.reduceMul, Int.reduceLT, Int.reduceLE, Int.reduceEq, Int.reduceNeg])
    refine wp_kTh (fun r h' => h6 = h' ∧ r = .bool false) (fun jj hjj => ?_) ?_
    · (try simp -dsimp (disch := omega) only [↓pre, sp, sp2, wp_some, Int.cast_ofNat_Int, Nat.reduceAdd, Nat.reduceMul, Nat.reduceSub, Nat.reduceLeDiff, Nat.reduceEqDiff, Nat.reducePow, Int.reduceToNat, Int.reducePow, Int.reduceAdd, Int.reduceSub, Int.reduceMul, Int.reduceLT, Int.reduceLE, Int.reduceEq, Int.reduceNeg, es, not_true_eq_false, decide_false])
      exact hjj _ _ ⟨rfl, rfl⟩
    rintro _ _ ⟨rfl, rfl⟩
    (try simp -dsimp (disch := omega) only [↓pre, sp, sp2, wp_some, Int.cast_ofNat_Int, Nat.reduceAdd, Nat.reduceMul, Nat.reduceSub, Nat.reduceLeDiff, Nat.reduceEqDiff, Nat.reducePow, Int.reduceToNat, Int.reducePow, Int.reduceAdd, Int.reduceSub, Int.reduceMul, Int.reduceLT, Int.reduceLE, Int.reduceEq, Int.reduceNeg])
    refine hj _ _ ⟨q6, s, j6, lastV, lastL, true, sc, 0, c, _, rfl, sa.kp k6, L.kp k6, by omega, lf, low, hrm, R6, gj6, fun hm => by have := L.t.lt L.w hm; omega, hj6, by omega, by omega, fun _ => ⟨N, rfl⟩, (fun hf => by cases hf), ol.kp k6, hll, fun x hx => ⟨hlv x hx, fun e => by have := Ow.bk_lt L.w ol hx; omega⟩⟩
  | false =>
    obtain rfl := h2 rfl
    refine Wp.bind (openE H n L (k := k) (by omega) Hs) fun v6 h6 ⟨k6, q6, l6, j6, e6, gj6, hq6, o6, R6, hj6⟩ => ?_
    subst e6
    have z01 : ((0 : Int) = 1) = False := by simp
    have z00 : ((([] : List Int).length : Nat) : Int) = 0 := rfl
    (try simp -dsimp (disch := omega) only [↓pre, sp, sp2, wp_some, Int.cast_ofNat_Int, Nat.reduceAdd, Nat.reduceMul, Nat.reduceSub, Nat.reduceLeDiff, Nat.reduceEqDiff, Nat.reducePow, Int.reduceToNat, Int.reducePow, Int.reduceAdd, Int.reduceSub, Int.reduceMul, Int.reduceLT, Int.reduceLE, Int.reduceEq, Int.reduceNeg, decide_false])
    refine wp_kTh (fun r h' => h6 = h' ∧ r = .bool false) (fun jj hjj => ?_) ?_
    · (try simp -dsimp (disch := omega) only [↓pre, sp, sp2, wp_some, Int.cast_ofNat_Int, Nat.reduceAdd, Nat.reduceMul, Nat.reduceSub, Nat.reduceLeDiff, Nat.reduceEqDiff, Nat.reducePow, Int.reduceToNat, Int.reducePow, Int.reduceAdd, Int.reduceSub, Int.reduceMul, Int.reduceLT, Int.reduceLE, Int.reduceEq, Int.reduceNeg, z01, decide_false, hbb, beq_self_eq_true, Bool.not_true, Bool.not_false, (Ow.rd o6).len, z00, not_true_eq_false])
      exact hjj _ _ ⟨rfl, rfl⟩
    rintro _ _ ⟨rfl, rfl⟩
    (try simp -dsimp (disch := omega) only [↓pre, sp, sp2, wp_some, Int.cast_ofNat_Int, Nat.reduceAdd, Nat.reduceMul, Nat.reduceSub, Nat.reduceLeDiff, Nat.reduceEqDiff, Nat.reducePow, Int.reduceToNat, Int.reducePow, Int.reduceAdd, Int.reduceSub, Int.reduceMul, Int.reduceLT, Int.reduceLE, Int.reduceEq, Int.reduceNeg])
    refine wp_kTh (fun r h' => h6 = h' ∧ r = .bool false) (fun jj hjj => ?_) ?_
    · (try simp -dsimp (disch := omega) only [↓pre, sp, sp2, wp_some, Int.cast_ofNat_Int, Nat.reduceAdd, Nat.reduceMul, Nat.reduceSub, Nat.reduceLeDiff, Nat.reduceEqDiff, Nat.reducePow, Int.reduceToNat, Int.reducePow, Int.reduceAdd, Int.reduceSub, Int.reduceMul, Int.reduceLT, Int.reduceLE, Int.reduceEq, Int.reduceNeg])
      exact hjj _ _ ⟨rfl, rfl⟩
    rintro _ _ ⟨rfl, rfl⟩
    (try simp -dsimp (disch := omega) only [↓pre, sp, sp2, wp_some, Int.cast_ofNat_Int, Nat.reduceAdd, Nat.reduceMul, Nat.reduceSub, Nat.reduceLeDiff, Nat.reduceEqDiff, Nat.reducePow, Int.reduceToNat, Int.reducePow, Int.reduceAdd, Int.reduceSub, Int.reduceMul, Int.reduceLT, Int.reduceLE, Int.reduceEq, Int.reduceNeg])
    refine hj _ _ ⟨q6, s, j6, lastV, lastL, false, sc, 0, c, _, rfl, sa.kp k6, L.kp k6, by omega, lf, low, hrm, R6, gj6, fun hm => by have := L.t.lt L.w hm; omega, hj6, by omega, by omega, (fun hf => by cases hf), fun _ => rfl, ol.kp k6, hll, fun x hx => ⟨hlv x hx, fun e => by have := Ow.bk_lt L.w ol hx; omega⟩⟩
theorem retainPlays (X : Xs ov) (K : ov N_runglaw9_known = some knownYes) (n : Nat) (w : Wf h) {size n0 : Int} {cs : List AVal} {l : List (Int × Int × Int)} (hs : IsI size) (hn : IsI n0) (sa : Sz h a 3 l.length cs .ro)
    (st : ∀ (i : Nat) x, l[i]? = some x → (cs.drop (i * 3)).take 3 = [.int .i64 x.1, .int .i64 x.2.1, .int .i64 x.2.2] ∧ IsI x.2.1 ∧ IsI x.2.2) :
    Wp (kc ov (n + 6) N_runglaw9_RetainPlays [.int .i64 size, .int .i64 n0, a] h) fun r h' => r = .bool true := by
  have H := X.p
  rw [C_runglaw9_RetainPlays H]; unfold F_runglaw9_RetainPlays
  (try simp -dsimp (disch := omega) only [↓pre, sp, sp2, wp_some, Int.cast_ofNat_Int, Nat.reduceAdd, Nat.reduceMul, Nat.reduceSub, Nat.reduceLeDiff, Nat.reduceEqDiff, Nat.reducePow, Int.reduceToNat, Int.reducePow, Int.reduceAdd, Int.reduceSub, Int.reduceMul, Int.reduceLT, Int.reduceLE, Int.reduceEq, Int.reduceNeg, known_spec K (n + 4), sa.len])
  refine wp_ite (fun c => ?_) (fun c => ?_)
  · (try simp -dsimp (disch := omega) only [↓pre, sp, sp2, wp_some, Int.cast_ofNat_Int, Nat.reduceAdd, Nat.reduceMul, Nat.reduceSub, Nat.reduceLeDiff, Nat.reduceEqDiff, Nat.reducePow, Int.reduceToNat, Int.reducePow, Int.reduceAdd, Int.reduceSub, Int.reduceMul, Int.reduceLT, Int.reduceLE, Int.reduceEq, Int.reduceNeg])
  (try simp -dsimp (disch := omega) only [↓pre, sp, sp2, wp_some, Int.cast_ofNat_Int, Nat.reduceAdd, Nat.reduceMul, Nat.reduceSub, Nat.reduceLeDiff, Nat.reduceEqDiff, Nat.reducePow, Int.reduceToNat, Int.reducePow, Int.reduceAdd, Int.reduceSub, Int.reduceMul, Int.reduceLT, Int.reduceLE, Int.reduceEq, Int.reduceNeg])
  refine Wp.bind (store_spec H (n + 3) w hs) fun v1 h1 ⟨k1, p, s, lv, vs, e1, L1, f1, low, E, lf, sz, sz2, b8⟩ => ?_
  subst e1
  have hrm := L1.room
  have hsz := L1.I.sz
  have er := room_spec H (n + 3) L1.t
  have em : 1 + min (roomM s : Int) 40 = ((1 + min (roomM s) 40 : Nat) : Int) := by omega
  (try simp -dsimp (disch := omega) only [↓pre, sp, sp2, wp_some, Int.cast_ofNat_Int, Nat.reduceAdd, Nat.reduceMul, Nat.reduceSub, Nat.reduceLeDiff, Nat.reduceEqDiff, Nat.reducePow, Int.reduceToNat, Int.reducePow, Int.reduceAdd, Int.reduceSub, Int.reduceMul, Int.reduceLT, Int.reduceLE, Int.reduceEq, Int.reduceNeg, er, em])
  obtain ⟨k, hk, ek, -⟩ := place_spec (h := h1) H (n + 4) hn (m := 1 + min (roomM s) 40) (by omega) (by omega)
  (try simp -dsimp (disch := omega) only [↓pre, sp, sp2, wp_some, Int.cast_ofNat_Int, Nat.reduceAdd, Nat.reduceMul, Nat.reduceSub, Nat.reduceLeDiff, Nat.reduceEqDiff, Nat.reducePow, Int.reduceToNat, Int.reducePow, Int.reduceAdd, Int.reduceSub, Int.reduceMul, Int.reduceLT, Int.reduceLE, Int.reduceEq, Int.reduceNeg, ek])
  refine Wp.bind (openE H n L1 (k := k) (by omega) E) fun v2 h2 ⟨k2, q, l2, j, e2, g2, hq2, o2, R2, hj2⟩ => ?_
  subst e2
  have L2 := L1.kp k2
  have hqm : ¬ Mine p lv vs q := fun hm => by have := L1.t.lt L1.w hm; omega
  (try simp -dsimp (disch := omega) only [↓pre, sp, sp2, wp_some, Int.cast_ofNat_Int, Nat.reduceAdd, Nat.reduceMul, Nat.reduceSub, Nat.reduceLeDiff, Nat.reduceEqDiff, Nat.reducePow, Int.reduceToNat, Int.reducePow, Int.reduceAdd, Int.reduceSub, Int.reduceMul, Int.reduceLT, Int.reduceLE, Int.reduceEq, Int.reduceNeg])
  refine wp_kT (.bool false) (fun jj hjj => ?_) ?_
  · (try simp -dsimp (disch := omega) only [↓pre, sp, sp2, wp_some, Int.cast_ofNat_Int, Nat.reduceAdd, Nat.reduceMul, Nat.reduceSub, Nat.reduceLeDiff, Nat.reduceEqDiff, Nat.reducePow, Int.reduceToNat, Int.reducePow, Int.reduceAdd, Int.reduceSub, Int.reduceMul, Int.reduceLT, Int.reduceLE, Int.reduceEq, Int.reduceNeg])
    exact hjj
  (try simp -dsimp (disch := omega) only [↓pre, sp, sp2, wp_some, Int.cast_ofNat_Int, Nat.reduceAdd, Nat.reduceMul, Nat.reduceSub, Nat.reduceLeDiff, Nat.reduceEqDiff, Nat.reducePow, Int.reduceToNat, Int.reducePow, Int.reduceAdd, Int.reduceSub, Int.reduceMul, Int.reduceLT, Int.reduceLE, Int.reduceEq, Int.reduceNeg])
  have hrs : roomM s ≤ 4096 := by omega
  refine wp_loop (fun m y h3 => ∃ (i : Nat) (y0 : List AVal), y = y0 ++ [.int .i64 i] ∧ i + m = l.length ∧ PlayI h3 a l.length cs p lv vs (roomM s) k i y0) l.length (by omega)
    ⟨0, [.ptr (some (q, 0)), .slice none 0 0, .bool false, .int .u64 0, .int .u64 0], rfl, by omega, q, s, j, .slice none 0 0, [], false, 0, 0, 0, none, rfl, sa.kp (k1.trans k2), L2, by omega, lf, low, rfl, R2, g2, hqm, hj2, by omega, by omega, (fun hf => by cases hf), fun _ => rfl, Ow.nil _ _ _ (by omega), by simp, fun x hx => hx.elim⟩ ?_
  rintro m _ h3 jl ⟨i, _, rfl, him, q3, s3, j3, lastV, lastL, laid, sc, ct, c3, o3, rfl, sa3, L3, hc3, lf3, low3, hr3, R3, g3, hq3, hl3, hct3, hsc3, ho1, ho2, ol3, hll3, hlv3⟩ hj
  unfold L_runglaw9_RetainPlays_1
  (try simp -dsimp (disch := omega) only [↓pre, sp, sp2, wp_some, Int.cast_ofNat_Int, Nat.reduceAdd, Nat.reduceMul, Nat.reduceSub, Nat.reduceLeDiff, Nat.reduceEqDiff, Nat.reducePow, Int.reduceToNat, Int.reducePow, Int.reduceAdd, Int.reduceSub, Int.reduceMul, Int.reduceLT, Int.reduceLE, Int.reduceEq, Int.reduceNeg, sa3.len])
  refine wp_ite (fun c4 => ?_) (fun c4 => ?_)
  · have hi : i < l.length := by omega
    obtain ⟨hst, ib, ic_⟩ := st i l[i] (List.getElem?_eq_getElem hi)
    generalize l[i].1 = xa at hst
    generalize l[i].2.1 = xb at hst ib
    generalize l[i].2.2 = xc at hst ic_
    refine wp_kJ (fun y h' => PlayI h' a l.length cs p lv vs (roomM s) k (i + 1) y) (fun j51 hj51 => ?_) ?_
    · have hcl : cs.length = l.length * 3 := sa3.clen
      have hla := sa3.ldA (j := i * 3) (m := 3) (by omega) (by omega)
      rw [hst] at hla
      (try simp -dsimp (disch := omega) only [↓pre, sp, sp2, wp_some, Int.cast_ofNat_Int, Nat.reduceAdd, Nat.reduceMul, Nat.reduceSub, Nat.reduceLeDiff, Nat.reduceEqDiff, Nat.reducePow, Int.reduceToNat, Int.reducePow, Int.reduceAdd, Int.reduceSub, Int.reduceMul, Int.reduceLT, Int.reduceLE, Int.reduceEq, Int.reduceNeg, sa3.at, hla])
      refine wp_box L3.w rfl rfl fun px h4 hpx k4 n4 g4 => ?_
      (try simp -dsimp (disch := omega) only [↓pre, sp, sp2, wp_some, Int.cast_ofNat_Int, Nat.reduceAdd, Nat.reduceMul, Nat.reduceSub, Nat.reduceLeDiff, Nat.reduceEqDiff, Nat.reducePow, Int.reduceToNat, Int.reducePow, Int.reduceAdd, Int.reduceSub, Int.reduceMul, Int.reduceLT, Int.reduceLE, Int.reduceEq, Int.reduceNeg])
      refine wp_store k4.w' g4 rfl rfl (by simp) rfl fun h5 k5 n5 g5 => ?_
      have g5' : h5.get px = some ⟨.row [.int .i64 xa, .int .i64 xb, .int .i64 xc] T_runglaw9_Step false, .rw, []⟩ := g5
      have k35 : Kp h3 h5 := Ke.new_p k4 k5 fun x hx => by omega
      (try simp -dsimp (disch := omega) only [↓pre, sp, sp2, wp_some, Int.cast_ofNat_Int, Nat.reduceAdd, Nat.reduceMul, Nat.reduceSub, Nat.reduceLeDiff, Nat.reduceEqDiff, Nat.reducePow, Int.reduceToNat, Int.reducePow, Int.reduceAdd, Int.reduceSub, Int.reduceMul, Int.reduceLT, Int.reduceLE, Int.reduceEq, Int.reduceNeg, row_rw g5'])
      generalize hseed : IntKind.wrap .i64 (xb + (i : Int)) = seed
      refine Wp.bind (numbers_spec H (n + 4) k5.w' (s := seed) (k := k) (by omega)) fun nv h6 ⟨k6, on, fn⟩ => ?_
      have k36 : Kp h3 h6 := k35.trans k6
      have g6 := k6.gt g5'
      have L6 := L3.kp k36
      have hnv : ∀ x, isBk nv x → ¬ Mine p lv vs x ∧ x ≠ q3 := fun x hx => by
        have h1 := fn x hx
        have h2 := k35.n
        refine ⟨fun hm => ?_, ?_⟩
        · have := L3.t.lt L3.w hm; omega
        · have := (L3.w).lt _ _ g3; omega
      (try simp -dsimp (disch := omega) only [↓pre, sp, sp2, wp_some, Int.cast_ofNat_Int, Nat.reduceAdd, Nat.reduceMul, Nat.reduceSub, Nat.reduceLeDiff, Nat.reduceEqDiff, Nat.reducePow, Int.reduceToNat, Int.reducePow, Int.reduceAdd, Int.reduceSub, Int.reduceMul, Int.reduceLT, Int.reduceLE, Int.reduceEq, Int.reduceNeg, row_rw g6])
      refine wp_kT (.bool (decide (0 ≤ xa ∧ xa ≤ 5))) (fun jj hjj => ?_) ?_
      · by_cases c5 : xa ≥ 0
        · have c5' : 0 ≤ xa := c5
          (try simp -dsimp (disch := omega) only [↓pre, sp, sp2, wp_some, Int.cast_ofNat_Int, Nat.reduceAdd, Nat.reduceMul, Nat.reduceSub, Nat.reduceLeDiff, Nat.reduceEqDiff, Nat.reducePow, Int.reduceToNat, Int.reducePow, Int.reduceAdd, Int.reduceSub, Int.reduceMul, Int.reduceLT, Int.reduceLE, Int.reduceEq, Int.reduceNeg, c5, decide_true, row_rw g6])
          simpa [c5'] using hjj
        · have c5' : ¬ 0 ≤ xa := c5
          (try simp -dsimp (disch := omega) only [↓pre, sp, sp2, wp_some, Int.cast_ofNat_Int, Nat.reduceAdd, Nat.reduceMul, Nat.reduceSub, Nat.reduceLeDiff, Nat.reduceEqDiff, Nat.reducePow, Int.reduceToNat, Int.reducePow, Int.reduceAdd, Int.reduceSub, Int.reduceMul, Int.reduceLT, Int.reduceLE, Int.reduceEq, Int.reduceNeg, c5, decide_false])
          simpa [c5'] using hjj
      (try simp -dsimp (disch := omega) only [↓pre, sp, sp2, wp_some, Int.cast_ofNat_Int, Nat.reduceAdd, Nat.reduceMul, Nat.reduceSub, Nat.reduceLeDiff, Nat.reduceEqDiff, Nat.reducePow, Int.reduceToNat, Int.reducePow, Int.reduceAdd, Int.reduceSub, Int.reduceMul, Int.reduceLT, Int.reduceLE, Int.reduceEq, Int.reduceNeg])
      refine wp_ite (fun c5 => ?_) (fun c5 => ?_)
      · (try simp -dsimp (disch := omega) only [↓pre, sp, sp2, wp_some, Int.cast_ofNat_Int, Nat.reduceAdd, Nat.reduceMul, Nat.reduceSub, Nat.reduceLeDiff, Nat.reduceEqDiff, Nat.reducePow, Int.reduceToNat, Int.reducePow, Int.reduceAdd, Int.reduceSub, Int.reduceMul, Int.reduceLT, Int.reduceLE, Int.reduceEq, Int.reduceNeg])
        exact play_lay X n (sa3.kp k36) L6 (by omega) lf3 low3 hr3 (by omega) R3 (g3.kp k36) hq3 (by omega) hsc3 (by omega) on hnv rfl (by rw [hl3]; rfl) hj51
      have gl0 : gd ([AVal.ptr (some (q3, 0)), lastV, AVal.bool laid, AVal.int IntKind.u64 ↑sc, AVal.int IntKind.u64 ↑ct] ++ [AVal.int IntKind.i64 ↑i]) 0 = AVal.ptr (some (q3, 0)) := rfl
      have gl1 : gd ([AVal.ptr (some (q3, 0)), lastV, AVal.bool laid, AVal.int IntKind.u64 ↑sc, AVal.int IntKind.u64 ↑ct] ++ [AVal.int IntKind.i64 ↑i]) 1 = lastV := rfl
      have gl2 : gd ([AVal.ptr (some (q3, 0)), lastV, AVal.bool laid, AVal.int IntKind.u64 ↑sc, AVal.int IntKind.u64 ↑ct] ++ [AVal.int IntKind.i64 ↑i]) 2 = AVal.bool laid := rfl
      have gl3 : gd ([AVal.ptr (some (q3, 0)), lastV, AVal.bool laid, AVal.int IntKind.u64 ↑sc, AVal.int IntKind.u64 ↑ct] ++ [AVal.int IntKind.i64 ↑i]) 3 = AVal.int .u64 sc := rfl
      have ol6 := ol3.kp k36
      have hlv6 : ∀ x, isBk lastV x → ¬ Mine p lv vs x := fun x hx => (hlv3 x hx).1
      (try simp -dsimp (disch := omega) only [↓pre, sp, sp2, wp_some, Int.cast_ofNat_Int, Nat.reduceAdd, Nat.reduceMul, Nat.reduceSub, Nat.reduceLeDiff, Nat.reduceEqDiff, Nat.reducePow, Int.reduceToNat, Int.reducePow, Int.reduceAdd, Int.reduceSub, Int.reduceMul, Int.reduceLT, Int.reduceLE, Int.reduceEq, Int.reduceNeg, row_rw g6])
      refine wp_ite (fun c6 => ?_) (fun c6 => ?_)
      · obtain ⟨ct6, hct6, ect6, -⟩ := place_spec (h := h6) H (n + 4) ib (m := 5) (by omega) (by omega)
        have ect6' : kc ov (n + 5) N_runghelp_Place [.int .i64 xb, .int .i64 5] h6 = some (.int .i64 ct6, h6) := ect6
        (try simp -dsimp (disch := omega) only [↓pre, sp, sp2, wp_some, Int.cast_ofNat_Int, Nat.reduceAdd, Nat.reduceMul, Nat.reduceSub, Nat.reduceLeDiff, Nat.reduceEqDiff, Nat.reducePow, Int.reduceToNat, Int.reducePow, Int.reduceAdd, Int.reduceSub, Int.reduceMul, Int.reduceLT, Int.reduceLE, Int.reduceEq, Int.reduceNeg, row_rw g6, ect6'])
        refine Wp.bind (cut9 H (n + 4) L6 ct6 (by omega) ic_ low3 R3) fun v7 h7 ⟨e7, k7, s7, L7, lf7, low7, R7, hr7, hs7⟩ => ?_
        subst e7
        have hpx2 : ¬ Mine p lv vs px := fun hm => by have := L3.t.lt L3.w hm; omega
        have g7 := k7.gt g6 hpx2
        have gj7 : Jr h7 q3 p j3 := (g3.kp k36).ke k7 hq3
        have on7 : Oi h7 nv (nums9 seed k) := on.ke k7 fun x hx => (hnv x hx).1
        have ol7 : Oi h7 lastV lastL := ol6.ke k7 hlv6
        have esc : ((sc : Int) + 1) = ((sc + 1 : Nat) : Int) := by omega
        have hl := nums9_len seed k
        (try simp -dsimp (disch := omega) only [↓pre, sp, sp2, wp_some, Int.cast_ofNat_Int, Nat.reduceAdd, Nat.reduceMul, Nat.reduceSub, Nat.reduceLeDiff, Nat.reduceEqDiff, Nat.reducePow, Int.reduceToNat, Int.reducePow, Int.reduceAdd, Int.reduceSub, Int.reduceMul, Int.reduceLT, Int.reduceLE, Int.reduceEq, Int.reduceNeg, row_rw g7, esc])
        refine Wp.bind (lay9c X (n + 1) L7 (k := k) (by omega) low7 R7 gj7 hq3 (by omega) (Ow.rd on7) hl (nums9_in _ _) (scan := sc + 1) (by omega) (by omega) (by omega)) fun v8 h8 ⟨k8, s8, now, e8, t8, I8, low8, wr8, hr8, hs8, hN⟩ => ?_
        subst e8
        have hS8 : ∀ {v : AVal}, (∀ x, isBk v x → ¬ Mine p lv vs x ∧ x ≠ q3) → ∀ x, isBk v x → ¬ (Mine p lv vs x ∨ x = q3) := by
          intro v hv x hx hm
          rcases hm with hm | hm
          · exact (hv x hx).1 hm
          · exact (hv x hx).2 hm
        have on8 : Oi h8 nv (nums9 seed k) := on7.ke k8 (hS8 hnv)
        have ol8 : Oi h8 lastV lastL := ol7.ke k8 (hS8 hlv3)
        have sa8 := ((sa3.kp k36).ro k7).ro k8
        (try simp -dsimp (disch := omega) only [↓pre, sp, sp2, wp_some, Int.cast_ofNat_Int, Nat.reduceAdd, Nat.reduceMul, Nat.reduceSub, Nat.reduceLeDiff, Nat.reduceEqDiff, Nat.reducePow, Int.reduceToNat, Int.reducePow, Int.reduceAdd, Int.reduceSub, Int.reduceMul, Int.reduceLT, Int.reduceLE, Int.reduceEq, Int.reduceNeg])
        refine wp_kT (.bool false) (fun jj hjj => ?_) ?_
        · have z820 : ((82 : Int) = 0) = False := by simp
          by_cases cn : now = some true
          · rw [if_pos cn]
            (try simp -dsimp (disch := omega) only [↓pre, sp, sp2, wp_some, Int.cast_ofNat_Int, Nat.reduceAdd, Nat.reduceMul, Nat.reduceSub, Nat.reduceLeDiff, Nat.reduceEqDiff, Nat.reducePow, Int.reduceToNat, Int.reducePow, Int.reduceAdd, Int.reduceSub, Int.reduceMul, Int.reduceLT, Int.reduceLE, Int.reduceEq, Int.reduceNeg, not_true_eq_false, decide_false])
            exact hjj
          · rw [if_neg cn]
            (try simp -dsimp (disch := omega) only [↓pre, sp, sp2, wp_some, Int.cast_ofNat_Int, Nat.reduceAdd, Nat.reduceMul, Nat.reduceSub, Nat.reduceLeDiff, Nat.reduceEqDiff, Nat.reducePow, Int.reduceToNat, Int.reducePow, Int.reduceAdd, Int.reduceSub, Int.reduceMul, Int.reduceLT, Int.reduceLE, Int.reduceEq, Int.reduceNeg, z820, not_false_eq_true, decide_true, not_true_eq_false, decide_false])
            exact hjj
        (try simp -dsimp (disch := omega) only [↓pre, sp, sp2, wp_some, Int.cast_ofNat_Int, Nat.reduceAdd, Nat.reduceMul, Nat.reduceSub, Nat.reduceLeDiff, Nat.reduceEqDiff, Nat.reducePow, Int.reduceToNat, Int.reducePow, Int.reduceAdd, Int.reduceSub, Int.reduceMul, Int.reduceLT, Int.reduceLE, Int.reduceEq, Int.reduceNeg])
        have hH : Has s8 k (match now with | some _ => some (j3.next, sc + 1, nums9 seed k) | none => o3) := by cases now <;> exact hN
        refine Wp.bind (power9 H (n + 4) k8.w' t8 I8 wr8 (by omega) low8 hH) fun v9 h9 ⟨e9, k9, s9, L9, lf9, low9, H9, hr9, hs9⟩ => ?_
        subst e9
        have on9 : Oi h9 nv (nums9 seed k) := on8.ke k9 fun x hx => (hnv x hx).1
        have ol9 : Oi h9 lastV lastL := ol8.ke k9 hlv6
        have sa9 := sa8.ro k9
        (try simp -dsimp (disch := omega) only [↓pre, sp, sp2, wp_some, Int.cast_ofNat_Int, Nat.reduceAdd, Nat.reduceMul, Nat.reduceSub, Nat.reduceLeDiff, Nat.reduceEqDiff, Nat.reducePow, Int.reduceToNat, Int.reducePow, Int.reduceAdd, Int.reduceSub, Int.reduceMul, Int.reduceLT, Int.reduceLE, Int.reduceEq, Int.reduceNeg])
        have z820 : ((82 : Int) = 0) = False := by simp
        have hnq : ∀ {v : AVal} {hh : AH} {l : List Int} (w : Wf hh), Oi hh v l → ∀ q, hh.n ≤ q → ∀ x, isBk v x → x ≠ q := by
          intro v hh l w o q hq x hx e
          have := Ow.bk_lt w o hx; omega
        have hrk : k ≤ roomM s9 := by omega
        have hqm9 : ∀ q, h9.n ≤ q → ¬ Mine p lv vs q := fun q hq hm => by have := L9.t.lt L9.w hm; omega
        cases now with
        | some gg =>
          refine Wp.bind (openS H n L9 (k := k) hrk H9) fun v10 h10 ⟨k10, q10, l10, j10, e10, gj10, hq10, o10, R10, hj10, hsc10⟩ => ?_
          subst e10
          have on10 := on9.kp k10
          have ol10 := ol9.kp k10
          have en1 := nums_spec H (n + 4) (Ow.rd o10) (Ow.rd on10) (by omega)
          have en2 := nums_spec H (n + 4) (Ow.rd o10) (Ow.rd ol10) (by omega)
          have es := scan_spec H (n + 4) gj10
          rw [hsc10] at es
          (try simp -dsimp (disch := omega) only [↓pre, sp, sp2, wp_some, Int.cast_ofNat_Int, Nat.reduceAdd, Nat.reduceMul, Nat.reduceSub, Nat.reduceLeDiff, Nat.reduceEqDiff, Nat.reducePow, Int.reduceToNat, Int.reducePow, Int.reduceAdd, Int.reduceSub, Int.reduceMul, Int.reduceLT, Int.reduceLE, Int.reduceEq, Int.reduceNeg])
          refine wp_kT (.bool false) (fun jj hjj => ?_) ?_
          · (try simp -dsimp (disch := omega) only [↓pre, sp, sp2, wp_some, Int.cast_ofNat_Int, Nat.reduceAdd, Nat.reduceMul, Nat.reduceSub, Nat.reduceLeDiff, Nat.reduceEqDiff, Nat.reducePow, Int.reduceToNat, Int.reducePow, Int.reduceAdd, Int.reduceSub, Int.reduceMul, Int.reduceLT, Int.reduceLE, Int.reduceEq, Int.reduceNeg])
            exact hjj
          (try simp -dsimp (disch := omega) only [↓pre, sp, sp2, wp_some, Int.cast_ofNat_Int, Nat.reduceAdd, Nat.reduceMul, Nat.reduceSub, Nat.reduceLeDiff, Nat.reduceEqDiff, Nat.reducePow, Int.reduceToNat, Int.reducePow, Int.reduceAdd, Int.reduceSub, Int.reduceMul, Int.reduceLT, Int.reduceLE, Int.reduceEq, Int.reduceNeg, decide_true])
          refine wp_kTh (fun r h' => h10 = h' ∧ r = .bool true) (fun jk hjk => ?_) ?_
          · (try simp -dsimp (disch := omega) only [↓pre, sp, sp2, wp_some, Int.cast_ofNat_Int, Nat.reduceAdd, Nat.reduceMul, Nat.reduceSub, Nat.reduceLeDiff, Nat.reduceEqDiff, Nat.reducePow, Int.reduceToNat, Int.reducePow, Int.reduceAdd, Int.reduceSub, Int.reduceMul, Int.reduceLT, Int.reduceLE, Int.reduceEq, Int.reduceNeg, decide_true, en1, es])
            exact hjk _ _ ⟨rfl, rfl⟩
          rintro _ _ ⟨rfl, rfl⟩
          rw [gl2, gl1]
          (try simp -dsimp (disch := omega) only [↓pre, sp, sp2, wp_some, Int.cast_ofNat_Int, Nat.reduceAdd, Nat.reduceMul, Nat.reduceSub, Nat.reduceLeDiff, Nat.reduceEqDiff, Nat.reducePow, Int.reduceToNat, Int.reducePow, Int.reduceAdd, Int.reduceSub, Int.reduceMul, Int.reduceLT, Int.reduceLE, Int.reduceEq, Int.reduceNeg])
          refine wp_kTh (fun r h' => h10 = h' ∧ ∃ b : Bool, r = .bool b) (fun jk hjk => ?_) ?_
          · cases laid with
            | false =>
              have z10 : ((1 : Int) = 0) = False := by simp
              (try simp -dsimp (disch := omega) only [↓pre, sp, sp2, wp_some, Int.cast_ofNat_Int, Nat.reduceAdd, Nat.reduceMul, Nat.reduceSub, Nat.reduceLeDiff, Nat.reduceEqDiff, Nat.reducePow, Int.reduceToNat, Int.reducePow, Int.reduceAdd, Int.reduceSub, Int.reduceMul, Int.reduceLT, Int.reduceLE, Int.reduceEq, Int.reduceNeg, Bool.not_false, z10, decide_false])
              exact hjk _ _ ⟨rfl, _, rfl⟩
            | true =>
              (try simp -dsimp (disch := omega) only [↓pre, sp, sp2, wp_some, Int.cast_ofNat_Int, Nat.reduceAdd, Nat.reduceMul, Nat.reduceSub, Nat.reduceLeDiff, Nat.reduceEqDiff, Nat.reducePow, Int.reduceToNat, Int.reducePow, Int.reduceAdd, Int.reduceSub, Int.reduceMul, Int.reduceLT, Int.reduceLE, Int.reduceEq, Int.reduceNeg, decide_true, en2])
              cases hd : decide (nums9 seed k = lastL)
              · (try simp -dsimp (disch := omega) only [↓pre, sp, sp2, wp_some, Int.cast_ofNat_Int, Nat.reduceAdd, Nat.reduceMul, Nat.reduceSub, Nat.reduceLeDiff, Nat.reduceEqDiff, Nat.reducePow, Int.reduceToNat, Int.reducePow, Int.reduceAdd, Int.reduceSub, Int.reduceMul, Int.reduceLT, Int.reduceLE, Int.reduceEq, Int.reduceNeg, Bool.not_true])
                exact hjk _ _ ⟨rfl, _, rfl⟩
              · (try simp -dsimp (disch := omega) only [↓pre, sp, sp2, wp_some, Int.cast_ofNat_Int, Nat.reduceAdd, Nat.reduceMul, Nat.reduceSub, Nat.reduceLeDiff, Nat.reduceEqDiff, Nat.reducePow, Int.reduceToNat, Int.reducePow, Int.reduceAdd, Int.reduceSub, Int.reduceMul, Int.reduceLT, Int.reduceLE, Int.reduceEq, Int.reduceNeg])
                exact hjk _ _ ⟨rfl, _, rfl⟩
          rintro _ _ ⟨rfl, b, rfl⟩
          (try simp -dsimp (disch := omega) only [↓pre, sp, sp2, wp_some, Int.cast_ofNat_Int, Nat.reduceAdd, Nat.reduceMul, Nat.reduceSub, Nat.reduceLeDiff, Nat.reduceEqDiff, Nat.reducePow, Int.reduceToNat, Int.reducePow, Int.reduceAdd, Int.reduceSub, Int.reduceMul, Int.reduceLT, Int.reduceLE, Int.reduceEq, Int.reduceNeg])
          refine wp_kT (.bool false) (fun jk hjk => ?_) ?_
          · cases gg
            · (try simp -dsimp (disch := omega) only [↓pre, sp, sp2, wp_some, Int.cast_ofNat_Int, Nat.reduceAdd, Nat.reduceMul, Nat.reduceSub, Nat.reduceLeDiff, Nat.reduceEqDiff, Nat.reducePow, Int.reduceToNat, Int.reducePow, Int.reduceAdd, Int.reduceSub, Int.reduceMul, Int.reduceLT, Int.reduceLE, Int.reduceEq, Int.reduceNeg, show (if some false = some true then (0 : Int) else 82) = 82 from rfl, z820, decide_false, Bool.not_true])
              exact hjk
            · (try simp -dsimp (disch := omega) only [↓pre, sp, sp2, wp_some, Int.cast_ofNat_Int, Nat.reduceAdd, Nat.reduceMul, Nat.reduceSub, Nat.reduceLeDiff, Nat.reduceEqDiff, Nat.reducePow, Int.reduceToNat, Int.reducePow, Int.reduceAdd, Int.reduceSub, Int.reduceMul, Int.reduceLT, Int.reduceLE, Int.reduceEq, Int.reduceNeg, show (if some true = some true then (0 : Int) else 82) = 0 from rfl, decide_true, Bool.not_true])
              exact hjk
          (try simp -dsimp (disch := omega) only [↓pre, sp, sp2, wp_some, Int.cast_ofNat_Int, Nat.reduceAdd, Nat.reduceMul, Nat.reduceSub, Nat.reduceLeDiff, Nat.reduceEqDiff, Nat.reducePow, Int.reduceToNat, Int.reducePow, Int.reduceAdd, Int.reduceSub, Int.reduceMul, Int.reduceLT, Int.reduceLE, Int.reduceEq, Int.reduceNeg])
          refine wp_kJ (fun y h' => h10 = h' ∧ y = [nv, .bool true, .int .u64 ((sc + 1 : Nat) : Int)]) (fun jk hjk => ?_) ?_
          · (try simp -dsimp (disch := omega) only [↓pre, sp, sp2, wp_some, Int.cast_ofNat_Int, Nat.reduceAdd, Nat.reduceMul, Nat.reduceSub, Nat.reduceLeDiff, Nat.reduceEqDiff, Nat.reducePow, Int.reduceToNat, Int.reducePow, Int.reduceAdd, Int.reduceSub, Int.reduceMul, Int.reduceLT, Int.reduceLE, Int.reduceEq, Int.reduceNeg])
            exact hjk _ _ ⟨rfl, rfl⟩
          rintro _ _ ⟨rfl, rfl⟩
          (try simp -dsimp (disch := omega) only [↓pre, sp, sp2, wp_some, Int.cast_ofNat_Int, Nat.reduceAdd, Nat.reduceMul, Nat.reduceSub, Nat.reduceLeDiff, Nat.reduceEqDiff, Nat.reducePow, Int.reduceToNat, Int.reducePow, Int.reduceAdd, Int.reduceSub, Int.reduceMul, Int.reduceLT, Int.reduceLE, Int.reduceEq, Int.reduceNeg])
          refine hj51 _ _ ⟨q10, s9, j10, nv, nums9 seed k, true, sc + 1, 0, _, _, rfl, sa9.kp k10, L9.kp k10, by omega, lf9, low9, by omega, R10, gj10, hqm9 _ hq10, hj10, by omega, by omega, fun _ => ⟨_, rfl⟩, (fun hf => by cases hf), on10, by omega, fun x hx => ⟨(hnv x hx).1, hnq L9.w on9 _ hq10 x hx⟩⟩
        | none =>
          have e82 : (if (none : Option Bool) = some true then (0 : Int) else 82) = 82 := rfl
          rw [e82]
          cases laid with
          | true =>
            obtain ⟨N3, rfl⟩ := ho1 rfl
            refine Wp.bind (openS H n L9 (k := k) hrk H9) fun v10 h10 ⟨k10, q10, l10, j10, e10, gj10, hq10, o10, R10, hj10, hsc10⟩ => ?_
            subst e10
            have on10 := on9.kp k10
            have ol10 := ol9.kp k10
            have en1 := nums_spec H (n + 4) (Ow.rd o10) (Ow.rd on10) (by omega)
            have en2 := nums_spec H (n + 4) (Ow.rd o10) (Ow.rd ol10) (by omega)
            have es := scan_spec H (n + 4) gj10
            rw [hsc10] at es
            (try simp -dsimp (disch := omega) only [↓pre, sp, sp2, wp_some, Int.cast_ofNat_Int, Nat.reduceAdd, Nat.reduceMul, Nat.reduceSub, Nat.reduceLeDiff, Nat.reduceEqDiff, Nat.reducePow, Int.reduceToNat, Int.reducePow, Int.reduceAdd, Int.reduceSub, Int.reduceMul, Int.reduceLT, Int.reduceLE, Int.reduceEq, Int.reduceNeg])
            refine wp_kT (.bool false) (fun jj hjj => ?_) ?_
            · (try simp -dsimp (disch := omega) only [↓pre, sp, sp2, wp_some, Int.cast_ofNat_Int, Nat.reduceAdd, Nat.reduceMul, Nat.reduceSub, Nat.reduceLeDiff, Nat.reduceEqDiff, Nat.reducePow, Int.reduceToNat, Int.reducePow, Int.reduceAdd, Int.reduceSub, Int.reduceMul, Int.reduceLT, Int.reduceLE, Int.reduceEq, Int.reduceNeg])
              exact hjj
            (try simp -dsimp (disch := omega) only [↓pre, sp, sp2, wp_some, Int.cast_ofNat_Int, Nat.reduceAdd, Nat.reduceMul, Nat.reduceSub, Nat.reduceLeDiff, Nat.reduceEqDiff, Nat.reducePow, Int.reduceToNat, Int.reducePow, Int.reduceAdd, Int.reduceSub, Int.reduceMul, Int.reduceLT, Int.reduceLE, Int.reduceEq, Int.reduceNeg, decide_true])
            refine wp_kTh (fun r h' => h10 = h' ∧ r = .bool false) (fun jk hjk => ?_) ?_
            · (try simp -dsimp (disch := omega) only [↓pre, sp, sp2, wp_some, Int.cast_ofNat_Int, Nat.reduceAdd, Nat.reduceMul, Nat.reduceSub, Nat.reduceLeDiff, Nat.reduceEqDiff, Nat.reducePow, Int.reduceToNat, Int.reducePow, Int.reduceAdd, Int.reduceSub, Int.reduceMul, Int.reduceLT, Int.reduceLE, Int.reduceEq, Int.reduceNeg, decide_true, en1])
              cases hd : decide (lastL = nums9 seed k)
              · (try simp -dsimp (disch := omega) only [↓pre, sp, sp2, wp_some, Int.cast_ofNat_Int, Nat.reduceAdd, Nat.reduceMul, Nat.reduceSub, Nat.reduceLeDiff, Nat.reduceEqDiff, Nat.reducePow, Int.reduceToNat, Int.reducePow, Int.reduceAdd, Int.reduceSub, Int.reduceMul, Int.reduceLT, Int.reduceLE, Int.reduceEq, Int.reduceNeg])
                exact hjk _ _ ⟨rfl, rfl⟩
              · have ne : ((sc : Int) = ((sc + 1 : Nat) : Int)) = False := eq_false (by omega)
                (try simp -dsimp (disch := omega) only [↓pre, sp, sp2, wp_some, Int.cast_ofNat_Int, Nat.reduceAdd, Nat.reduceMul, Nat.reduceSub, Nat.reduceLeDiff, Nat.reduceEqDiff, Nat.reducePow, Int.reduceToNat, Int.reducePow, Int.reduceAdd, Int.reduceSub, Int.reduceMul, Int.reduceLT, Int.reduceLE, Int.reduceEq, Int.reduceNeg, es, ne, decide_false])
                exact hjk _ _ ⟨rfl, rfl⟩
            rintro _ _ ⟨rfl, rfl⟩
            rw [gl2, gl1]
            (try simp -dsimp (disch := omega) only [↓pre, sp, sp2, wp_some, Int.cast_ofNat_Int, Nat.reduceAdd, Nat.reduceMul, Nat.reduceSub, Nat.reduceLeDiff, Nat.reduceEqDiff, Nat.reducePow, Int.reduceToNat, Int.reducePow, Int.reduceAdd, Int.reduceSub, Int.reduceMul, Int.reduceLT, Int.reduceLE, Int.reduceEq, Int.reduceNeg])
            refine wp_kTh (fun r h' => h10 = h' ∧ r = .bool true) (fun jk hjk => ?_) ?_
            · (try simp -dsimp (disch := omega) only [↓pre, sp, sp2, wp_some, Int.cast_ofNat_Int, Nat.reduceAdd, Nat.reduceMul, Nat.reduceSub, Nat.reduceLeDiff, Nat.reduceEqDiff, Nat.reducePow, Int.reduceToNat, Int.reducePow, Int.reduceAdd, Int.reduceSub, Int.reduceMul, Int.reduceLT, Int.reduceLE, Int.reduceEq, Int.reduceNeg, decide_true, en2])
              exact hjk _ _ ⟨rfl, rfl⟩
            rintro _ _ ⟨rfl, rfl⟩
            (try simp -dsimp (disch := omega) only [↓pre, sp, sp2, wp_some, Int.cast_ofNat_Int, Nat.reduceAdd, Nat.reduceMul, Nat.reduceSub, Nat.reduceLeDiff, Nat.reduceEqDiff, Nat.reducePow, Int.reduceToNat, Int.reducePow, Int.reduceAdd, Int.reduceSub, Int.reduceMul, Int.reduceLT, Int.reduceLE, Int.reduceEq, Int.reduceNeg])
            refine wp_kT (.bool false) (fun jk hjk => ?_) ?_
            · (try simp -dsimp (disch := omega) only [↓pre, sp, sp2, wp_some, Int.cast_ofNat_Int, Nat.reduceAdd, Nat.reduceMul, Nat.reduceSub, Nat.reduceLeDiff, Nat.reduceEqDiff, Nat.reducePow, Int.reduceToNat, Int.reducePow, Int.reduceAdd, Int.reduceSub, Int.reduceMul, Int.reduceLT, Int.reduceLE, Int.reduceEq, Int.reduceNeg, z820, decide_false, Bool.not_false, Bool.not_true])
              exact hjk
            (try simp -dsimp (disch := omega) only [↓pre, sp, sp2, wp_some, Int.cast_ofNat_Int, Nat.reduceAdd, Nat.reduceMul, Nat.reduceSub, Nat.reduceLeDiff, Nat.reduceEqDiff, Nat.reducePow, Int.reduceToNat, Int.reducePow, Int.reduceAdd, Int.reduceSub, Int.reduceMul, Int.reduceLT, Int.reduceLE, Int.reduceEq, Int.reduceNeg])
            refine wp_kJ (fun y h' => h10 = h' ∧ y = [lastV, .bool true, .int .u64 (sc : Int)]) (fun jk hjk => ?_) ?_
            · (try simp -dsimp (disch := omega) only [↓pre, sp, sp2, wp_some, Int.cast_ofNat_Int, Nat.reduceAdd, Nat.reduceMul, Nat.reduceSub, Nat.reduceLeDiff, Nat.reduceEqDiff, Nat.reducePow, Int.reduceToNat, Int.reducePow, Int.reduceAdd, Int.reduceSub, Int.reduceMul, Int.reduceLT, Int.reduceLE, Int.reduceEq, Int.reduceNeg])
              refine wp_kJ (fun y h' => h10 = h' ∧ y = [.int .u64 (sc : Int)]) (fun jl hjl => ?_) ?_
              · (try simp -dsimp (disch := omega) only [↓pre, sp, sp2, wp_some, Int.cast_ofNat_Int, Nat.reduceAdd, Nat.reduceMul, Nat.reduceSub, Nat.reduceLeDiff, Nat.reduceEqDiff, Nat.reducePow, Int.reduceToNat, Int.reducePow, Int.reduceAdd, Int.reduceSub, Int.reduceMul, Int.reduceLT, Int.reduceLE, Int.reduceEq, Int.reduceNeg, es])
                exact hjl _ _ ⟨rfl, rfl⟩
              · rintro _ _ ⟨rfl, rfl⟩
                exact hjk _ _ ⟨rfl, rfl⟩
            rintro _ _ ⟨rfl, rfl⟩
            (try simp -dsimp (disch := omega) only [↓pre, sp, sp2, wp_some, Int.cast_ofNat_Int, Nat.reduceAdd, Nat.reduceMul, Nat.reduceSub, Nat.reduceLeDiff, Nat.reduceEqDiff, Nat.reducePow, Int.reduceToNat, Int.reducePow, Int.reduceAdd, Int.reduceSub, Int.reduceMul, Int.reduceLT, Int.reduceLE, Int.reduceEq, Int.reduceNeg])
            refine hj51 _ _ ⟨q10, s9, j10, lastV, lastL, true, sc, 0, _, _, rfl, sa9.kp k10, L9.kp k10, by omega, lf9, low9, by omega, R10, gj10, hqm9 _ hq10, hj10, by omega, by omega, fun _ => ⟨_, rfl⟩, (fun hf => by cases hf), ol10, hll3, fun x hx => ⟨hlv6 x hx, hnq L9.w ol9 _ hq10 x hx⟩⟩
          | false =>
            obtain rfl := ho2 rfl
            refine Wp.bind (openE H n L9 (k := k) hrk H9) fun v10 h10 ⟨k10, q10, l10, j10, e10, gj10, hq10, o10, R10, hj10⟩ => ?_
            subst e10
            have ol10 := ol9.kp k10
            have z01 : ((0 : Int) = 1) = False := by simp
            have z00 : ((([] : List Int).length : Nat) : Int) = 0 := rfl
            (try simp -dsimp (disch := omega) only [↓pre, sp, sp2, wp_some, Int.cast_ofNat_Int, Nat.reduceAdd, Nat.reduceMul, Nat.reduceSub, Nat.reduceLeDiff, Nat.reduceEqDiff, Nat.reducePow, Int.reduceToNat, Int.reducePow, Int.reduceAdd, Int.reduceSub, Int.reduceMul, Int.reduceLT, Int.reduceLE, Int.reduceEq, Int.reduceNeg])
            refine wp_kT (.bool false) (fun jj hjj => ?_) ?_
            · (try simp -dsimp (disch := omega) only [↓pre, sp, sp2, wp_some, Int.cast_ofNat_Int, Nat.reduceAdd, Nat.reduceMul, Nat.reduceSub, Nat.reduceLeDiff, Nat.reduceEqDiff, Nat.reducePow, Int.reduceToNat, Int.reducePow, Int.reduceAdd, Int.reduceSub, Int.reduceMul, Int.reduceLT, Int.reduceLE, Int.reduceEq, Int.reduceNeg])
              exact hjj
            (try simp -dsimp (disch := omega) only [↓pre, sp, sp2, wp_some, Int.cast_ofNat_Int, Nat.reduceAdd, Nat.reduceMul, Nat.reduceSub, Nat.reduceLeDiff, Nat.reduceEqDiff, Nat.reducePow, Int.reduceToNat, Int.reducePow, Int.reduceAdd, Int.reduceSub, Int.reduceMul, Int.reduceLT, Int.reduceLE, Int.reduceEq, Int.reduceNeg, z01, decide_false])
            refine wp_kTh (fun r h' => h10 = h' ∧ r = .bool false) (fun jk hjk => ?_) ?_
            · (try simp -dsimp (disch := omega) only [↓pre, sp, sp2, wp_some, Int.cast_ofNat_Int, Nat.reduceAdd, Nat.reduceMul, Nat.reduceSub, Nat.reduceLeDiff, Nat.reduceEqDiff, Nat.reducePow, Int.reduceToNat, Int.reducePow, Int.reduceAdd, Int.reduceSub, Int.reduceMul, Int.reduceLT, Int.reduceLE, Int.reduceEq, Int.reduceNeg])
              exact hjk _ _ ⟨rfl, rfl⟩
            rintro _ _ ⟨rfl, rfl⟩
            rw [gl2]
            (try simp -dsimp (disch := omega) only [↓pre, sp, sp2, wp_some, Int.cast_ofNat_Int, Nat.reduceAdd, Nat.reduceMul, Nat.reduceSub, Nat.reduceLeDiff, Nat.reduceEqDiff, Nat.reducePow, Int.reduceToNat, Int.reducePow, Int.reduceAdd, Int.reduceSub, Int.reduceMul, Int.reduceLT, Int.reduceLE, Int.reduceEq, Int.reduceNeg])
            refine wp_kTh (fun r h' => h10 = h' ∧ r = .bool true) (fun jk hjk => ?_) ?_
            · (try simp -dsimp (disch := omega) only [↓pre, sp, sp2, wp_some, Int.cast_ofNat_Int, Nat.reduceAdd, Nat.reduceMul, Nat.reduceSub, Nat.reduceLeDiff, Nat.reduceEqDiff, Nat.reducePow, Int.reduceToNat, Int.reducePow, Int.reduceAdd, Int.reduceSub, Int.reduceMul, Int.reduceLT, Int.reduceLE, Int.reduceEq, Int.reduceNeg, Bool.not_false, decide_true, (Ow.rd o10).len, z00])
              exact hjk _ _ ⟨rfl, rfl⟩
            rintro _ _ ⟨rfl, rfl⟩
            (try simp -dsimp (disch := omega) only [↓pre, sp, sp2, wp_some, Int.cast_ofNat_Int, Nat.reduceAdd, Nat.reduceMul, Nat.reduceSub, Nat.reduceLeDiff, Nat.reduceEqDiff, Nat.reducePow, Int.reduceToNat, Int.reducePow, Int.reduceAdd, Int.reduceSub, Int.reduceMul, Int.reduceLT, Int.reduceLE, Int.reduceEq, Int.reduceNeg])
            refine wp_kT (.bool false) (fun jk hjk => ?_) ?_
            · (try simp -dsimp (disch := omega) only [↓pre, sp, sp2, wp_some, Int.cast_ofNat_Int, Nat.reduceAdd, Nat.reduceMul, Nat.reduceSub, Nat.reduceLeDiff, Nat.reduceEqDiff, Nat.reducePow, Int.reduceToNat, Int.reducePow, Int.reduceAdd, Int.reduceSub, Int.reduceMul, Int.reduceLT, Int.reduceLE, Int.reduceEq, Int.reduceNeg, z820, decide_false, Bool.not_false, Bool.not_true])
              exact hjk
            (try simp -dsimp (disch := omega) only [↓pre, sp, sp2, wp_some, Int.cast_ofNat_Int, Nat.reduceAdd, Nat.reduceMul, Nat.reduceSub, Nat.reduceLeDiff, Nat.reduceEqDiff, Nat.reducePow, Int.reduceToNat, Int.reducePow, Int.reduceAdd, Int.reduceSub, Int.reduceMul, Int.reduceLT, Int.reduceLE, Int.reduceEq, Int.reduceNeg])
            refine wp_kJ (fun y h' => h10 = h' ∧ y = [lastV, .bool false, .int .u64 0]) (fun jk hjk => ?_) ?_
            · (try simp -dsimp (disch := omega) only [↓pre, sp, sp2, wp_some, Int.cast_ofNat_Int, Nat.reduceAdd, Nat.reduceMul, Nat.reduceSub, Nat.reduceLeDiff, Nat.reduceEqDiff, Nat.reducePow, Int.reduceToNat, Int.reducePow, Int.reduceAdd, Int.reduceSub, Int.reduceMul, Int.reduceLT, Int.reduceLE, Int.reduceEq, Int.reduceNeg])
              refine wp_kJ (fun y h' => h10 = h' ∧ y = [.int .u64 0]) (fun jl hjl => ?_) ?_
              · (try simp -dsimp (disch := omega) only [↓pre, sp, sp2, wp_some, Int.cast_ofNat_Int, Nat.reduceAdd, Nat.reduceMul, Nat.reduceSub, Nat.reduceLeDiff, Nat.reduceEqDiff, Nat.reducePow, Int.reduceToNat, Int.reducePow, Int.reduceAdd, Int.reduceSub, Int.reduceMul, Int.reduceLT, Int.reduceLE, Int.reduceEq, Int.reduceNeg])
                exact hjl _ _ ⟨rfl, rfl⟩
              · rintro _ _ ⟨rfl, rfl⟩
                exact hjk _ _ ⟨rfl, rfl⟩
            rintro _ _ ⟨rfl, rfl⟩
            (try simp -dsimp (disch := omega) only [↓pre, sp, sp2, wp_some, Int.cast_ofNat_Int, Nat.reduceAdd, Nat.reduceMul, Nat.reduceSub, Nat.reduceLeDiff, Nat.reduceEqDiff, Nat.reducePow, Int.reduceToNat, Int.reducePow, Int.reduceAdd, Int.reduceSub, Int.reduceMul, Int.reduceLT, Int.reduceLE, Int.reduceEq, Int.reduceNeg])
            refine hj51 _ _ ⟨q10, s9, j10, lastV, lastL, false, 0, 0, _, _, rfl, sa9.kp k10, L9.kp k10, by omega, lf9, low9, by omega, R10, gj10, hqm9 _ hq10, hj10, by omega, by omega, (fun hf => by cases hf), fun _ => rfl, ol10, hll3, fun x hx => ⟨hlv6 x hx, hnq L9.w ol9 _ hq10 x hx⟩⟩
      (try simp -dsimp (disch := omega) only [↓pre, sp, sp2, wp_some, Int.cast_ofNat_Int, Nat.reduceAdd, Nat.reduceMul, Nat.reduceSub, Nat.reduceLeDiff, Nat.reduceEqDiff, Nat.reducePow, Int.reduceToNat, Int.reducePow, Int.reduceAdd, Int.reduceSub, Int.reduceMul, Int.reduceLT, Int.reduceLE, Int.reduceEq, Int.reduceNeg, row_rw g6])
      refine wp_ite (fun c7 => ?_) (fun c7 => ?_)
      · (try simp -dsimp (disch := omega) only [↓pre, sp, sp2, wp_some, Int.cast_ofNat_Int, Nat.reduceAdd, Nat.reduceMul, Nat.reduceSub, Nat.reduceLeDiff, Nat.reduceEqDiff, Nat.reducePow, Int.reduceToNat, Int.reducePow, Int.reduceAdd, Int.reduceSub, Int.reduceMul, Int.reduceLT, Int.reduceLE, Int.reduceEq, Int.reduceNeg])
        exact play_open X n (sa3.kp k36) L6 (by omega) lf3 low3 hr3 (by omega) R3.has (by omega) hsc3 ho1 ho2 ol6 hll3 hlv6 rfl rfl rfl hj51
      · refine hj51 _ _ ⟨q3, s3, j3, lastV, lastL, laid, sc, ct, c3, o3, rfl, sa3.kp k36, L6, by omega, lf3, low3, hr3, R3, g3.kp k36, hq3, hl3, by omega, by omega, ho1, ho2, ol6, hll3, hlv3⟩
    · rintro y h4 P4
      have ei : IntKind.wrap .i64 ((i : Int) + 1) = ((i + 1 : Nat) : Int) := by rw [wr_i64 (by omega) (by omega)]; omega
      obtain ⟨q4, s4, j4, lastV4, lastL4, laid4, sc4, ct4, c4', o4, rfl, P5⟩ := P4
      (try simp -dsimp (disch := omega) only [↓pre, sp, sp2, wp_some, Int.cast_ofNat_Int, Nat.reduceAdd, Nat.reduceMul, Nat.reduceSub, Nat.reduceLeDiff, Nat.reduceEqDiff, Nat.reducePow, Int.reduceToNat, Int.reducePow, Int.reduceAdd, Int.reduceSub, Int.reduceMul, Int.reduceLT, Int.reduceLE, Int.reduceEq, Int.reduceNeg, ei])
      exact hj (m - 1) _ _ (by omega) ⟨i + 1, _, rfl, by omega, q4, s4, j4, lastV4, lastL4, laid4, sc4, ct4, c4', o4, rfl, P5⟩
  · (try simp -dsimp (disch := omega) only [↓pre, sp, sp2, wp_some, Int.cast_ofNat_Int, Nat.reduceAdd, Nat.reduceMul, Nat.reduceSub, Nat.reduceLeDiff, Nat.reduceEqDiff, Nat.reducePow, Int.reduceToNat, Int.reducePow, Int.reduceAdd, Int.reduceSub, Int.reduceMul, Int.reduceLT, Int.reduceLE, Int.reduceEq, Int.reduceNeg])
end Go.Proofs.Ytbcpmbggidemdaa.AI
