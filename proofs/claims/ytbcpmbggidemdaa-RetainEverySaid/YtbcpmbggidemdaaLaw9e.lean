/- Chapter 9: RetainEvery. -/
import Derived.Test.YtbcpmbggidemdaaLaw9
namespace Go.Proofs.Ytbcpmbggidemdaa.AI
open Go
set_option linter.unusedSimpArgs false
set_option linter.unusedVariables false
variable {ov : AOver} {h : AH} {v a b : AVal} {md md' : AMode} {p q : Nat} {s : BSt} {lv : AVal} {vs : List AVal}

def elderO (el : Bool) (N : Nat) (a : List Int) : Option (Nat × Nat × List Int) := if el then some (N, 7, a) else none
theorem retainEvery (X : Xs ov) (K : ov N_runglaw9_known = some knownYes) (n : Nat) (w : Wf h) {size n0 first second step : Int} {elder : Bool} (hs : IsI size) (hn : IsI n0) (hst : IsI step) :
    Wp (kc ov (n + 6) N_runglaw9_RetainEvery [.int .i64 size, .int .i64 n0, .int .i64 first, .int .i64 second, .int .i64 step, .bool elder] h) fun r h' => r = .bool true := by
  have H := X.p
  rw [C_runglaw9_RetainEvery H]; unfold F_runglaw9_RetainEvery
  (try simp -dsimp (disch := omega) only [↓pre, sp, sp2, wp_some, Int.cast_ofNat_Int, Nat.reduceAdd, Nat.reduceMul, Nat.reduceSub, Nat.reduceLeDiff, Nat.reduceEqDiff, Nat.reducePow, Int.reduceToNat, Int.reducePow, Int.reduceAdd, Int.reduceSub, Int.reduceMul, Int.reduceLT, Int.reduceLE, Int.reduceEq, Int.reduceNeg, known_spec K (n + 4)])
  refine Wp.bind (store_spec H (n + 3) w hs) fun v1 h1 ⟨k1, p, s, lv, vs, e1, L1, f1, low, E, lf, sz, sz2, b8⟩ => ?_
  subst e1
  have hrm := L1.room
  have hsz := L1.I.sz
  have er := room_spec H (n + 3) L1.t
  have em : 1 + min (roomM s : Int) 30 = ((1 + min (roomM s) 30 : Nat) : Int) := by omega
  (try simp -dsimp (disch := omega) only [↓pre, sp, sp2, wp_some, Int.cast_ofNat_Int, Nat.reduceAdd, Nat.reduceMul, Nat.reduceSub, Nat.reduceLeDiff, Nat.reduceEqDiff, Nat.reducePow, Int.reduceToNat, Int.reducePow, Int.reduceAdd, Int.reduceSub, Int.reduceMul, Int.reduceLT, Int.reduceLE, Int.reduceEq, Int.reduceNeg, er, em])
  obtain ⟨k, hk, ek, -⟩ := place_spec (h := h1) H (n + 4) hn (m := 1 + min (roomM s) 30) (by omega) (by omega)
  obtain ⟨st, hst', est, -⟩ := place_spec (h := h1) H (n + 4) hst (m := 40) (by omega) (by omega)
  have est' : kc ov (n + 5) N_runghelp_Place [.int .i64 step, .int .i64 40] h1 = some (.int .i64 st, h1) := est
  (try simp -dsimp (disch := omega) only [↓pre, sp, sp2, wp_some, Int.cast_ofNat_Int, Nat.reduceAdd, Nat.reduceMul, Nat.reduceSub, Nat.reduceLeDiff, Nat.reduceEqDiff, Nat.reducePow, Int.reduceToNat, Int.reducePow, Int.reduceAdd, Int.reduceSub, Int.reduceMul, Int.reduceLT, Int.reduceLE, Int.reduceEq, Int.reduceNeg, ek, est'])
  refine Wp.bind (openE H n L1 (k := k) (by omega) E) fun v2 h2 ⟨k2, q, l2, j, e2, g2, hq2, o2, R2, hj2⟩ => ?_
  subst e2
  have L2 := L1.kp k2
  have hqm : ¬ Mine p lv vs q := fun hm => by have := L1.t.lt L1.w hm; omega
  (try simp -dsimp (disch := omega) only [↓pre, sp, sp2, wp_some, Int.cast_ofNat_Int, Nat.reduceAdd, Nat.reduceMul, Nat.reduceSub, Nat.reduceLeDiff, Nat.reduceEqDiff, Nat.reducePow, Int.reduceToNat, Int.reducePow, Int.reduceAdd, Int.reduceSub, Int.reduceMul, Int.reduceLT, Int.reduceLE, Int.reduceEq, Int.reduceNeg])
  refine wp_kT (.bool false) (fun jj hjj => ?_) ?_
  · (try simp -dsimp (disch := omega) only [↓pre, sp, sp2, wp_some, Int.cast_ofNat_Int, Nat.reduceAdd, Nat.reduceMul, Nat.reduceSub, Nat.reduceLeDiff, Nat.reduceEqDiff, Nat.reducePow, Int.reduceToNat, Int.reducePow, Int.reduceAdd, Int.reduceSub, Int.reduceMul, Int.reduceLT, Int.reduceLE, Int.reduceEq, Int.reduceNeg])
    exact hjj
  (try simp -dsimp (disch := omega) only [↓pre, sp, sp2, wp_some, Int.cast_ofNat_Int, Nat.reduceAdd, Nat.reduceMul, Nat.reduceSub, Nat.reduceLeDiff, Nat.reduceEqDiff, Nat.reducePow, Int.reduceToNat, Int.reducePow, Int.reduceAdd, Int.reduceSub, Int.reduceMul, Int.reduceLT, Int.reduceLE, Int.reduceEq, Int.reduceNeg])
  refine Wp.bind (numbers_spec H (n + 4) L2.w (s := first) (k := k) (by omega)) fun va h3 ⟨k3, oa, fa⟩ => ?_
  (try simp -dsimp (disch := omega) only [↓pre, sp, sp2, wp_some, Int.cast_ofNat_Int, Nat.reduceAdd, Nat.reduceMul, Nat.reduceSub, Nat.reduceLeDiff, Nat.reduceEqDiff, Nat.reducePow, Int.reduceToNat, Int.reducePow, Int.reduceAdd, Int.reduceSub, Int.reduceMul, Int.reduceLT, Int.reduceLE, Int.reduceEq, Int.reduceNeg])
  refine Wp.bind (numbers_spec H (n + 4) k3.w' (s := second) (k := k) (by omega)) fun vb h4 ⟨k4, ob, fb⟩ => ?_
  have L4 := (L2.kp k3).kp k4
  have oa4 := oa.kp k4
  (try simp -dsimp (disch := omega) only [↓pre, sp, sp2, wp_some, Int.cast_ofNat_Int, Nat.reduceAdd, Nat.reduceMul, Nat.reduceSub, Nat.reduceLeDiff, Nat.reduceEqDiff, Nat.reducePow, Int.reduceToNat, Int.reducePow, Int.reduceAdd, Int.reduceSub, Int.reduceMul, Int.reduceLT, Int.reduceLE, Int.reduceEq, Int.reduceNeg])
  refine wp_kTh (fun r h' => r = .bool false ∧ Oi h' va (nums9 first k) ∧ Oi h' vb (nums9 second k) ∧ ∃ s' c N, On9 h' p s' lv vs c ∧ c ≤ 1 ∧ s'.left = -1 ∧ LowS s' ∧ roomM s' = roomM s ∧ s'.size = s.size ∧ Has s' k (elderO elder N (nums9 first k))) (fun jj hjj => ?_) ?_
  · cases elder with
    | false =>
      (try simp -dsimp (disch := omega) only [↓pre, sp, sp2, wp_some, Int.cast_ofNat_Int, Nat.reduceAdd, Nat.reduceMul, Nat.reduceSub, Nat.reduceLeDiff, Nat.reduceEqDiff, Nat.reducePow, Int.reduceToNat, Int.reducePow, Int.reduceAdd, Int.reduceSub, Int.reduceMul, Int.reduceLT, Int.reduceLE, Int.reduceEq, Int.reduceNeg])
      exact hjj _ _ ⟨rfl, oa4, ob, s, 0, 0, L4, by omega, lf, low, rfl, rfl, E⟩
    | true =>
      (try simp -dsimp (disch := omega) only [↓pre, sp, sp2, wp_some, Int.cast_ofNat_Int, Nat.reduceAdd, Nat.reduceMul, Nat.reduceSub, Nat.reduceLeDiff, Nat.reduceEqDiff, Nat.reducePow, Int.reduceToNat, Int.reducePow, Int.reduceAdd, Int.reduceSub, Int.reduceMul, Int.reduceLT, Int.reduceLE, Int.reduceEq, Int.reduceNeg])
      refine Wp.bind (lay9 X (n + 1) L4 (k := k) (by omega) R2 ((g2.kp k3).kp k4) hqm (by omega) (Ow.rd oa4) (nums9_len _ _) (nums9_in _ _) (scan := 7) (by omega) (.inl lf) (by omega)) fun v5 h5 ⟨e5, k5, s5, L5, low5, hs5, lf5, hr5, R5, g5, hb5⟩ => ?_
      subst e5
      (try simp -dsimp (disch := omega) only [↓pre, sp, sp2, wp_some, Int.cast_ofNat_Int, Nat.reduceAdd, Nat.reduceMul, Nat.reduceSub, Nat.reduceLeDiff, Nat.reduceEqDiff, Nat.reducePow, Int.reduceToNat, Int.reducePow, Int.reduceAdd, Int.reduceSub, Int.reduceMul, Int.reduceLT, Int.reduceLE, Int.reduceEq, Int.reduceNeg])
      have hS : ∀ {v : AVal} {hh : AH} (w : Wf hh) {l : List Int}, Oi hh v l → (∀ i, isBk v i → h2.n ≤ i) → ∀ i, isBk v i → ¬ (Mine p lv vs i ∨ i = q) := by
        intro v hh w l o f i hi hm
        have h1 := f i hi
        have h2 : q < h2.n := (L2.w).lt _ _ g2
        rcases hm with hm | hm
        · have := L1.t.lt L1.w hm; have := k2.n; omega
        · omega
      refine hjj _ _ ⟨rfl, oa4.ke k5 (hS k4.w' oa4 fa), ob.ke k5 (hS k4.w' ob fun i hi => by have := fb i hi; have := k3.n; omega), s5, 1, j.next, L5, by omega, by rw [lf5, lf]; decide, low5 low (by omega), hr5, hs5, R5.has⟩
  rintro _ h5 ⟨rfl, oa5, ob5, s5, c5, N5, L5, hc5, lf5, low5, hr5, hs5, H5⟩
  (try simp -dsimp (disch := omega) only [↓pre, sp, sp2, wp_some, Int.cast_ofNat_Int, Nat.reduceAdd, Nat.reduceMul, Nat.reduceSub, Nat.reduceLeDiff, Nat.reduceEqDiff, Nat.reducePow, Int.reduceToNat, Int.reducePow, Int.reduceAdd, Int.reduceSub, Int.reduceMul, Int.reduceLT, Int.reduceLE, Int.reduceEq, Int.reduceNeg])
  have est2 : IntKind.wrap .i64 (3 + (st : Int)) = ((3 + st : Nat) : Int) := by rw [wr_i64 (by omega) (by omega)]; omega
  refine wp_loop (fun m y h6 => ∃ i : Nat, y = [.int .i64 i] ∧ i + m = 8 ∧ Kp h5 h6) 8 (by omega) ⟨0, rfl, by omega, Ke.refl L5.w⟩ ?_
  rintro m _ h6 jo ⟨wi, rfl, hwm, k6⟩ hjo
  unfold L_runglaw9_RetainEvery_1
  (try simp -dsimp (disch := omega) only [↓pre, sp, sp2, wp_some, Int.cast_ofNat_Int, Nat.reduceAdd, Nat.reduceMul, Nat.reduceSub, Nat.reduceLeDiff, Nat.reduceEqDiff, Nat.reducePow, Int.reduceToNat, Int.reducePow, Int.reduceAdd, Int.reduceSub, Int.reduceMul, Int.reduceLT, Int.reduceLE, Int.reduceEq, Int.reduceNeg])
  refine wp_ite (fun c => ?_) (fun c => ?_)
  · (try simp -dsimp (disch := omega) only [↓pre, sp, sp2, wp_some, Int.cast_ofNat_Int, Nat.reduceAdd, Nat.reduceMul, Nat.reduceSub, Nat.reduceLeDiff, Nat.reduceEqDiff, Nat.reducePow, Int.reduceToNat, Int.reducePow, Int.reduceAdd, Int.reduceSub, Int.reduceMul, Int.reduceLT, Int.reduceLE, Int.reduceEq, Int.reduceNeg])
    refine wp_loop (fun m y h7 => ∃ pp : Int, y = [.int .i64 pp] ∧ 0 ≤ pp ∧ pp ≤ 5000 ∧ m = (s.size + 1 - pp).toNat ∧ Kp h5 h7) (s.size + 1) (by omega) ⟨0, rfl, by omega, by omega, by omega, k6⟩ ?_
    rintro m2 _ h7 ji ⟨pp, rfl, hp0, hp1, hm2, k7⟩ hji
    unfold L_runglaw9_RetainEvery_0
    have L7 := L5.kp k7
    have es7 := size_spec H (n + 4) L7.t
    rw [hs5] at es7
    (try simp -dsimp (disch := omega) only [↓pre, sp, sp2, wp_some, Int.cast_ofNat_Int, Nat.reduceAdd, Nat.reduceMul, Nat.reduceSub, Nat.reduceLeDiff, Nat.reduceEqDiff, Nat.reducePow, Int.reduceToNat, Int.reducePow, Int.reduceAdd, Int.reduceSub, Int.reduceMul, Int.reduceLT, Int.reduceLE, Int.reduceEq, Int.reduceNeg, es7])
    refine wp_ite (fun c2 => ?_) (fun c2 => ?_)
    · (try simp -dsimp (disch := omega) only [↓pre, sp, sp2, wp_some, Int.cast_ofNat_Int, Nat.reduceAdd, Nat.reduceMul, Nat.reduceSub, Nat.reduceLeDiff, Nat.reduceEqDiff, Nat.reducePow, Int.reduceToNat, Int.reducePow, Int.reduceAdd, Int.reduceSub, Int.reduceMul, Int.reduceLT, Int.reduceLE, Int.reduceEq, Int.reduceNeg])
      refine Wp.bind (copy_store_spec H (n + 3) L7.w L7.t) fun v8 h8 ⟨k8, pc, lvc, vsc, e8, t8, f8⟩ => ?_
      subst e8
      have L8 : On9 h8 pc s5 lvc vsc c5 := ⟨k8.w', t8, L5.I, L5.d, L5.wr, L5.c⟩
      (try simp -dsimp (disch := omega) only [↓pre, sp, sp2, wp_some, Int.cast_ofNat_Int, Nat.reduceAdd, Nat.reduceMul, Nat.reduceSub, Nat.reduceLeDiff, Nat.reduceEqDiff, Nat.reducePow, Int.reduceToNat, Int.reducePow, Int.reduceAdd, Int.reduceSub, Int.reduceMul, Int.reduceLT, Int.reduceLE, Int.reduceEq, Int.reduceNeg])
      refine Wp.bind (open9 H n L8 (k := k) (by omega) H5) fun v9 h9 ⟨k9, q9, l9, j9, e9, g9, hq9, o9, R9, hj9⟩ => ?_
      subst e9
      have L9 := L8.kp k9
      have hqm9 : ¬ Mine pc lvc vsc q9 := fun hm => by have := L8.t.lt L8.w hm; omega
      (try simp -dsimp (disch := omega) only [↓pre, sp, sp2, wp_some, Int.cast_ofNat_Int, Nat.reduceAdd, Nat.reduceMul, Nat.reduceSub, Nat.reduceLeDiff, Nat.reduceEqDiff, Nat.reducePow, Int.reduceToNat, Int.reducePow, Int.reduceAdd, Int.reduceSub, Int.reduceMul, Int.reduceLT, Int.reduceLE, Int.reduceEq, Int.reduceNeg])
      refine Wp.bind (cut9 H (n + 4) L9 wi (by omega) (pr := pp) (by unfold IsI; omega) low5 R9) fun v10 h10 ⟨e10, k10, s10, L10, lf10, low10, R10, hr10, hs10⟩ => ?_
      subst e10
      (try simp -dsimp (disch := omega) only [↓pre, sp, sp2, wp_some, Int.cast_ofNat_Int, Nat.reduceAdd, Nat.reduceMul, Nat.reduceSub, Nat.reduceLeDiff, Nat.reduceEqDiff, Nat.reducePow, Int.reduceToNat, Int.reducePow, Int.reduceAdd, Int.reduceSub, Int.reduceMul, Int.reduceLT, Int.reduceLE, Int.reduceEq, Int.reduceNeg])
      have n57 : h5.n ≤ h7.n := k7.n
      have n78 : h7.n ≤ h8.n := k8.n
      have k79 : Kp h7 h9 := k8.trans k9
      have k710 : Kp h7 h10 := Ke.new_p k79 k10 fun i hi => f8 i hi
      have ob10 : Oi h10 vb (nums9 second k) := (ob5.kp k7).kp k710
      have g10 : Jr h10 q9 pc j9 := g9.ke k10 hqm9
      refine Wp.bind (lay9c X (n + 1) L10 (k := k) (by omega) low10 R10 g10 hqm9 (by omega) (Ow.rd ob10) (nums9_len _ _) (nums9_in _ _) (scan := 8) (by omega) (by omega) (by omega)) fun v11 h11 ⟨k11, s11, now, e11, t11, I11, low11, wr11, hr11, hs11, hN⟩ => ?_
      subst e11
      (try simp -dsimp (disch := omega) only [↓pre, sp, sp2, wp_some, Int.cast_ofNat_Int, Nat.reduceAdd, Nat.reduceMul, Nat.reduceSub, Nat.reduceLeDiff, Nat.reduceEqDiff, Nat.reducePow, Int.reduceToNat, Int.reducePow, Int.reduceAdd, Int.reduceSub, Int.reduceMul, Int.reduceLT, Int.reduceLE, Int.reduceEq, Int.reduceNeg])
      have k711 : Kp h7 h11 := Ke.new_p k710 k11 fun i hi => by
        rcases hi with hi | hi
        · exact f8 i hi
        · omega
      have hH : Has s11 k (match now with | some _ => some (j9.next, 8, nums9 second k) | none => elderO elder N5 (nums9 first k)) := by cases now <;> exact hN
      refine Wp.bind (power9 H (n + 4) k11.w' t11 I11 wr11 (by omega) low11 hH) fun v12 h12 ⟨e12, k12, s12, L12, lf12, low12, H12, hr12, hs12⟩ => ?_
      subst e12
      (try simp -dsimp (disch := omega) only [↓pre, sp, sp2, wp_some, Int.cast_ofNat_Int, Nat.reduceAdd, Nat.reduceMul, Nat.reduceSub, Nat.reduceLeDiff, Nat.reduceEqDiff, Nat.reducePow, Int.reduceToNat, Int.reducePow, Int.reduceAdd, Int.reduceSub, Int.reduceMul, Int.reduceLT, Int.reduceLE, Int.reduceEq, Int.reduceNeg])
      have k712 : Kp h7 h12 := Ke.new_p k711 k12 fun i hi => f8 i hi
      -- what comes behind
      have fin : ∀ (g : Int) (b : Bool) (h26 : AH), Kp h7 h26 → Wp (kIf (.bool false) (
          kq (some (.bool false)) <| fun v170 =>
          some (v170, h26)) (
          kq (some (.int .i64 g)) <| fun v171 =>
          kq (rBin .eql .no true v171 (.int .i64 0)) <| fun v172 =>
          kj (fun l173 h28 =>
          kq (some (gd l173 0)) <| fun v175 =>
          kq (some (.int .i64 (3 + (st : Int)))) <| fun v176 =>
          kq (rBin .add .no false v175 v176) <| fun v177 =>
          kq (some v177) <| fun v178 =>
          ji [v178] h28) <| fun j174 =>
          kIf v172 (
          kq (some (.ptr (some (p, 0)))) <| fun v179 =>
          ke (kc ov (n + 5) N_block_Store_Size [v179] h26) <| fun v180 h29 =>
          kq (some v180) <| fun v181 =>
          j174 [v181] h29) (
          j174 [(gd [.int .i64 pp] 0)] h26))) fun r h' => r = .bool true := by
        intro g b h26 k26
        have L26 := (L5.kp k7).kp k26
        have es := size_spec H (n + 4) L26.t
        rw [hs5] at es
        (try simp -dsimp (disch := omega) only [↓pre, sp, sp2, wp_some, Int.cast_ofNat_Int, Nat.reduceAdd, Nat.reduceMul, Nat.reduceSub, Nat.reduceLeDiff, Nat.reduceEqDiff, Nat.reducePow, Int.reduceToNat, Int.reducePow, Int.reduceAdd, Int.reduceSub, Int.reduceMul, Int.reduceLT, Int.reduceLE, Int.reduceEq, Int.reduceNeg])
        refine wp_kJ (fun y h' => ∃ p2 : Int, y = [.int .i64 p2] ∧ pp ≤ p2 ∧ p2 ≤ 5000 - 50 ∧ h26 = h') (fun jk hjk => ?_) ?_
        · (try simp -dsimp (disch := omega) only [↓pre, sp, sp2, wp_some, Int.cast_ofNat_Int, Nat.reduceAdd, Nat.reduceMul, Nat.reduceSub, Nat.reduceLeDiff, Nat.reduceEqDiff, Nat.reducePow, Int.reduceToNat, Int.reducePow, Int.reduceAdd, Int.reduceSub, Int.reduceMul, Int.reduceLT, Int.reduceLE, Int.reduceEq, Int.reduceNeg])
          refine wp_ite (fun c => ?_) (fun c => ?_)
          · (try simp -dsimp (disch := omega) only [↓pre, sp, sp2, wp_some, Int.cast_ofNat_Int, Nat.reduceAdd, Nat.reduceMul, Nat.reduceSub, Nat.reduceLeDiff, Nat.reduceEqDiff, Nat.reducePow, Int.reduceToNat, Int.reducePow, Int.reduceAdd, Int.reduceSub, Int.reduceMul, Int.reduceLT, Int.reduceLE, Int.reduceEq, Int.reduceNeg, es])
            exact hjk _ _ ⟨_, rfl, by omega, by omega, rfl⟩
          · exact hjk _ _ ⟨_, rfl, by omega, by omega, rfl⟩
        · rintro _ _ ⟨p2, rfl, hp2, hp3, rfl⟩
          (try simp -dsimp (disch := omega) only [↓pre, sp, sp2, wp_some, Int.cast_ofNat_Int, Nat.reduceAdd, Nat.reduceMul, Nat.reduceSub, Nat.reduceLeDiff, Nat.reduceEqDiff, Nat.reducePow, Int.reduceToNat, Int.reducePow, Int.reduceAdd, Int.reduceSub, Int.reduceMul, Int.reduceLT, Int.reduceLE, Int.reduceEq, Int.reduceNeg])
          exact hji _ _ _ (by omega) ⟨_, rfl, by omega, by omega, rfl, k7.trans k26⟩
      have nN : ∀ {l : List Int} {hh : AH} {x : AVal} {m1 : Nat}, Oi hh x l → l.length ≤ 4096 → ∀ {hh2 : AH} {y : List Int}, Kp hh hh2 → Oi hh2 vb y → kc ov (n + 5) N_runghelp_Nums [x, vb] hh2 = some (.bool (decide (l = y)), hh2) :=
        fun o hl _ _ k o2 => nums_spec H (n + 4) ((Ow.rd o).kp k) (Ow.rd o2) (by omega)
      have hl1 := nums9_len first k
      have hl2 := nums9_len second k
      cases now with
      | some g =>
        refine Wp.bind (openS H n L12 (k := k) (by omega) H12) fun v13 h13 ⟨k13, q13, l13, j13, e13, g13, hq13, o13, R13, hj13, _⟩ => ?_
        subst e13
        have k713 := k712.trans k13
        have ob13 := (ob5.kp k7).kp k713
        have oa13 := (oa5.kp k7).kp k713
        have en1 := nums_spec H (n + 4) (Ow.rd o13) (Ow.rd ob13) (by omega)
        have en2 := nums_spec H (n + 4) (Ow.rd o13) (Ow.rd oa13) (by omega)
        (try simp -dsimp (disch := omega) only [↓pre, sp, sp2, wp_some, Int.cast_ofNat_Int, Nat.reduceAdd, Nat.reduceMul, Nat.reduceSub, Nat.reduceLeDiff, Nat.reduceEqDiff, Nat.reducePow, Int.reduceToNat, Int.reducePow, Int.reduceAdd, Int.reduceSub, Int.reduceMul, Int.reduceLT, Int.reduceLE, Int.reduceEq, Int.reduceNeg, decide_true])
        refine wp_kTh (fun r h' => h13 = h' ∧ r = .bool true) (fun jk hjk => ?_) ?_
        · (try simp -dsimp (disch := omega) only [↓pre, sp, sp2, wp_some, Int.cast_ofNat_Int, Nat.reduceAdd, Nat.reduceMul, Nat.reduceSub, Nat.reduceLeDiff, Nat.reduceEqDiff, Nat.reducePow, Int.reduceToNat, Int.reducePow, Int.reduceAdd, Int.reduceSub, Int.reduceMul, Int.reduceLT, Int.reduceLE, Int.reduceEq, Int.reduceNeg, decide_true, en1])
          exact hjk _ _ ⟨rfl, rfl⟩
        rintro _ _ ⟨rfl, rfl⟩
        (try simp -dsimp (disch := omega) only [↓pre, sp, sp2, wp_some, Int.cast_ofNat_Int, Nat.reduceAdd, Nat.reduceMul, Nat.reduceSub, Nat.reduceLeDiff, Nat.reduceEqDiff, Nat.reducePow, Int.reduceToNat, Int.reducePow, Int.reduceAdd, Int.reduceSub, Int.reduceMul, Int.reduceLT, Int.reduceLE, Int.reduceEq, Int.reduceNeg])
        refine wp_kTh (fun r h' => h13 = h' ∧ ∃ b : Bool, r = .bool b) (fun jk hjk => ?_) ?_
        · cases elder with
          | false =>
            (try simp -dsimp (disch := omega) only [↓pre, sp, sp2, wp_some, Int.cast_ofNat_Int, Nat.reduceAdd, Nat.reduceMul, Nat.reduceSub, Nat.reduceLeDiff, Nat.reduceEqDiff, Nat.reducePow, Int.reduceToNat, Int.reducePow, Int.reduceAdd, Int.reduceSub, Int.reduceMul, Int.reduceLT, Int.reduceLE, Int.reduceEq, Int.reduceNeg, Bool.not_false])
            have z10 : ((1 : Int) = 0) = False := by simp
            (try simp -dsimp (disch := omega) only [↓pre, sp, sp2, wp_some, Int.cast_ofNat_Int, Nat.reduceAdd, Nat.reduceMul, Nat.reduceSub, Nat.reduceLeDiff, Nat.reduceEqDiff, Nat.reducePow, Int.reduceToNat, Int.reducePow, Int.reduceAdd, Int.reduceSub, Int.reduceMul, Int.reduceLT, Int.reduceLE, Int.reduceEq, Int.reduceNeg, z10, decide_false])
            exact hjk _ _ ⟨rfl, _, rfl⟩
          | true =>
            (try simp -dsimp (disch := omega) only [↓pre, sp, sp2, wp_some, Int.cast_ofNat_Int, Nat.reduceAdd, Nat.reduceMul, Nat.reduceSub, Nat.reduceLeDiff, Nat.reduceEqDiff, Nat.reducePow, Int.reduceToNat, Int.reducePow, Int.reduceAdd, Int.reduceSub, Int.reduceMul, Int.reduceLT, Int.reduceLE, Int.reduceEq, Int.reduceNeg, decide_true, en2])
            cases hd : decide (nums9 second k = nums9 first k)
            · (try simp -dsimp (disch := omega) only [↓pre, sp, sp2, wp_some, Int.cast_ofNat_Int, Nat.reduceAdd, Nat.reduceMul, Nat.reduceSub, Nat.reduceLeDiff, Nat.reduceEqDiff, Nat.reducePow, Int.reduceToNat, Int.reducePow, Int.reduceAdd, Int.reduceSub, Int.reduceMul, Int.reduceLT, Int.reduceLE, Int.reduceEq, Int.reduceNeg, Bool.not_true])
              exact hjk _ _ ⟨rfl, _, rfl⟩
            · (try simp -dsimp (disch := omega) only [↓pre, sp, sp2, wp_some, Int.cast_ofNat_Int, Nat.reduceAdd, Nat.reduceMul, Nat.reduceSub, Nat.reduceLeDiff, Nat.reduceEqDiff, Nat.reducePow, Int.reduceToNat, Int.reducePow, Int.reduceAdd, Int.reduceSub, Int.reduceMul, Int.reduceLT, Int.reduceLE, Int.reduceEq, Int.reduceNeg])
              exact hjk _ _ ⟨rfl, _, rfl⟩
        rintro _ _ ⟨rfl, b, rfl⟩
        (try simp -dsimp (disch := omega) only [↓pre, sp, sp2, wp_some, Int.cast_ofNat_Int, Nat.reduceAdd, Nat.reduceMul, Nat.reduceSub, Nat.reduceLeDiff, Nat.reduceEqDiff, Nat.reducePow, Int.reduceToNat, Int.reducePow, Int.reduceAdd, Int.reduceSub, Int.reduceMul, Int.reduceLT, Int.reduceLE, Int.reduceEq, Int.reduceNeg])
        refine wp_kT (.bool false) (fun jk hjk => ?_) ?_
        · cases g
          · (try simp -dsimp (disch := omega) only [↓pre, sp, sp2, wp_some, Int.cast_ofNat_Int, Nat.reduceAdd, Nat.reduceMul, Nat.reduceSub, Nat.reduceLeDiff, Nat.reduceEqDiff, Nat.reducePow, Int.reduceToNat, Int.reducePow, Int.reduceAdd, Int.reduceSub, Int.reduceMul, Int.reduceLT, Int.reduceLE, Int.reduceEq, Int.reduceNeg, show (if some false = some true then (0 : Int) else 82) = 82 from rfl, Bool.not_true, not_true_eq_false, decide_false, decide_true, show ((82 : Int) = 0) = False by simp])
            exact hjk
          · (try simp -dsimp (disch := omega) only [↓pre, sp, sp2, wp_some, Int.cast_ofNat_Int, Nat.reduceAdd, Nat.reduceMul, Nat.reduceSub, Nat.reduceLeDiff, Nat.reduceEqDiff, Nat.reducePow, Int.reduceToNat, Int.reducePow, Int.reduceAdd, Int.reduceSub, Int.reduceMul, Int.reduceLT, Int.reduceLE, Int.reduceEq, Int.reduceNeg, show (if some true = some true then (0 : Int) else 82) = 0 from rfl, Bool.not_true, not_true_eq_false, decide_false, decide_true])
            exact hjk
        exact fin _ false h13 k713
      | none =>
        have e82 : (if (none : Option Bool) = some true then (0 : Int) else 82) = 82 := rfl
        have z820 : ((82 : Int) = 0) = False := by simp
        rw [e82]
        cases elder with
        | false =>
          refine Wp.bind (openE H n L12 (k := k) (by omega) H12) fun v13 h13 ⟨k13, q13, l13, j13, e13, g13, hq13, o13, R13, hj13⟩ => ?_
          subst e13
          have k713 := k712.trans k13
          have z01 : ((0 : Int) = 1) = False := by simp
          (try simp -dsimp (disch := omega) only [↓pre, sp, sp2, wp_some, Int.cast_ofNat_Int, Nat.reduceAdd, Nat.reduceMul, Nat.reduceSub, Nat.reduceLeDiff, Nat.reduceEqDiff, Nat.reducePow, Int.reduceToNat, Int.reducePow, Int.reduceAdd, Int.reduceSub, Int.reduceMul, Int.reduceLT, Int.reduceLE, Int.reduceEq, Int.reduceNeg, z01, decide_false])
          refine wp_kTh (fun r h' => h13 = h' ∧ r = .bool false) (fun jk hjk => ?_) ?_
          · (try simp -dsimp (disch := omega) only [↓pre, sp, sp2, wp_some, Int.cast_ofNat_Int, Nat.reduceAdd, Nat.reduceMul, Nat.reduceSub, Nat.reduceLeDiff, Nat.reduceEqDiff, Nat.reducePow, Int.reduceToNat, Int.reducePow, Int.reduceAdd, Int.reduceSub, Int.reduceMul, Int.reduceLT, Int.reduceLE, Int.reduceEq, Int.reduceNeg])
            exact hjk _ _ ⟨rfl, rfl⟩
          rintro _ _ ⟨rfl, rfl⟩
          (try simp -dsimp (disch := omega) only [↓pre, sp, sp2, wp_some, Int.cast_ofNat_Int, Nat.reduceAdd, Nat.reduceMul, Nat.reduceSub, Nat.reduceLeDiff, Nat.reduceEqDiff, Nat.reducePow, Int.reduceToNat, Int.reducePow, Int.reduceAdd, Int.reduceSub, Int.reduceMul, Int.reduceLT, Int.reduceLE, Int.reduceEq, Int.reduceNeg])
          refine wp_kTh (fun r h' => h13 = h' ∧ r = .bool true) (fun jk hjk => ?_) ?_
          · (try simp -dsimp (disch := omega) only [↓pre, sp, sp2, wp_some, Int.cast_ofNat_Int, Nat.reduceAdd, Nat.reduceMul, Nat.reduceSub, Nat.reduceLeDiff, Nat.reduceEqDiff, Nat.reducePow, Int.reduceToNat, Int.reducePow, Int.reduceAdd, Int.reduceSub, Int.reduceMul, Int.reduceLT, Int.reduceLE, Int.reduceEq, Int.reduceNeg, Bool.not_false, decide_true])
            exact hjk _ _ ⟨rfl, rfl⟩
          rintro _ _ ⟨rfl, rfl⟩
          (try simp -dsimp (disch := omega) only [↓pre, sp, sp2, wp_some, Int.cast_ofNat_Int, Nat.reduceAdd, Nat.reduceMul, Nat.reduceSub, Nat.reduceLeDiff, Nat.reduceEqDiff, Nat.reducePow, Int.reduceToNat, Int.reducePow, Int.reduceAdd, Int.reduceSub, Int.reduceMul, Int.reduceLT, Int.reduceLE, Int.reduceEq, Int.reduceNeg])
          refine wp_kT (.bool false) (fun jk hjk => ?_) ?_
          · (try simp -dsimp (disch := omega) only [↓pre, sp, sp2, wp_some, Int.cast_ofNat_Int, Nat.reduceAdd, Nat.reduceMul, Nat.reduceSub, Nat.reduceLeDiff, Nat.reduceEqDiff, Nat.reducePow, Int.reduceToNat, Int.reducePow, Int.reduceAdd, Int.reduceSub, Int.reduceMul, Int.reduceLT, Int.reduceLE, Int.reduceEq, Int.reduceNeg, z820, decide_false, not_false_eq_true, decide_true, not_true_eq_false, Bool.not_false, Bool.not_true])
            exact hjk
          exact fin _ false h13 k713
        | true =>
          refine Wp.bind (openS H n L12 (k := k) (by omega) H12) fun v13 h13 ⟨k13, q13, l13, j13, e13, g13, hq13, o13, R13, hj13, _⟩ => ?_
          subst e13
          have k713 := k712.trans k13
          have ob13 := (ob5.kp k7).kp k713
          have oa13 := (oa5.kp k7).kp k713
          have en1 := nums_spec H (n + 4) (Ow.rd o13) (Ow.rd ob13) (by omega)
          have en2 := nums_spec H (n + 4) (Ow.rd o13) (Ow.rd oa13) (by omega)
          (try simp -dsimp (disch := omega) only [↓pre, sp, sp2, wp_some, Int.cast_ofNat_Int, Nat.reduceAdd, Nat.reduceMul, Nat.reduceSub, Nat.reduceLeDiff, Nat.reduceEqDiff, Nat.reducePow, Int.reduceToNat, Int.reducePow, Int.reduceAdd, Int.reduceSub, Int.reduceMul, Int.reduceLT, Int.reduceLE, Int.reduceEq, Int.reduceNeg, decide_true])
          refine wp_kTh (fun r h' => h13 = h' ∧ ∃ b : Bool, r = .bool b) (fun jk hjk => ?_) ?_
          · (try simp -dsimp (disch := omega) only [↓pre, sp, sp2, wp_some, Int.cast_ofNat_Int, Nat.reduceAdd, Nat.reduceMul, Nat.reduceSub, Nat.reduceLeDiff, Nat.reduceEqDiff, Nat.reducePow, Int.reduceToNat, Int.reducePow, Int.reduceAdd, Int.reduceSub, Int.reduceMul, Int.reduceLT, Int.reduceLE, Int.reduceEq, Int.reduceNeg, decide_true, en1])
            exact hjk _ _ ⟨rfl, _, rfl⟩
          rintro _ _ ⟨rfl, nb, rfl⟩
          (try simp -dsimp (disch := omega) only [↓pre, sp, sp2, wp_some, Int.cast_ofNat_Int, Nat.reduceAdd, Nat.reduceMul, Nat.reduceSub, Nat.reduceLeDiff, Nat.reduceEqDiff, Nat.reducePow, Int.reduceToNat, Int.reducePow, Int.reduceAdd, Int.reduceSub, Int.reduceMul, Int.reduceLT, Int.reduceLE, Int.reduceEq, Int.reduceNeg])
          refine wp_kTh (fun r h' => h13 = h' ∧ r = .bool true) (fun jk hjk => ?_) ?_
          · (try simp -dsimp (disch := omega) only [↓pre, sp, sp2, wp_some, Int.cast_ofNat_Int, Nat.reduceAdd, Nat.reduceMul, Nat.reduceSub, Nat.reduceLeDiff, Nat.reduceEqDiff, Nat.reducePow, Int.reduceToNat, Int.reducePow, Int.reduceAdd, Int.reduceSub, Int.reduceMul, Int.reduceLT, Int.reduceLE, Int.reduceEq, Int.reduceNeg, decide_true, en2])
            exact hjk _ _ ⟨rfl, rfl⟩
          rintro _ _ ⟨rfl, rfl⟩
          (try simp -dsimp (disch := omega) only [↓pre, sp, sp2, wp_some, Int.cast_ofNat_Int, Nat.reduceAdd, Nat.reduceMul, Nat.reduceSub, Nat.reduceLeDiff, Nat.reduceEqDiff, Nat.reducePow, Int.reduceToNat, Int.reducePow, Int.reduceAdd, Int.reduceSub, Int.reduceMul, Int.reduceLT, Int.reduceLE, Int.reduceEq, Int.reduceNeg])
          refine wp_kT (.bool false) (fun jk hjk => ?_) ?_
          · cases nb
            · (try simp -dsimp (disch := omega) only [↓pre, sp, sp2, wp_some, Int.cast_ofNat_Int, Nat.reduceAdd, Nat.reduceMul, Nat.reduceSub, Nat.reduceLeDiff, Nat.reduceEqDiff, Nat.reducePow, Int.reduceToNat, Int.reducePow, Int.reduceAdd, Int.reduceSub, Int.reduceMul, Int.reduceLT, Int.reduceLE, Int.reduceEq, Int.reduceNeg, z820, decide_false, not_false_eq_true, decide_true, not_true_eq_false, Bool.not_false, Bool.not_true])
              exact hjk
            · (try simp -dsimp (disch := omega) only [↓pre, sp, sp2, wp_some, Int.cast_ofNat_Int, Nat.reduceAdd, Nat.reduceMul, Nat.reduceSub, Nat.reduceLeDiff, Nat.reduceEqDiff, Nat.reducePow, Int.reduceToNat, Int.reducePow, Int.reduceAdd, Int.reduceSub, Int.reduceMul, Int.reduceLT, Int.reduceLE, Int.reduceEq, Int.reduceNeg, z820, decide_false, not_false_eq_true, decide_true, not_true_eq_false, Bool.not_false, Bool.not_true])
              exact hjk
          exact fin _ false h13 k713
    · have ew : ((wi : Int) + 1) = ((wi + 1 : Nat) : Int) := by omega
      (try simp -dsimp (disch := omega) only [↓pre, sp, sp2, wp_some, Int.cast_ofNat_Int, Nat.reduceAdd, Nat.reduceMul, Nat.reduceSub, Nat.reduceLeDiff, Nat.reduceEqDiff, Nat.reducePow, Int.reduceToNat, Int.reducePow, Int.reduceAdd, Int.reduceSub, Int.reduceMul, Int.reduceLT, Int.reduceLE, Int.reduceEq, Int.reduceNeg, ew])
      exact hjo (m - 1) _ _ (by omega) ⟨wi + 1, rfl, by omega, k7⟩
  · (try simp -dsimp (disch := omega) only [↓pre, sp, sp2, wp_some, Int.cast_ofNat_Int, Nat.reduceAdd, Nat.reduceMul, Nat.reduceSub, Nat.reduceLeDiff, Nat.reduceEqDiff, Nat.reducePow, Int.reduceToNat, Int.reducePow, Int.reduceAdd, Int.reduceSub, Int.reduceMul, Int.reduceLT, Int.reduceLE, Int.reduceEq, Int.reduceNeg])
end Go.Proofs.Ytbcpmbggidemdaa.AI
