/- QueueTypes: its law. -/
import Derived.Test.YtfppdfmffdkogaaLaw24b
namespace Go.Proofs.Ytfppdfmffdkogaa.AI
open Go
set_option linter.unusedSimpArgs false
set_option linter.unusedVariables false
variable {ov : AOver} {h : AH} {v a b : AVal}
/-- Whatever is at the head of the first loop. -/
def QtI (h0 : AH) (pq pr : Nat) (names : List (List UInt8)) (nums : List Int) (M : Nat) (m : Nat) (l : List AVal) (h : AH) : Prop :=
  ∃ (i qi : Nat) (sq sr : QSt) (Fq Fr : Nat → Prop) (ws : List (List AVal)) (fs : List AVal), l = [.ptr (some (qi, 0))] ∧ i + m = M ∧ h.get qi = some ⟨.row [.int .i64 i] T_int false, .rw, []⟩ ∧ ¬ Fq qi ∧ ¬ Fr qi ∧ qi < h.n ∧ Tp h0 h pq pr names nums i sq sr Fq Fr ws fs
/-- Whatever is at the head of the second. -/
def QuI (h0 : AH) (pq pr : Nat) (names : List (List UInt8)) (nums : List Int) (M : Nat) (r : AVal) (ws : List (List AVal)) (fs : List AVal) (m : Nat) (l : List AVal) (h : AH) : Prop :=
  ∃ (k : Nat) (sq sr : QSt) (G Fr : Nat → Prop), l = [.int .i64 k] ∧ k + m = M ∧ Ke (fun _ => True) h0 h ∧ QTh.QU h pq sq 0 G ∧ sq.w = [] ∧ Qu T_queue_Queue_func___int_ T_func___int h pr sr 0 Fr ∧ sr.w = fs.drop k ∧ sr.tak = k ∧ (∀ j, G j → ¬ Fr j ∧ j < h.n) ∧
    Ow h r T_runglaw24_thing 4 ws.length ws.flatten ∧ (∀ j, isBk r j → ¬ Fr j ∧ j < h.n) ∧ ∀ k, k < M → ∃ yy f, ws[k]? = some yy ∧ fs[k]? = some f ∧ Tk h Fr (names.getD k []) (nums.getD k 0) k yy f
theorem ints2 (c : Bool) (x y : Int) : rBin .neq (.ints 2) c (.agg [.int .i64 x, .int .i64 y]) (.agg [.int .i64 x, .int .i64 y]) = some (.bool false) := by
  simp [rBin, rEq, eqInts]
theorem queueTypes (X : Xs ov) (K : ov N_runglaw24_known = some knownYes) (n : Nat) (w : Wf h) {names : List (List UInt8)} {nums : List Int} (sa : Sz h a 1 names.length (names.map AVal.str) .ro) (sb : Sz h b 1 nums.length (nums.map (AVal.int .i64)) .ro)
    (hn : ∀ s ∈ names, s.length ≤ 2 ^ 47) :
    Wp (kc ov (n + 8) N_runglaw24_QueueTypes [a, b] h) fun r h' => r = .bool true := by
  rw [C_runglaw24_QueueTypes X.p]; unfold F_runglaw24_QueueTypes
  (try simp -dsimp (disch := omega) only [↓pre, sp, sp2, wp_some, Int.cast_ofNat_Int, Nat.reduceAdd, Nat.reduceMul, Nat.reduceSub, Nat.reduceLeDiff, Nat.reduceEqDiff, Nat.reducePow, Int.reduceToNat, Int.reducePow, Int.reduceAdd, Int.reduceSub, Int.reduceMul, Int.reduceLT, Int.reduceLE, Int.reduceEq, Int.reduceNeg, knownT_spec K, sa.len])
  refine wp_kT (.bool (decide (60 < names.length) || decide (60 < nums.length))) (fun j hj => ?_) ?_
  · by_cases c2 : 60 < names.length
    · have c2' : (60 : Int) < names.length := by omega
      rw [decide_eq_true c2] at hj
      (try simp -dsimp (disch := omega) only [↓pre, sp, sp2, wp_some, Int.cast_ofNat_Int, Nat.reduceAdd, Nat.reduceMul, Nat.reduceSub, Nat.reduceLeDiff, Nat.reduceEqDiff, Nat.reducePow, Int.reduceToNat, Int.reducePow, Int.reduceAdd, Int.reduceSub, Int.reduceMul, Int.reduceLT, Int.reduceLE, Int.reduceEq, Int.reduceNeg, c2', decide_true]); exact hj
    · have c2' : ¬ (60 : Int) < names.length := by omega
      rw [decide_eq_false c2] at hj
      by_cases c3 : 60 < nums.length
      · have c3' : (60 : Int) < nums.length := by omega
        rw [decide_eq_true c3] at hj
        (try simp -dsimp (disch := omega) only [↓pre, sp, sp2, wp_some, Int.cast_ofNat_Int, Nat.reduceAdd, Nat.reduceMul, Nat.reduceSub, Nat.reduceLeDiff, Nat.reduceEqDiff, Nat.reducePow, Int.reduceToNat, Int.reducePow, Int.reduceAdd, Int.reduceSub, Int.reduceMul, Int.reduceLT, Int.reduceLE, Int.reduceEq, Int.reduceNeg, c2', sb.len, c3', decide_true, decide_false]); exact hj
      · have c3' : ¬ (60 : Int) < nums.length := by omega
        rw [decide_eq_false c3] at hj
        (try simp -dsimp (disch := omega) only [↓pre, sp, sp2, wp_some, Int.cast_ofNat_Int, Nat.reduceAdd, Nat.reduceMul, Nat.reduceSub, Nat.reduceLeDiff, Nat.reduceEqDiff, Nat.reducePow, Int.reduceToNat, Int.reducePow, Int.reduceAdd, Int.reduceSub, Int.reduceMul, Int.reduceLT, Int.reduceLE, Int.reduceEq, Int.reduceNeg, c2', sb.len, c3', decide_false]); exact hj
  refine wp_kIf (fun c => ?_) (fun c => ?_)
  · (try simp -dsimp (disch := omega) only [↓pre, sp, sp2, wp_some, Int.cast_ofNat_Int, Nat.reduceAdd, Nat.reduceMul, Nat.reduceSub, Nat.reduceLeDiff, Nat.reduceEqDiff, Nat.reducePow, Int.reduceToNat, Int.reducePow, Int.reduceAdd, Int.reduceSub, Int.reduceMul, Int.reduceLT, Int.reduceLE, Int.reduceEq, Int.reduceNeg])
  simp only [Bool.or_eq_false_iff, decide_eq_false_iff_not, Nat.not_lt] at c
  obtain ⟨c2, c3⟩ := c
  (try simp -dsimp (disch := omega) only [↓pre, sp, sp2, wp_some, Int.cast_ofNat_Int, Nat.reduceAdd, Nat.reduceMul, Nat.reduceSub, Nat.reduceLeDiff, Nat.reduceEqDiff, Nat.reducePow, Int.reduceToNat, Int.reducePow, Int.reduceAdd, Int.reduceSub, Int.reduceMul, Int.reduceLT, Int.reduceLE, Int.reduceEq, Int.reduceNeg])
  refine Wp.bind (QTh.new_spec X.p (n + 6) w 64) fun v1 h1 ⟨k1, pq, e1, hpq, Q1⟩ => ?_
  subst e1
  (try simp -dsimp (disch := omega) only [↓pre, sp, sp2, wp_some, Int.cast_ofNat_Int, Nat.reduceAdd, Nat.reduceMul, Nat.reduceSub, Nat.reduceLeDiff, Nat.reduceEqDiff, Nat.reducePow, Int.reduceToNat, Int.reducePow, Int.reduceAdd, Int.reduceSub, Int.reduceMul, Int.reduceLT, Int.reduceLE, Int.reduceEq, Int.reduceNeg])
  refine Wp.bind (QFun.new_spec X.p (n + 6) k1.w' 64) fun v2 h2 ⟨k2, pr, e2, hpr, Q2⟩ => ?_
  subst e2
  (try simp -dsimp (disch := omega) only [↓pre, sp, sp2, wp_some, Int.cast_ofNat_Int, Nat.reduceAdd, Nat.reduceMul, Nat.reduceSub, Nat.reduceLeDiff, Nat.reduceEqDiff, Nat.reducePow, Int.reduceToNat, Int.reducePow, Int.reduceAdd, Int.reduceSub, Int.reduceMul, Int.reduceLT, Int.reduceLE, Int.reduceEq, Int.reduceNeg])
  refine wp_box k2.w' rfl rfl fun qi0 h3 e3 k3 n3 g3 => ?_
  (try simp -dsimp (disch := omega) only [↓pre, sp, sp2, wp_some, Int.cast_ofNat_Int, Nat.reduceAdd, Nat.reduceMul, Nat.reduceSub, Nat.reduceLeDiff, Nat.reduceEqDiff, Nat.reducePow, Int.reduceToNat, Int.reducePow, Int.reduceAdd, Int.reduceSub, Int.reduceMul, Int.reduceLT, Int.reduceLE, Int.reduceEq, Int.reduceNeg])
  refine wp_store k3.w' g3 rfl rfl (by simp) rfl fun h4 k4 n4 g4 => ?_
  (try simp -dsimp (disch := omega) only [↓pre, sp, sp2, wp_some, Int.cast_ofNat_Int, Nat.reduceAdd, Nat.reduceMul, Nat.reduceSub, Nat.reduceLeDiff, Nat.reduceEqDiff, Nat.reducePow, Int.reduceToNat, Int.reducePow, Int.reduceAdd, Int.reduceSub, Int.reduceMul, Int.reduceLT, Int.reduceLE, Int.reduceEq, Int.reduceNeg])
  have lq1 : pq < h1.n := by obtain ⟨cs, C⟩ := Q1; exact C.fl pq rfl
  have lr2 : pr < h2.n := by obtain ⟨cs, C⟩ := Q2; exact C.fl pr rfl
  have hnn2 := k2.n
  have K4 : Ke (fun _ => True) h h4 := (((k1.trans k2).trans k3).mono fun _ f => f.elim).trans (k4.mono fun _ _ => trivial)
  refine wp_loop (QtI h pq pr names nums (min names.length nums.length)) (min names.length nums.length) (by omega)
    ⟨0, qi0, _, _, (· = pq), (· = pr), [], [], rfl, by omega, g4, by omega, by omega, by omega, K4, ((Q1.ke k2 fun _ f => f.elim).ke k3 fun _ f => f.elim).ke k4 (fun j hj hp => by omega), (Q2.ke k3 fun _ f => f.elim).ke k4 (fun j hj hp => by omega), rfl, rfl, rfl, rfl, fun j hj hp => by omega, rfl, rfl, ⟨Nat.le_refl _, Nat.le_refl _, rfl⟩, ⟨Nat.le_refl _, Nat.le_refl _, rfl⟩, fun k hk => by omega⟩ ?_
  clear Q1 Q2 g3 g4 k4 k3 k2 k1 K4
  rintro m _ h6 j ⟨i, qi, sq, sr, Fq, Fr, ws, fs, rfl, him, gi, nq, nr, hqi, P⟩ hj
  unfold L_runglaw24_QueueTypes_1
  have w6 := P.k.w'
  have sa6 := sa.ro P.k
  have sb6 := sb.ro P.k
  have li6 : rLoad (.ptr (some (qi, 0))) h6 = some (.int .i64 i) := by rw [rLoad_ptr, row_rw gi]; rfl
  (try simp -dsimp (disch := omega) only [↓pre, sp, sp2, wp_some, Int.cast_ofNat_Int, Nat.reduceAdd, Nat.reduceMul, Nat.reduceSub, Nat.reduceLeDiff, Nat.reduceEqDiff, Nat.reducePow, Int.reduceToNat, Int.reducePow, Int.reduceAdd, Int.reduceSub, Int.reduceMul, Int.reduceLT, Int.reduceLE, Int.reduceEq, Int.reduceNeg, li6, row_rw gi, sa6.len])
  refine wp_kT (.bool (decide (i < names.length) && decide (i < nums.length))) (fun j3 hj3 => ?_) ?_
  · by_cases d1 : i < names.length
    · have d1' : (i : Int) < names.length := by omega
      rw [decide_eq_true d1] at hj3
      by_cases d2 : i < nums.length
      · have d2' : (i : Int) < nums.length := by omega
        rw [decide_eq_true d2] at hj3
        (try simp -dsimp (disch := omega) only [↓pre, sp, sp2, wp_some, Int.cast_ofNat_Int, Nat.reduceAdd, Nat.reduceMul, Nat.reduceSub, Nat.reduceLeDiff, Nat.reduceEqDiff, Nat.reducePow, Int.reduceToNat, Int.reducePow, Int.reduceAdd, Int.reduceSub, Int.reduceMul, Int.reduceLT, Int.reduceLE, Int.reduceEq, Int.reduceNeg, d1', d2', sb6.len, li6, decide_true]); exact hj3
      · have d2' : ¬ (i : Int) < nums.length := by omega
        rw [decide_eq_false d2] at hj3
        (try simp -dsimp (disch := omega) only [↓pre, sp, sp2, wp_some, Int.cast_ofNat_Int, Nat.reduceAdd, Nat.reduceMul, Nat.reduceSub, Nat.reduceLeDiff, Nat.reduceEqDiff, Nat.reducePow, Int.reduceToNat, Int.reducePow, Int.reduceAdd, Int.reduceSub, Int.reduceMul, Int.reduceLT, Int.reduceLE, Int.reduceEq, Int.reduceNeg, d1', d2', sb6.len, li6, decide_true, decide_false]); exact hj3
    · have d1' : ¬ (i : Int) < names.length := by omega
      rw [decide_eq_false d1] at hj3
      (try simp -dsimp (disch := omega) only [↓pre, sp, sp2, wp_some, Int.cast_ofNat_Int, Nat.reduceAdd, Nat.reduceMul, Nat.reduceSub, Nat.reduceLeDiff, Nat.reduceEqDiff, Nat.reducePow, Int.reduceToNat, Int.reducePow, Int.reduceAdd, Int.reduceSub, Int.reduceMul, Int.reduceLT, Int.reduceLE, Int.reduceEq, Int.reduceNeg, d1', decide_false]); exact hj3
  refine wp_kIf (fun d => ?_) (fun d => ?_)
  · simp only [Bool.and_eq_true, decide_eq_true_eq] at d
    obtain ⟨d1, d2⟩ := d
    have lz : ∀ {h'}, Ke (fun _ => True) h h' → rLoad (ea b i) h' = some (.int .i64 (nums.getD i 0)) := fun {h'} k => by rw [(sb.ro k).ld (by simpa using d2)]; simp [d2]
    have ln : ∀ {h'}, Ke (fun _ => True) h h' → rLoad (ea a i) h' = some (.str (names.getD i [])) := fun {h'} k => by rw [(sa.ro k).ld (by simpa using d1)]; simp [d1]
    have hnl := hn (names.getD i []) (by simp [d1])
    obtain ⟨zz, hzz⟩ : ∃ zz, zz = nums.getD i 0 := ⟨_, rfl⟩
    obtain ⟨nn, hnn⟩ : ∃ nn, nn = names.getD i [] := ⟨_, rfl⟩
    rw [← hzz] at lz
    rw [← hnn] at ln hnl
    have lz6 := lz P.k
    (try simp -dsimp (disch := omega) only [↓pre, sp, sp2, wp_some, Int.cast_ofNat_Int, Nat.reduceAdd, Nat.reduceMul, Nat.reduceSub, Nat.reduceLeDiff, Nat.reduceEqDiff, Nat.reducePow, Int.reduceToNat, Int.reducePow, Int.reduceAdd, Int.reduceSub, Int.reduceMul, Int.reduceLT, Int.reduceLE, Int.reduceEq, Int.reduceNeg, li6, sb6.at, lz6])
    refine wp_box w6 rfl rfl fun bn h8 e8 k8 n8 g8 => ?_
    (try simp -dsimp (disch := omega) only [↓pre, sp, sp2, wp_some, Int.cast_ofNat_Int, Nat.reduceAdd, Nat.reduceMul, Nat.reduceSub, Nat.reduceLeDiff, Nat.reduceEqDiff, Nat.reducePow, Int.reduceToNat, Int.reducePow, Int.reduceAdd, Int.reduceSub, Int.reduceMul, Int.reduceLT, Int.reduceLE, Int.reduceEq, Int.reduceNeg])
    refine wp_store k8.w' g8 rfl rfl (by simp) rfl fun h9 k9 n9 g9 => ?_
    replace g9 : h9.get bn = some ⟨.row [.int .i64 zz] T_int false, .rw, []⟩ := g9
    have k69 : Kp h6 h9 := Ke.new_p k8 k9 fun j hj => by omega
    have P9 := P.kp k69 fun j hj => hj.elim
    have gi9 := k69.gt gi
    have li9 : rLoad (.ptr (some (qi, 0))) h9 = some (.int .i64 i) := by rw [rLoad_ptr, row_rw gi9]; rfl
    have lb9 : rLoad (.ptr (some (bn, 0))) h9 = some (.int .i64 zz) := by rw [rLoad_ptr, row_rw g9]; rfl
    have ln9 := ln P9.k
    have hA : rBuildA [(.int .i64 0), (.int .i64 0)] 1 [(0, .int .i64 zz), (1, .int .i64 i)] = some (.agg [.int .i64 zz, .int .i64 i]) := rfl
    (try simp -dsimp (disch := omega) only [↓pre, sp, sp2, wp_some, Int.cast_ofNat_Int, Nat.reduceAdd, Nat.reduceMul, Nat.reduceSub, Nat.reduceLeDiff, Nat.reduceEqDiff, Nat.reducePow, Int.reduceToNat, Int.reducePow, Int.reduceAdd, Int.reduceSub, Int.reduceMul, Int.reduceLT, Int.reduceLE, Int.reduceEq, Int.reduceNeg, li9, (sa.ro P9.k).at, ln9, lb9, ↓hA])
    refine wp_mbytes P9.k.w' hnl fun qc h10 ec k10 n10 oc => ?_
    have hB : rBuild [(.str []), (.int .i64 0), (.int .i64 0), (.slice none 0 0)] [(0, 1), (1, 2), (3, 1)] [(0, .str nn), (1, .agg [.int .i64 zz, .int .i64 i]), (2, .slice (some (qc, 0, 1)) nn.length nn.length)] = some (.agg [.str nn, .int .i64 zz, .int .i64 i, .slice (some (qc, 0, 1)) nn.length nn.length]) := rfl
    have P10 := P9.kp k10 fun j hj => hj.elim
    have gi10 := k10.gt gi9
    have gb10 := k10.gt g9
    have li10 : rLoad (.ptr (some (qi, 0))) h10 = some (.int .i64 i) := by rw [rLoad_ptr, row_rw gi10]; rfl
    have lb10 : rLoad (.ptr (some (bn, 0))) h10 = some (.int .i64 zz) := by rw [rLoad_ptr, row_rw gb10]; rfl
    have ln10 := ln P10.k
    (try simp -dsimp (disch := omega) only [↓pre, sp, sp2, wp_some, Int.cast_ofNat_Int, Nat.reduceAdd, Nat.reduceMul, Nat.reduceSub, Nat.reduceLeDiff, Nat.reduceEqDiff, Nat.reducePow, Int.reduceToNat, Int.reducePow, Int.reduceAdd, Int.reduceSub, Int.reduceMul, Int.reduceLT, Int.reduceLE, Int.reduceEq, Int.reduceNeg, ↓hB, li10, lb10, ln10])
    have hlen : ws.length ≤ 60 := by have := P.lw; omega
    have hqw : sq.w.length = i := by rw [P.hq, List.length_map, P.lw]
    have hrw : sr.w.length = i := by rw [P.hr, P.lf]
    obtain ⟨cq1, cq2, cq3⟩ := P.cq
    obtain ⟨cr1, cr2, cr3⟩ := P.cr
    obtain ⟨fq6, fr6⟩ := P.fq
    have n69 : h9.n = h6.n + 1 := by omega
    have yyc : ([.str nn, .int .i64 zz, .int .i64 i, .slice (some (qc, 0, 1)) nn.length nn.length] : List AVal).all AVal.isCell = true := rfl
    refine Wp.bind (QTh.put_spec X n P10.k.w' P10.q ⟨by omega, by omega⟩ yyc rfl) fun v11 h11 ⟨k11, e11, Q11⟩ => ?_
    have hn11 := k11.n
    have ep : sq.push (.agg [.str nn, .int .i64 zz, .int .i64 i, .slice (some (qc, 0, 1)) nn.length nn.length]) = { sq with w := sq.w ++ [.agg [.str nn, .int .i64 zz, .int .i64 i, .slice (some (qc, 0, 1)) nn.length nn.length]], put := sq.put + 1, made := true } := by
      unfold QSt.push; rw [if_neg (by rw [P.mq]; omega)]
    rw [ep] at Q11
    have R11 := P10.r.ke k11 fun j hj hf => P.d j hj hf
    have gi11 := k11.gt gi10 nq
    have gb11 := k11.gt gb10 fun hf => by have := fq6 bn hf; omega
    have oc11 := oc.ke k11 fun j hj hf => by simp only [isBk] at hj; have := fq6 j hf; omega
    (try simp -dsimp (disch := omega) only [↓pre, sp, sp2, wp_some, Int.cast_ofNat_Int, Nat.reduceAdd, Nat.reduceMul, Nat.reduceSub, Nat.reduceLeDiff, Nat.reduceEqDiff, Nat.reducePow, Int.reduceToNat, Int.reducePow, Int.reduceAdd, Int.reduceSub, Int.reduceMul, Int.reduceLT, Int.reduceLE, Int.reduceEq, Int.reduceNeg])
    refine Wp.bind (QFun.put_spec X n k11.w' R11 ⟨by omega, by omega⟩ (y := clo bn qi) rfl) fun v12 h12 ⟨k12, e12, R12⟩ => ?_
    have hn12 := k12.n
    have ep2 : sr.push (clo bn qi) = { sr with w := sr.w ++ [clo bn qi], put := sr.put + 1, made := true } := by
      unfold QSt.push; rw [if_neg (by rw [P.mr]; omega)]
    rw [ep2] at R12
    have fQ11 : ∀ j, Gr Fq h10 h11 j → ¬ Fr j := fun j hj hf => by
      rcases hj with hj | hj
      · exact P.d j hj hf
      · have := fr6 j hf; omega
    have Q12 := Q11.ke k12 fun j hj hf => fQ11 j hf hj
    have gi12 := k12.gt gi11 nr
    have gb12 := k12.gt gb11 fun hf => by have := fr6 bn hf; omega
    have oc12 := oc11.ke k12 fun j hj hf => by simp only [isBk] at hj; have := fr6 j hf; omega
    have li12 : rLoad (.ptr (some (qi, 0))) h12 = some (.int .i64 i) := by rw [rLoad_ptr, row_rw gi12]; rfl
    (try simp -dsimp (disch := omega) only [↓pre, sp, sp2, wp_some, Int.cast_ofNat_Int, Nat.reduceAdd, Nat.reduceMul, Nat.reduceSub, Nat.reduceLeDiff, Nat.reduceEqDiff, Nat.reducePow, Int.reduceToNat, Int.reducePow, Int.reduceAdd, Int.reduceSub, Int.reduceMul, Int.reduceLT, Int.reduceLE, Int.reduceEq, Int.reduceNeg, li12])
    refine wp_box k12.w' rfl rfl fun qn h13 e13 k13 n13 g13 => ?_
    (try simp -dsimp (disch := omega) only [↓pre, sp, sp2, wp_some, Int.cast_ofNat_Int, Nat.reduceAdd, Nat.reduceMul, Nat.reduceSub, Nat.reduceLeDiff, Nat.reduceEqDiff, Nat.reducePow, Int.reduceToNat, Int.reducePow, Int.reduceAdd, Int.reduceSub, Int.reduceMul, Int.reduceLT, Int.reduceLE, Int.reduceEq, Int.reduceNeg])
    refine wp_store k13.w' g13 rfl rfl (by simp) rfl fun h14 k14 n14 g14 => ?_
    replace g14 : h14.get qn = some ⟨.row [.int .i64 i] T_int false, .rw, []⟩ := g14
    have ei : IntKind.wrap .i64 ((i : Int) + 1) = ((i + 1 : Nat) : Int) := by rw [wr_i64 (by omega) (by omega)]; omega
    have li14 : rLoad (.ptr (some (qn, 0))) h14 = some (.int .i64 i) := by rw [rLoad_ptr, row_rw g14]; rfl
    (try simp -dsimp (disch := omega) only [↓pre, sp, sp2, wp_some, Int.cast_ofNat_Int, Nat.reduceAdd, Nat.reduceMul, Nat.reduceSub, Nat.reduceLeDiff, Nat.reduceEqDiff, Nat.reducePow, Int.reduceToNat, Int.reducePow, Int.reduceAdd, Int.reduceSub, Int.reduceMul, Int.reduceLT, Int.reduceLE, Int.reduceEq, Int.reduceNeg, li14, ei])
    refine wp_store k14.w' g14 rfl rfl (by simp) rfl fun h15 k15 n15 g15 => ?_
    replace g15 : h15.get qn = some ⟨.row [.int .i64 (i + 1 : Nat)] T_int false, .rw, []⟩ := g15
    (try simp -dsimp (disch := omega) only [↓pre, sp, sp2, wp_some, Int.cast_ofNat_Int, Nat.reduceAdd, Nat.reduceMul, Nat.reduceSub, Nat.reduceLeDiff, Nat.reduceEqDiff, Nat.reducePow, Int.reduceToNat, Int.reducePow, Int.reduceAdd, Int.reduceSub, Int.reduceMul, Int.reduceLT, Int.reduceLE, Int.reduceEq, Int.reduceNeg])
    have KN : Ke (fun j => j = qn) h12 h15 := ((Kp.ke k13).trans k14).trans k15
    have fresh : ∀ j, j = qn → ¬ (j < h12.n) := fun j hj => by omega
    have lq12 : ∀ j, Gr Fq h10 h11 j → j < h12.n := fun j hj => by
      rcases hj with hj | hj
      · have := fq6 j hj; omega
      · omega
    have lr12 : ∀ j, Gr Fr h11 h12 j → j < h12.n := fun j hj => by
      rcases hj with hj | hj
      · have := fr6 j hj; omega
      · omega
    have dd : ∀ j, Gr Fq h10 h11 j → ¬ Gr Fr h11 h12 j := fun j hj hg => by
      rcases hg with hg | hg
      · exact fQ11 j hj hg
      · rcases hj with hj | hj
        · have := fq6 j hj; omega
        · omega
    have K15 : Ke (fun _ => True) h h15 := ((P10.k.trans (k11.mono fun _ _ => trivial)).trans (k12.mono fun _ _ => trivial)).trans (KN.mono fun _ _ => trivial)
    have T15 : ∀ k, k < i → ∃ yy f, ws[k]? = some yy ∧ fs[k]? = some f ∧ Tk h15 (fun j => Gr Fq h10 h11 j ∨ Gr Fr h11 h12 j) (names.getD k []) (nums.getD k 0) k yy f := fun k hk => by
      obtain ⟨yy, f, e1, e2, t⟩ := P10.t k hk
      have t1 := t.ke k11 fun j hj => .inl (.inl hj)
      have t2 := t1.ke k12 fun j hj => .inl (.inr hj)
      have t3 : Tk h10 (fun j => Gr Fq h10 h11 j ∨ Gr Fr h11 h12 j) (names.getD k []) (nums.getD k 0) k yy f := t.re fun j hj => by
        rcases hj with (hj | hj) | (hj | hj)
        · exact .inl (.inl hj)
        · exact .inr hj.1
        · exact .inl (.inr hj)
        · exact .inr (by omega)
      have t4 := t3.ke k11 fun j hj => .inl (.inl (.inl hj))
      have t5 := t4.ke k12 fun j hj => .inl (.inr (.inl hj))
      exact ⟨yy, f, e1, e2, t5.ke KN fun j hj => .inr (by omega)⟩
    refine hj (m - 1) _ _ (by omega) ⟨i + 1, qn, _, _, Gr Fq h10 h11, Gr Fr h11 h12, ws ++ [[.str nn, .int .i64 zz, .int .i64 i, .slice (some (qc, 0, 1)) nn.length nn.length]], fs ++ [clo bn qi], rfl, by omega, g15, fun hf => by have := lq12 qn hf; omega, fun hf => by have := lr12 qn hf; omega, by omega, K15,
      Q12.ke KN (fun j hj hf => by have := lq12 j hf; omega), R12.ke KN (fun j hj hf => by have := lr12 j hf; omega), by simp only [P.hq, List.map_append]; rfl, by simp only [P.hr], by simp [P.lw], by simp [P.lf], dd, P.mq, P.mr, ⟨by simp only; omega, by simp only; omega, cq3⟩, ⟨by simp only; omega, by simp only; omega, cr3⟩, fun k hk => ?_⟩
    by_cases ck : k < i
    · obtain ⟨yy, f, e1, e2, t⟩ := T15 k ck
      exact ⟨yy, f, by rw [List.getElem?_append_left (by rw [P.lw]; exact ck)]; exact e1, by rw [List.getElem?_append_left (by rw [P.lf]; exact ck)]; exact e2, t⟩
    · have hk' : k = i := by omega
      subst hk'
      refine ⟨_, _, by rw [List.getElem?_append_right (by rw [P.lw]; exact Nat.le_refl _), P.lw, Nat.sub_self]; rfl, by rw [List.getElem?_append_right (by rw [P.lf]; exact Nat.le_refl _), P.lf, Nat.sub_self]; rfl, ?_⟩
      rw [← hzz, ← hnn]
      have gb15 := KN.gt gb12 (by omega)
      have gi15 := KN.gt gi12 (by omega)
      refine ⟨_, bn, qi, rfl, rfl, oc12.ke KN (fun j hj hs => by simp only [isBk] at hj; omega), fun j hj => ⟨fun hf => ?_, by simp only [isBk] at hj; omega⟩, gb15, gi15, fun hf => ?_, fun hf => ?_, by omega, by omega⟩
      · simp only [isBk] at hj
        rcases hf with (hf | hf) | (hf | hf)
        · have := fq6 j hf; omega
        · omega
        · have := fr6 j hf; omega
        · omega
      · rcases hf with (hf | hf) | (hf | hf)
        · have := fq6 bn hf; omega
        · omega
        · have := fr6 bn hf; omega
        · omega
      · rcases hf with (hf | hf) | (hf | hf)
        · exact nq hf
        · omega
        · exact nr hf
        · omega
  · have hi : i = min names.length nums.length := by
      simp only [Bool.and_eq_false_iff, decide_eq_false_iff_not] at d
      omega
    clear hj
    obtain ⟨fq6, fr6⟩ := P.fq
    have hc4 : ∀ yy ∈ ws, yy.length = 4 ∧ yy.all AVal.isCell = true := fun yy hy => by
      obtain ⟨k, hk, rfl⟩ := List.mem_iff_getElem.1 hy
      obtain ⟨yy, f, e1, e2, t⟩ := P.t k (by rw [P.lw] at hk; exact hk)
      rw [List.getElem?_eq_getElem hk] at e1
      cases e1
      exact t.len
    have hl4 : ∀ y ∈ ws, y.length = 4 := fun y hy => (hc4 y hy).1
    have hlw := P.lw
    have hlf := P.lf
    (try simp -dsimp (disch := omega) only [↓pre, sp, sp2, wp_some, Int.cast_ofNat_Int, Nat.reduceAdd, Nat.reduceMul, Nat.reduceSub, Nat.reduceLeDiff, Nat.reduceEqDiff, Nat.reducePow, Int.reduceToNat, Int.reducePow, Int.reduceAdd, Int.reduceSub, Int.reduceMul, Int.reduceLT, Int.reduceLE, Int.reduceEq, Int.reduceNeg])
    refine Wp.bind (QTh.drain_spec X (n + 3) w6 P.q P.hq hc4 (by have := P.cq.2.2; omega)) fun r h7 ⟨k7, o7, f7, G, Q7, hG⟩ => ?_
    have hn7 := k7.n
    have g7l : ∀ j, G j → j < h7.n := by obtain ⟨cs, C⟩ := Q7; exact C.fl
    have K7 : Ke (fun _ => True) h h7 := P.k.trans (k7.mono fun _ _ => trivial)
    have R7 := P.r.ke k7 fun j hj hf => P.d j hj hf
    have T7 : ∀ k, k < i → ∃ yy f, ws[k]? = some yy ∧ fs[k]? = some f ∧ Tk h7 Fr (names.getD k []) (nums.getD k 0) k yy f := fun k hk => by
      obtain ⟨yy, f, e1, e2, t⟩ := P.t k hk
      exact ⟨yy, f, e1, e2, (t.ke k7 fun j hj => .inl (.inl hj)).re fun j hj => .inl (.inr hj)⟩
    have ro7 : ∀ j, isBk r j → ¬ Fr j ∧ j < h7.n := fun j hj => ⟨fun hf => by have := fr6 j hf; have := f7 j hj; omega, Ow.bk_lt k7.w' o7 hj⟩
    have G7 : ∀ j, G j → ¬ Fr j ∧ j < h7.n := fun j hj => ⟨fun hf => by
      rcases hG j hj with hh | hh
      · exact P.d j hh hf
      · have := fr6 j hf; omega, g7l j hj⟩
    have hr0 := P.hr
    have ct0 := P.cr.2.2
    (try simp -dsimp (disch := omega) only [↓pre, sp, sp2, wp_some, Int.cast_ofNat_Int, Nat.reduceAdd, Nat.reduceMul, Nat.reduceSub, Nat.reduceLeDiff, Nat.reduceEqDiff, Nat.reducePow, Int.reduceToNat, Int.reducePow, Int.reduceAdd, Int.reduceSub, Int.reduceMul, Int.reduceLT, Int.reduceLE, Int.reduceEq, Int.reduceNeg])
    refine wp_loop (QuI h pq pr names nums i r ws fs) i (by omega) ⟨0, _, sr, G, Fr, rfl, by omega, K7, Q7, rfl, R7, by rw [hr0]; rfl, ct0, G7, o7, ro7, T7⟩ ?_
    clear P Q7 R7 T7 ro7 G7 o7 K7 k7 gi li6 sa6 sb6
    rintro m2 _ h8 j2 ⟨k, sq, sr, G, Fr, rfl, hkm, K8, Q8, hq8, R8, hr8, ct8, G8, o8, ro8, T8⟩ hj2
    unfold L_runglaw24_QueueTypes_0
    have sa8 := sa.ro K8
    have sb8 := sb.ro K8
    (try simp -dsimp (disch := omega) only [↓pre, sp, sp2, wp_some, Int.cast_ofNat_Int, Nat.reduceAdd, Nat.reduceMul, Nat.reduceSub, Nat.reduceLeDiff, Nat.reduceEqDiff, Nat.reducePow, Int.reduceToNat, Int.reducePow, Int.reduceAdd, Int.reduceSub, Int.reduceMul, Int.reduceLT, Int.reduceLE, Int.reduceEq, Int.reduceNeg, sa8.len])
    refine wp_kT (.bool (decide (k < names.length) && decide (k < nums.length))) (fun j3 hj3 => ?_) ?_
    · by_cases d1 : k < names.length
      · have d1' : (k : Int) < names.length := by omega
        rw [decide_eq_true d1] at hj3
        by_cases d2 : k < nums.length
        · have d2' : (k : Int) < nums.length := by omega
          rw [decide_eq_true d2] at hj3
          (try simp -dsimp (disch := omega) only [↓pre, sp, sp2, wp_some, Int.cast_ofNat_Int, Nat.reduceAdd, Nat.reduceMul, Nat.reduceSub, Nat.reduceLeDiff, Nat.reduceEqDiff, Nat.reducePow, Int.reduceToNat, Int.reducePow, Int.reduceAdd, Int.reduceSub, Int.reduceMul, Int.reduceLT, Int.reduceLE, Int.reduceEq, Int.reduceNeg, d1', d2', sb8.len, decide_true]); exact hj3
        · have d2' : ¬ (k : Int) < nums.length := by omega
          rw [decide_eq_false d2] at hj3
          (try simp -dsimp (disch := omega) only [↓pre, sp, sp2, wp_some, Int.cast_ofNat_Int, Nat.reduceAdd, Nat.reduceMul, Nat.reduceSub, Nat.reduceLeDiff, Nat.reduceEqDiff, Nat.reducePow, Int.reduceToNat, Int.reducePow, Int.reduceAdd, Int.reduceSub, Int.reduceMul, Int.reduceLT, Int.reduceLE, Int.reduceEq, Int.reduceNeg, d1', d2', sb8.len, decide_true, decide_false]); exact hj3
      · have d1' : ¬ (k : Int) < names.length := by omega
        rw [decide_eq_false d1] at hj3
        (try simp -dsimp (disch := omega) only [↓pre, sp, sp2, wp_some, Int.cast_ofNat_Int, Nat.reduceAdd, Nat.reduceMul, Nat.reduceSub, Nat.reduceLeDiff, Nat.reduceEqDiff, Nat.reducePow, Int.reduceToNat, Int.reducePow, Int.reduceAdd, Int.reduceSub, Int.reduceMul, Int.reduceLT, Int.reduceLE, Int.reduceEq, Int.reduceNeg, d1', decide_false]); exact hj3
    refine wp_kIf (fun d => ?_) (fun d => ?_)
    · simp only [Bool.and_eq_true, decide_eq_true_eq] at d
      obtain ⟨d1, d2⟩ := d
      have hk : k < i := by omega
      obtain ⟨yy, f, e1, e2, t⟩ := T8 k hk
      have ef : sr.w = f :: fs.drop (k + 1) := by
        rw [hr8]
        have hkf : k < fs.length := by omega
        rw [List.getElem?_eq_getElem hkf] at e2
        cases e2
        exact List.drop_eq_getElem_cons hkf
      (try simp -dsimp (disch := omega) only [↓pre, sp, sp2, wp_some, Int.cast_ofNat_Int, Nat.reduceAdd, Nat.reduceMul, Nat.reduceSub, Nat.reduceLeDiff, Nat.reduceEqDiff, Nat.reducePow, Int.reduceToNat, Int.reducePow, Int.reduceAdd, Int.reduceSub, Int.reduceMul, Int.reduceLT, Int.reduceLE, Int.reduceEq, Int.reduceNeg])
      refine Wp.bind (QFun.take_spec X (n + 3) K8.w' R8 (by omega)) fun v9 h9 ⟨k9, q9⟩ => ?_
      rw [ef] at q9
      obtain ⟨rfl, R9⟩ := q9
      have hn9 := k9.n
      have K9 : Ke (fun _ => True) h h9 := K8.trans (k9.mono fun _ _ => trivial)
      have t9 := t.ke k9 fun j hj => .inl hj
      obtain ⟨c, bn, bi, rfl, rfl, oc, fo, g1, g2, nb1, nb2, l1, l2⟩ := t9
      have o9 := o8.ke k9 fun j hj hf => (ro8 j hj).1 hf
      have lz : rLoad (ea b k) h9 = some (.int .i64 (nums.getD k 0)) := by rw [(sb.ro K9).ld (by simpa using d2)]; simp [d2]
      have ln : rLoad (ea a k) h9 = some (.str (names.getD k [])) := by rw [(sa.ro K9).ld (by simpa using d1)]; simp [d1]
      have ecall : kc ov (n + 7) N_runglaw24_QueueTypes_1 [.ptr (some (bn, 0)), .ptr (some (bi, 0))] h9 = some (.int .i64 (IntKind.wrap .i64 (nums.getD k 0 + k)), h9) := by
        refine Wp.eq ?_
        rw [C_runglaw24_QueueTypes_1 X.p]; unfold F_runglaw24_QueueTypes_1
        have m1 : rLoad (.ptr (some (bn, 0))) h9 = some (.int .i64 (nums.getD k 0)) := by rw [rLoad_ptr, row_rw g1]; rfl
        have m2 : rLoad (.ptr (some (bi, 0))) h9 = some (.int .i64 k) := by rw [rLoad_ptr, row_rw g2]; rfl
        (try simp -dsimp (disch := omega) only [↓pre, sp, sp2, wp_some, Int.cast_ofNat_Int, Nat.reduceAdd, Nat.reduceMul, Nat.reduceSub, Nat.reduceLeDiff, Nat.reduceEqDiff, Nat.reducePow, Int.reduceToNat, Int.reducePow, Int.reduceAdd, Int.reduceSub, Int.reduceMul, Int.reduceLT, Int.reduceLE, Int.reduceEq, Int.reduceNeg, m1, m2])
      have eclo : rCallV (kc ov (n + 7)) (clo bn bi) [] h9 = some (.int .i64 (IntKind.wrap .i64 (nums.getD k 0 + k)), h9) := ecall
      have enil : rBin .eql .func true (clo bn bi) .nilFunc = some (.bool false) := rfl
      obtain ⟨rest, hd⟩ := flat4 hl4 e1
      have hfl := flat4_len hl4
      have hkw : k * 4 + 4 ≤ ws.flatten.length := by rw [hfl]; omega
      have cellAt : ∀ q, q < 4 → rLoad (ea r (k * 4 + q)) h9 = ([.str (names.getD k []), .int .i64 (nums.getD k 0), .int .i64 k, c] : List AVal)[q]? := fun q hq => by
        rw [(Ow.rd o9).ld (by omega)]
        have := congrArg (fun l => l[q]?) hd
        rw [List.getElem?_drop, List.getElem?_append_left (by simpa using hq)] at this
        exact this
      have c0 := cellAt 0 (by omega)
      have c3' := cellAt 3 (by omega)
      simp only [List.getElem?_cons_zero, List.getElem?_cons_succ] at c0 c3'
      rw [Nat.add_zero] at c0
      have cA : rLoadA 2 (ea r (k * 4 + 1)) h9 = some (.agg [.int .i64 (nums.getD k 0), .int .i64 k]) := by
        rw [(Ow.rd o9).ldA (by omega) (by omega)]
        have : ws.flatten.drop (k * 4 + 1) = .int .i64 (nums.getD k 0) :: .int .i64 k :: c :: rest := by
          rw [← List.drop_drop, hd]; rfl
        rw [this]; rfl
      have o9at := fun (q : Int) (h0 : 0 ≤ q) (h1 : q < i) => (Ow.rd o9).at (k := .i64) h0 (show q < _ by omega)
      have o9len : rLen r = some (.int .i64 i) := by have := (Ow.rd o9).len; rw [hlw] at this; exact this
      have etext : rText c h9 = some (.str (names.getD k [])) := (Ow.rd oc).text
      have hA : rBuildA [(.int .i64 0), (.int .i64 0)] 1 [(0, .int .i64 (nums.getD k 0)), (1, .int .i64 k)] = some (.agg [.int .i64 (nums.getD k 0), .int .i64 k]) := rfl
      have hA' : rBuildA [(.int .i64 0), (.int .i64 0)] 1 [(0, .int .i64 (nums.getD k 0)), (1, gd [.int .i64 (k : Int)] 0)] = some (.agg [.int .i64 (nums.getD k 0), .int .i64 k]) := rfl
      have hki : ¬ (i : Int) ≤ (k : Int) := by omega
      have ek : IntKind.wrap .i64 ((k : Int) + 1) = ((k + 1 : Nat) : Int) := by rw [wr_i64 (by omega) (by omega)]; omega
      have sne : ∀ x : List UInt8, rBin .neq .no false (.str x) (.str x) = some (.bool false) := fun x => by rw [rBin_sneq]; simp
      (try simp -dsimp (disch := omega) only [↓pre, sp, sp2, wp_some, Int.cast_ofNat_Int, Nat.reduceAdd, Nat.reduceMul, Nat.reduceSub, Nat.reduceLeDiff, Nat.reduceEqDiff, Nat.reducePow, Int.reduceToNat, Int.reducePow, Int.reduceAdd, Int.reduceSub, Int.reduceMul, Int.reduceLT, Int.reduceLE, Int.reduceEq, Int.reduceNeg, ↓enil, (sb.ro K9).at, lz, ↓eclo, not_true, decide_false, o9len, hki, o9at, rFieldP_ea, Nat.add_zero, c0, (sa.ro K9).at, ln, ↓sne])
      have hg : (!gOn (.bool false) false) = false := rfl
      (try simp -dsimp (disch := omega) only [↓pre, sp, sp2, wp_some, Int.cast_ofNat_Int, Nat.reduceAdd, Nat.reduceMul, Nat.reduceSub, Nat.reduceLeDiff, Nat.reduceEqDiff, Nat.reducePow, Int.reduceToNat, Int.reducePow, Int.reduceAdd, Int.reduceSub, Int.reduceMul, Int.reduceLT, Int.reduceLE, Int.reduceEq, Int.reduceNeg, cA, (sb.ro K9).at, lz, ↓hA, ↓hA', ↓ints2, o9at, rFieldP_ea, c3', etext, (sa.ro K9).at, ln, ↓sne, hg, Bool.false_or, ek])
      have lr9 : ∀ j, Gr Fr h8 h9 j → Fr j ∨ h8.n ≤ j := fun j hj => hj.imp id fun hh => hh.1
      refine hj2 (m2 - 1) _ _ (by omega) ⟨k + 1, sq, sr.pop, G, Gr Fr h8 h9, rfl, by omega, K9, Q8.ke k9 (fun j hj hf => (G8 j hf).1 hj), hq8, R9, ?_, ?_, fun j hj => ⟨fun hf => ?_, by have := (G8 j hj).2; omega⟩, o9, fun j hj => ⟨fun hf => ?_, by have := (ro8 j hj).2; omega⟩, fun k' hk' => ?_⟩
      · simp only [QSt.pop, ef, List.tail_cons]
      · simp only [QSt.pop, ct8]
      · rcases lr9 j hf with hh | hh
        · exact (G8 j hj).1 hh
        · have := (G8 j hj).2; omega
      · rcases lr9 j hf with hh | hh
        · exact (ro8 j hj).1 hh
        · have := (ro8 j hj).2; omega
      · obtain ⟨yy, f, e1', e2', t'⟩ := T8 k' hk'
        exact ⟨yy, f, e1', e2', (t'.re lr9).ke k9 fun j hj => .inl (.inl hj)⟩
    · have hk : k = i := by
        simp only [Bool.and_eq_false_iff, decide_eq_false_iff_not] at d
        omega
      subst hk
      have er8 : sr.w.length = 0 := by rw [hr8, List.drop_of_length_le (by omega)]; rfl
      (try simp -dsimp (disch := omega) only [↓pre, sp, sp2, wp_some, Int.cast_ofNat_Int, Nat.reduceAdd, Nat.reduceMul, Nat.reduceSub, Nat.reduceLeDiff, Nat.reduceEqDiff, Nat.reducePow, Int.reduceToNat, Int.reducePow, Int.reduceAdd, Int.reduceSub, Int.reduceMul, Int.reduceLT, Int.reduceLE, Int.reduceEq, Int.reduceNeg])
      refine Wp.bind (QFun.len_spec X (n + 3) K8.w' R8) fun v9 h9 ⟨e9, k9, n9, R9⟩ => ?_
      subst e9
      have Q9 := Q8.ke k9 fun j hj hf => (G8 j hf).1 hj
      have eq8 : sq.w.length = 0 := by rw [hq8]; rfl
      rw [er8]
      (try simp -dsimp (disch := omega) only [↓pre, sp, sp2, wp_some, Int.cast_ofNat_Int, Nat.reduceAdd, Nat.reduceMul, Nat.reduceSub, Nat.reduceLeDiff, Nat.reduceEqDiff, Nat.reducePow, Int.reduceToNat, Int.reducePow, Int.reduceAdd, Int.reduceSub, Int.reduceMul, Int.reduceLT, Int.reduceLE, Int.reduceEq, Int.reduceNeg, decide_true])
      refine wp_kTh (fun v h' => v = .bool true) (fun j3 hj3 => ?_) ?_
      · (try simp -dsimp (disch := omega) only [↓pre, sp, sp2, wp_some, Int.cast_ofNat_Int, Nat.reduceAdd, Nat.reduceMul, Nat.reduceSub, Nat.reduceLeDiff, Nat.reduceEqDiff, Nat.reducePow, Int.reduceToNat, Int.reducePow, Int.reduceAdd, Int.reduceSub, Int.reduceMul, Int.reduceLT, Int.reduceLE, Int.reduceEq, Int.reduceNeg])
        refine Wp.bind (QTh.len_spec X (n + 3) k9.w' Q9) fun v10 h10 ⟨e10, k10, n10, Q10⟩ => ?_
        subst e10
        rw [eq8]
        (try simp -dsimp (disch := omega) only [↓pre, sp, sp2, wp_some, Int.cast_ofNat_Int, Nat.reduceAdd, Nat.reduceMul, Nat.reduceSub, Nat.reduceLeDiff, Nat.reduceEqDiff, Nat.reducePow, Int.reduceToNat, Int.reducePow, Int.reduceAdd, Int.reduceSub, Int.reduceMul, Int.reduceLT, Int.reduceLE, Int.reduceEq, Int.reduceNeg, decide_true])
        exact hj3 _ _ rfl
      · rintro _ h11 rfl
        (try simp -dsimp (disch := omega) only [↓pre, sp, sp2, wp_some, Int.cast_ofNat_Int, Nat.reduceAdd, Nat.reduceMul, Nat.reduceSub, Nat.reduceLeDiff, Nat.reduceEqDiff, Nat.reducePow, Int.reduceToNat, Int.reducePow, Int.reduceAdd, Int.reduceSub, Int.reduceMul, Int.reduceLT, Int.reduceLE, Int.reduceEq, Int.reduceNeg])
end Go.Proofs.Ytfppdfmffdkogaa.AI
