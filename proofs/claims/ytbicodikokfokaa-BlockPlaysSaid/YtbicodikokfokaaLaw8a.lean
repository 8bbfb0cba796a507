/- Chapter 8: BlockShape, BlockApart, BlockTears: what their texts come to. -/
import Derived.Test.YtbicodikokfokaaHelp8
namespace Go.Proofs.Ytbicodikokfokaa.AI
open Go
set_option linter.unusedSimpArgs false
set_option linter.unusedVariables false
variable {ov : AOver} {h : AH} {v a b : AVal} {md md' : AMode}

def knownAns : List AVal → AH → Ans := fun args h => match args with
  | [] => some (.bool true, h)
  | _ => none
structure Ov8 (ov : AOver) : Prop where
  p : Plain ov
  k : ov N_runglaw8_known = some knownAns
theorem known_spec (H : Ov8 ov) (n : Nat) : kc ov (n + 1) N_runglaw8_known [] h = some (.bool true, h) := by
  unfold kc; simp only [kcall, H.k]; rfl

theorem blockShape (H : Ov8 ov) (n : Nat) (w : Wf h) (bl sz : Int) :
    Wp (kc ov (n + 3) N_runglaw8_BlockShape [.int .i64 bl, .int .i64 sz] h) fun r _ => r = .bool true := by
  rw [C_runglaw8_BlockShape H.p]; unfold F_runglaw8_BlockShape
  simp -dsimp (disch := omega) only [↓pre, sp, sp2, wp_some, Int.cast_ofNat_Int, Nat.reduceAdd, Nat.reduceMul, Nat.reduceSub, Nat.reduceLeDiff, Nat.reduceEqDiff, Nat.reducePow, Int.reduceToNat, Int.reducePow, Int.reduceAdd, Int.reduceSub, Int.reduceMul, Int.reduceLT, Int.reduceLE, Int.reduceEq, Int.reduceNeg, known_spec H]
  refine Wp.bind (new_spec H.p _ w bl sz) fun v6 h1 ⟨k1, p, lv, vs, e1, t1, f1⟩ => ?_
  subst e1
  have hbl : ((newM bl sz).bl.length : Int) = min (max bl 1) 64 := by simp [newM]; omega
  have hsz : ((newM bl sz).size : Int) = min (max sz 16) 4096 := by simp [newM]; omega
  simp -dsimp (disch := omega) only [↓pre, sp, sp2, wp_some, Int.cast_ofNat_Int, Nat.reduceAdd, Nat.reduceMul, Nat.reduceSub, Nat.reduceLeDiff, Nat.reduceEqDiff, Nat.reducePow, Int.reduceToNat, Int.reducePow, Int.reduceAdd, Int.reduceSub, Int.reduceMul, Int.reduceLT, Int.reduceLE, Int.reduceEq, Int.reduceNeg, blocks_spec H.p _ t1, hbl]
  refine wp_kTh (fun v h9 => h9 = h1 ∧ v = .bool false) (fun j hj => ?_) ?_
  · simp -dsimp (disch := omega) only [↓pre, sp, sp2, wp_some, Int.cast_ofNat_Int, Nat.reduceAdd, Nat.reduceMul, Nat.reduceSub, Nat.reduceLeDiff, Nat.reduceEqDiff, Nat.reducePow, Int.reduceToNat, Int.reducePow, Int.reduceAdd, Int.reduceSub, Int.reduceMul, Int.reduceLT, Int.reduceLE, Int.reduceEq, Int.reduceNeg, size_spec H.p _ t1, hsz, dead_spec H.p _ t1, writes_spec H.p _ t1, show (newM bl sz).dead = false from rfl, show (newM bl sz).writes = 0 from rfl]
    exact hj _ _ ⟨rfl, rfl⟩
  rintro v h9 ⟨rfl, rfl⟩
  simp -dsimp (disch := omega) only [↓pre, sp, sp2, wp_some, Int.cast_ofNat_Int, Nat.reduceAdd, Nat.reduceMul, Nat.reduceSub, Nat.reduceLeDiff, Nat.reduceEqDiff, Nat.reducePow, Int.reduceToNat, Int.reducePow, Int.reduceAdd, Int.reduceSub, Int.reduceMul, Int.reduceLT, Int.reduceLE, Int.reduceEq, Int.reduceNeg]
  have hcnt := t1.cnt
  have htn := t1.n
  refine wp_loop (fun m l h2 => ∃ i : Nat, l = [.int .i64 i] ∧ 100 ≤ i + m ∧ i ≤ 200 ∧ Kp h9 h2) 100 (by omega) ⟨0, rfl, by omega, by omega, Ke.refl k1.w'⟩ ?_
  rintro m _ h2 j ⟨i, rfl, him, hi2, k2⟩ hj
  unfold L_runglaw8_BlockShape_0
  have t2 := t1.kp k2
  simp -dsimp (disch := omega) only [↓pre, sp, sp2, wp_some, Int.cast_ofNat_Int, Nat.reduceAdd, Nat.reduceMul, Nat.reduceSub, Nat.reduceLeDiff, Nat.reduceEqDiff, Nat.reducePow, Int.reduceToNat, Int.reducePow, Int.reduceAdd, Int.reduceSub, Int.reduceMul, Int.reduceLT, Int.reduceLE, Int.reduceEq, Int.reduceNeg, blocks_spec H.p _ t2]
  refine wp_ite (fun c => ?_) (fun c => ?_)
  · refine Wp.bind (read_spec H.p _ k2.w' t2 i) fun v46 h3 ⟨k3, v3, e3, o3, f3⟩ => ?_
    subst e3
    have his : isM (newM bl sz) i = 0 := by
      unfold isM
      rw [if_neg (by simp [newM]), if_neg (by omega)]
    have hr : readM (newM bl sz) i = (List.replicate (newM bl sz).size 0, 0) := by
      have hil : i < (min (max bl 1) 64).toNat := by have : (newM bl sz).bl.length = (min (max bl 1) 64).toNat := by simp [newM]
                                                     omega
      unfold readM
      rw [if_pos his]
      simp [newM, List.getD, hil]
    rw [hr] at o3
    have t3 := t2.kp k3
    simp -dsimp (disch := omega) only [↓pre, sp, sp2, wp_some, Int.cast_ofNat_Int, Nat.reduceAdd, Nat.reduceMul, Nat.reduceSub, Nat.reduceLeDiff, Nat.reduceEqDiff, Nat.reducePow, Int.reduceToNat, Int.reducePow, Int.reduceAdd, Int.reduceSub, Int.reduceMul, Int.reduceLT, Int.reduceLE, Int.reduceEq, Int.reduceNeg, hr]
    refine wp_kTh (fun v h9 => Kp h2 h9 ∧ v = .bool false) (fun j hj => ?_) ?_
    · simp -dsimp (disch := omega) only [↓pre, sp, sp2, wp_some, Int.cast_ofNat_Int, Nat.reduceAdd, Nat.reduceMul, Nat.reduceSub, Nat.reduceLeDiff, Nat.reduceEqDiff, Nat.reducePow, Int.reduceToNat, Int.reducePow, Int.reduceAdd, Int.reduceSub, Int.reduceMul, Int.reduceLT, Int.reduceLE, Int.reduceEq, Int.reduceNeg, size_spec H.p _ t3]
      refine wp_makeSl k3.w' (by omega) (by omega) (by have := t1.sz; omega) (by have := t1.sz; omega) rfl (by omega) rfl fun q h4 hq k4 n4 g4 => ?_
      rw [Int.toNat_natCast, manyT_u8] at g4
      have s4 : Bs h4 (.slice (some (q, 0, 1)) (newM bl sz).size (newM bl sz).size) (List.replicate (newM bl sz).size 0) .rw := ((Ow.new g4 (by omega) (newM bl sz).size (by simp [bytesOf]) (isCell_bytes _)).rd).to rfl (by simp)
      have hb := fun n => bytes_spec H.p n (o3.kp k4).rd s4
      simp -dsimp (disch := omega) only [↓pre, sp, sp2, wp_some, Int.cast_ofNat_Int, Nat.reduceAdd, Nat.reduceMul, Nat.reduceSub, Nat.reduceLeDiff, Nat.reduceEqDiff, Nat.reducePow, Int.reduceToNat, Int.reducePow, Int.reduceAdd, Int.reduceSub, Int.reduceMul, Int.reduceLT, Int.reduceLE, Int.reduceEq, Int.reduceNeg, hb]
      exact hj _ _ ⟨k3.trans k4, by simp⟩
    · rintro v h5 ⟨k5, rfl⟩
      have t5 := t2.kp k5
      simp -dsimp (disch := omega) only [↓pre, sp, sp2, wp_some, Int.cast_ofNat_Int, Nat.reduceAdd, Nat.reduceMul, Nat.reduceSub, Nat.reduceLeDiff, Nat.reduceEqDiff, Nat.reducePow, Int.reduceToNat, Int.reducePow, Int.reduceAdd, Int.reduceSub, Int.reduceMul, Int.reduceLT, Int.reduceLE, Int.reduceEq, Int.reduceNeg, blocks_spec H.p _ t5]
      have e1 : IntKind.wrap .i64 ((i : Int) + IntKind.wrap .i64 (1 + IntKind.wrap .i64 (((newM bl sz).bl.length : Int).tdiv 5))) = ((i + (1 + (newM bl sz).bl.length / 5) : Nat) : Int) := by
        rw [Int.tdiv_eq_ediv_of_nonneg (by omega), wr_i64 (n := ((newM bl sz).bl.length : Int) / 5) (by omega) (by omega), wr_i64 (n := 1 + _) (by omega) (by omega), wr_i64 (by omega) (by omega)]; omega
      rw [e1]
      exact hj (m - (1 + (newM bl sz).bl.length / 5)) _ _ (by omega) ⟨_, rfl, by omega, by omega, k2.trans k5⟩
  · simp -dsimp (disch := omega) only [↓pre, sp, sp2, wp_some, Int.cast_ofNat_Int, Nat.reduceAdd, Nat.reduceMul, Nat.reduceSub, Nat.reduceLeDiff, Nat.reduceEqDiff, Nat.reducePow, Int.reduceToNat, Int.reducePow, Int.reduceAdd, Int.reduceSub, Int.reduceMul, Int.reduceLT, Int.reduceLE, Int.reduceEq, Int.reduceNeg]

variable {p : Nat} {lv : AVal} {vs : List AVal}
/-- What must be read behind the tear. -/
def wantM (old now : List UInt8) (k n i : Nat) : List UInt8 := if i = 7 then now.take k ++ old.drop k else if i < n then now else old
/-- A store behind the tear. -/
def tornM (size n : Nat) (px : Int) (old now : List UInt8) (k : Nat) : BSt := ⟨(List.replicate n now ++ List.replicate (8 - n) old).set 7 (now.take k ++ old.drop k), size, 8 + n, -1, px, false⟩
theorem tornM_get {size n : Nat} {px : Int} {old now : List UInt8} {k i : Nat} (hn : n < 6) (hi : i < 8) : (tornM size n px old now k).bl.getD i [] = wantM old now k n i := by
  unfold tornM wantM
  simp only [List.getD_eq_getElem?_getD, List.getElem?_set, List.length_append, List.length_replicate]
  by_cases c : i = 7
  · subst c
    rw [if_pos rfl, if_pos (by omega), if_pos rfl]
    rfl
  · rw [if_neg (by omega), if_neg c]
    by_cases c2 : i < n
    · rw [List.getElem?_append_left (by simpa using c2), if_pos c2, List.getElem?_replicate, if_pos c2]; rfl
    · rw [List.getElem?_append_right (by simp; omega), if_neg c2, List.length_replicate, List.getElem?_replicate, if_pos (by omega)]; rfl
theorem tears0 (H : Ov8 ov) (d : Nat) {size n k : Nat} {px : Int} {old now : List UInt8} {ov' nv : AVal} (hn : n < 6) (hk : k ≤ size) (hold : old.length = size) (hnow : now.length = size)
    (w : Wf h) (t : Sto h p (tornM size n px old now k) lv vs) (so : Bs h ov' old .rw) (sn : Bs h nv now .rw) (hnm : ¬ Mine p lv vs (bk nv)) :
    Wp (kLoop (L_runglaw8_BlockTears_0 (kc ov (d + 2)) (kd ov (d + 2)) ov' (.int .i64 n) (.ptr (some (p, 0))) nv (.int .i64 k)) rounds [.int .i64 0] h) fun r _ => r = .bool true := by
  have hsz := t.sz
  simp only [tornM] at hsz
  refine wp_loop (fun m l h2 => ∃ i : Nat, l = [.int .i64 i] ∧ i + m = 8 ∧ Kp h h2) 8 (by omega) ⟨0, rfl, rfl, Ke.refl w⟩ ?_
  rintro m _ h2 j ⟨i, rfl, him, k2⟩ hj
  unfold L_runglaw8_BlockTears_0
  have t2 := t.kp k2
  simp -dsimp (disch := omega) only [↓pre, sp, sp2, wp_some, Int.cast_ofNat_Int, Nat.reduceAdd, Nat.reduceMul, Nat.reduceSub, Nat.reduceLeDiff, Nat.reduceEqDiff, Nat.reducePow, Int.reduceToNat, Int.reducePow, Int.reduceAdd, Int.reduceSub, Int.reduceMul, Int.reduceLT, Int.reduceLE, Int.reduceEq, Int.reduceNeg]
  refine wp_ite (fun c => ?_) (fun c => ?_)
  · -- what is wanted
    refine wp_kJ (fun l h20 => h20 = h2 ∧ l = [if i < n then nv else ov']) (fun j1 hj1 => ?_) ?_
    · simp -dsimp (disch := omega) only [↓pre, sp, sp2, wp_some, Int.cast_ofNat_Int, Nat.reduceAdd, Nat.reduceMul, Nat.reduceSub, Nat.reduceLeDiff, Nat.reduceEqDiff, Nat.reducePow, Int.reduceToNat, Int.reducePow, Int.reduceAdd, Int.reduceSub, Int.reduceMul, Int.reduceLT, Int.reduceLE, Int.reduceEq, Int.reduceNeg]
      refine wp_ite (fun c1 => ?_) (fun c1 => ?_)
      · exact hj1 _ _ ⟨rfl, by rw [if_pos (by omega)]⟩
      · exact hj1 _ _ ⟨rfl, by rw [if_neg (by omega)]⟩
    rintro _ h2 ⟨rfl, rfl⟩
    simp -dsimp (disch := omega) only [↓pre, sp, sp2, wp_some, Int.cast_ofNat_Int, Nat.reduceAdd, Nat.reduceMul, Nat.reduceSub, Nat.reduceLeDiff, Nat.reduceEqDiff, Nat.reducePow, Int.reduceToNat, Int.reducePow, Int.reduceAdd, Int.reduceSub, Int.reduceMul, Int.reduceLT, Int.reduceLE, Int.reduceEq, Int.reduceNeg]
    refine wp_kJ (fun l h21 => Kp h2 h21 ∧ ∃ x, l = [x] ∧ Bs h21 x (wantM old now k n i) .rw) (fun j1 hj1 => ?_) ?_
    · refine wp_kIf (fun c1 => ?_) (fun c1 => ?_)
      · have c1' : i = 7 := by have := of_decide_eq_true c1; omega
        obtain ⟨x1, e1, s1, _⟩ := (sn.kp k2).cutR (q := .i64) (b := (k : Int)) (by omega) (by omega)
        obtain ⟨x2, e2, s2, _⟩ := (so.kp k2).cutL (p := .i64) (a := (k : Int)) (by omega) (by omega)
        simp -dsimp (disch := omega) only [↓pre, sp, sp2, wp_some, Int.cast_ofNat_Int, Nat.reduceAdd, Nat.reduceMul, Nat.reduceSub, Nat.reduceLeDiff, Nat.reduceEqDiff, Nat.reducePow, Int.reduceToNat, Int.reducePow, Int.reduceAdd, Int.reduceSub, Int.reduceMul, Int.reduceLT, Int.reduceLE, Int.reduceEq, Int.reduceNeg, e1, e2]
        have s1' : Bs h2 x1 (now.take k) .rw := s1.to (by rw [bytesOf_take]; simp) (by rw [List.length_take]; omega)
        have s2' : Bs h2 x2 (old.drop k) .rw := s2.to (by rw [bytesOf_drop]; simp) (by rw [List.length_drop]; omega)
        refine wp_append k2.w' (Ow.nil h2 T_uint8 1 (by omega)) s1' (isCell_bytes _) (by omega) (by rw [List.length_take]; omega) fun v3 h3 o3 k3 f3 => ?_
        have K3 : Kp h2 h3 := k3.mono fun _ f => f.elim
        refine wp_append K3.w' o3 (s2'.kp K3) (isCell_bytes _) (by omega) (by rw [List.length_take, List.length_drop]; omega) fun v4 h4 o4 k4 f4 => ?_
        simp -dsimp (disch := omega) only [↓pre, sp, sp2, wp_some, Int.cast_ofNat_Int, Nat.reduceAdd, Nat.reduceMul, Nat.reduceSub, Nat.reduceLeDiff, Nat.reduceEqDiff, Nat.reducePow, Int.reduceToNat, Int.reducePow, Int.reduceAdd, Int.reduceSub, Int.reduceMul, Int.reduceLT, Int.reduceLE, Int.reduceEq, Int.reduceNeg]
        refine hj1 _ _ ⟨Ke.new_p K3 k4 (fun q hq => (f3 q hq).resolve_left id), v4, rfl, o4.rd.to ?_ ?_⟩
        · rw [List.nil_append, ← bytesOf_append]; unfold wantM; rw [if_pos c1']
        · unfold wantM; rw [if_pos c1', List.length_append, Nat.zero_add]
      · have c1' : ¬ i = 7 := by have := of_decide_eq_false c1; omega
        refine hj1 _ _ ⟨Ke.refl k2.w', _, rfl, ?_⟩
        unfold wantM
        rw [if_neg c1']
        split
        · exact sn.kp k2
        · exact so.kp k2
    rintro _ h3 ⟨k3, x, rfl, sx⟩
    have t3 := t2.kp k3
    simp -dsimp (disch := omega) only [↓pre, sp, sp2, wp_some, Int.cast_ofNat_Int, Nat.reduceAdd, Nat.reduceMul, Nat.reduceSub, Nat.reduceLeDiff, Nat.reduceEqDiff, Nat.reducePow, Int.reduceToNat, Int.reducePow, Int.reduceAdd, Int.reduceSub, Int.reduceMul, Int.reduceLT, Int.reduceLE, Int.reduceEq, Int.reduceNeg]
    refine Wp.bind (read_spec H.p _ k3.w' t3 i) fun v46 h4 ⟨k4, v4, e4, o4, f4⟩ => ?_
    subst e4
    have his : isM (tornM size n px old now k) i = 0 := by
      unfold isM
      rw [if_neg (by simp [tornM]), if_neg (by simp [tornM]; omega)]
    have hr : readM (tornM size n px old now k) i = (wantM old now k n i, 0) := by
      unfold readM
      rw [if_pos his, Int.toNat_natCast, tornM_get hn (by omega)]
    rw [hr] at o4
    have hb := fun d => bytes_spec H.p d o4.rd (sx.kp k4)
    simp -dsimp (disch := omega) only [↓pre, sp, sp2, wp_some, Int.cast_ofNat_Int, Nat.reduceAdd, Nat.reduceMul, Nat.reduceSub, Nat.reduceLeDiff, Nat.reduceEqDiff, Nat.reducePow, Int.reduceToNat, Int.reducePow, Int.reduceAdd, Int.reduceSub, Int.reduceMul, Int.reduceLT, Int.reduceLE, Int.reduceEq, Int.reduceNeg, hr]
    refine wp_kTh (fun v h9 => h9 = h4 ∧ v = .bool false) (fun j hj => ?_) ?_
    · simp -dsimp (disch := omega) only [↓pre, sp, sp2, wp_some, Int.cast_ofNat_Int, Nat.reduceAdd, Nat.reduceMul, Nat.reduceSub, Nat.reduceLeDiff, Nat.reduceEqDiff, Nat.reducePow, Int.reduceToNat, Int.reducePow, Int.reduceAdd, Int.reduceSub, Int.reduceMul, Int.reduceLT, Int.reduceLE, Int.reduceEq, Int.reduceNeg, hb]
      exact hj _ _ ⟨rfl, by simp⟩
    · rintro v h5 ⟨rfl, rfl⟩
      have e1 : IntKind.wrap .i64 ((i : Int) + 1) = ((i + 1 : Nat) : Int) := by rw [wr_i64 (by omega) (by omega)]; omega
      simp -dsimp (disch := omega) only [↓pre, sp, sp2, wp_some, Int.cast_ofNat_Int, Nat.reduceAdd, Nat.reduceMul, Nat.reduceSub, Nat.reduceLeDiff, Nat.reduceEqDiff, Nat.reducePow, Int.reduceToNat, Int.reducePow, Int.reduceAdd, Int.reduceSub, Int.reduceMul, Int.reduceLT, Int.reduceLE, Int.reduceEq, Int.reduceNeg, e1]
      exact hj (m - 1) _ _ (by omega) ⟨_, rfl, by omega, k2.trans (k3.trans k4)⟩
  · have sn2 := sn.kp k2
    have his : isM (tornM size n px old now k) 7 = 0 := by
      unfold isM
      rw [if_neg (by simp [tornM]), if_neg (by simp [tornM]; omega)]
    simp -dsimp (disch := omega) only [↓pre, sp, sp2, wp_some, Int.cast_ofNat_Int, Nat.reduceAdd, Nat.reduceMul, Nat.reduceSub, Nat.reduceLeDiff, Nat.reduceEqDiff, Nat.reducePow, Int.reduceToNat, Int.reducePow, Int.reduceAdd, Int.reduceSub, Int.reduceMul, Int.reduceLT, Int.reduceLE, Int.reduceEq, Int.reduceNeg, writes_spec H.p _ t2, show (tornM size n px old now k).writes = 8 + n from rfl]
    refine wp_kTh (fun v h9 => v = .bool true) (fun j hj => ?_) ?_
    · have e8 : ((8 + n : Nat) : Int) = 8 + (n : Int) := by omega
      simp -dsimp (disch := omega) only [↓pre, sp, sp2, wp_some, Int.cast_ofNat_Int, Nat.reduceAdd, Nat.reduceMul, Nat.reduceSub, Nat.reduceLeDiff, Nat.reduceEqDiff, Nat.reducePow, Int.reduceToNat, Int.reducePow, Int.reduceAdd, Int.reduceSub, Int.reduceMul, Int.reduceLT, Int.reduceLE, Int.reduceEq, Int.reduceNeg, e8]
      refine Wp.bind (write_store_spec H.p _ k2.w' t2 7 sn2 (.inr hnm) (by simp [tornM]; omega)) fun v9 h9 ⟨e9, _, _⟩ => ?_
      have : (writeM (tornM size n px old now k) 7 now).2 = 0 := by
        unfold writeM
        rw [if_neg (by rw [his]; simp), if_neg (by simp [tornM, hnow]), if_neg (by simp [tornM])]
      rw [this] at e9
      subst e9
      simp -dsimp (disch := omega) only [↓pre, sp, sp2, wp_some, Int.cast_ofNat_Int, Nat.reduceAdd, Nat.reduceMul, Nat.reduceSub, Nat.reduceLeDiff, Nat.reduceEqDiff, Nat.reducePow, Int.reduceToNat, Int.reducePow, Int.reduceAdd, Int.reduceSub, Int.reduceMul, Int.reduceLT, Int.reduceLE, Int.reduceEq, Int.reduceNeg, e8]
      exact hj _ _ rfl
    · rintro v h9 rfl
      simp -dsimp (disch := omega) only [↓pre, sp, sp2, wp_some, Int.cast_ofNat_Int, Nat.reduceAdd, Nat.reduceMul, Nat.reduceSub, Nat.reduceLeDiff, Nat.reduceEqDiff, Nat.reducePow, Int.reduceToNat, Int.reducePow, Int.reduceAdd, Int.reduceSub, Int.reduceMul, Int.reduceLT, Int.reduceLE, Int.reduceEq, Int.reduceNeg]

/-- A store ahead of the tear: i of the first are written anew. -/
def midM (size n : Nat) (px : Int) (old now : List UInt8) (i : Nat) : BSt := ⟨List.replicate i now ++ List.replicate (8 - i) old, size, 8 + i, (n : Int) - i, px, false⟩
theorem midM_is {size n : Nat} {px : Int} {old now : List UInt8} {i j : Nat} (hi : i ≤ 8) (hj : j < 8) : isM (midM size n px old now i) j = 0 := by
  unfold isM
  rw [if_neg (by simp [midM]), if_neg (by simp [midM]; omega)]
theorem midM_write {size n : Nat} {px : Int} {old now : List UInt8} {i : Nat} (hnow : now.length = size) (hi : i < n) (hn : n < 6) : writeM (midM size n px old now i) i now = (midM size n px old now (i + 1), 0) := by
  unfold writeM
  rw [if_neg (by rw [midM_is (by omega) (by omega)]; simp), if_neg (by simp [midM, hnow]), if_neg (by simp [midM]; omega)]
  simp only [midM, Int.toNat_natCast, Prod.mk.injEq, BSt.mk.injEq, and_true, true_and]
  refine ⟨?_, by omega, by omega⟩
  rw [show 8 - i = (8 - (i + 1)) + 1 by omega]
  exact set_rep _ _ _ _
theorem midM_tear {size n : Nat} {px : Int} {old now : List UInt8} (hnow : now.length = size) (hold : old.length = size) (hn : n < 6) :
    (writeM (midM size n px old now n) 7 now).2 = 82 ∧ (writeM (midM size n px old now n) 7 now).1.dead = true ∧ { (writeM (midM size n px old now n) 7 now).1 with left := -1, dead := false } = tornM size n px old now (min (max px 0) size).toNat := by
  have hg : (List.replicate n now ++ List.replicate (8 - n) old).getD 7 [] = old := by
    rw [List.getD_eq_getElem?_getD, List.getElem?_append_right (by simp; omega), List.length_replicate, List.getElem?_replicate, if_pos (by omega)]; rfl
  have e : writeM (midM size n px old now n) 7 now = ({ midM size n px old now n with bl := (midM size n px old now n).bl.set 7 (now.take (min (max px 0) size).toNat ++ old.drop (min (max px 0) size).toNat), dead := true }, 82) := by
    unfold writeM
    rw [if_neg (by rw [show (7 : Int) = ((7 : Nat) : Int) from rfl, midM_is (by omega) (by omega)]; simp), if_neg (by simp [midM, hnow]), if_pos (by simp [midM])]
    simp only [midM, show Int.toNat 7 = 7 from rfl, hg]
  rw [e]
  exact ⟨rfl, rfl, rfl⟩
theorem writeM_dead {s : BSt} {i : Int} {b : List UInt8} (h : s.dead = true) : writeM s i b = (s, 82) := by
  have : isM s i = 82 := by simp [isM, h]
  unfold writeM
  rw [if_pos (by rw [this]; simp), this]

theorem tears1 (H : Ov8 ov) (d : Nat) {size n : Nat} {px : Int} {old now : List UInt8} {ov' nv : AVal} (hn : n < 6) (hold : old.length = size) (hnow : now.length = size)
    (w : Wf h) (t : Sto h p (midM size n px old now 0) lv vs) (so : Bs h ov' old .rw) (sn : Bs h nv now .rw) (hom : ¬ Mine p lv vs (bk ov')) (hnm : ¬ Mine p lv vs (bk nv)) :
    Wp (kLoop (L_runglaw8_BlockTears_1 (kc ov (d + 2)) (kd ov (d + 2)) (.int .i64 n) (.ptr (some (p, 0))) nv (.int .i64 px) (.int .i64 size) ov') rounds [.int .i64 0] h) fun r _ => r = .bool true := by
  have hsz := t.sz
  simp only [midM] at hsz
  refine wp_loop (fun m l h2 => ∃ i : Nat, l = [.int .i64 i] ∧ i + m = n ∧ Ke (Mine p lv vs) h h2 ∧ Sto h2 p (midM size n px old now i) lv vs) n (by omega) ⟨0, rfl, by omega, Ke.refl w, t⟩ ?_
  rintro m _ h2 j ⟨i, rfl, him, k2, t2⟩ hj
  unfold L_runglaw8_BlockTears_1
  have sn2 := sn.ke k2 (.inr hnm)
  have so2 := so.ke k2 (.inr hom)
  simp -dsimp (disch := omega) only [↓pre, sp, sp2, wp_some, Int.cast_ofNat_Int, Nat.reduceAdd, Nat.reduceMul, Nat.reduceSub, Nat.reduceLeDiff, Nat.reduceEqDiff, Nat.reducePow, Int.reduceToNat, Int.reducePow, Int.reduceAdd, Int.reduceSub, Int.reduceMul, Int.reduceLT, Int.reduceLE, Int.reduceEq, Int.reduceNeg]
  refine wp_ite (fun c => ?_) (fun c => ?_)
  · refine Wp.bind (write_store_spec H.p _ k2.w' t2 i sn2 (.inr hnm) (by simp [midM]; omega)) fun v3 h3 ⟨e3, t3, k3⟩ => ?_
    rw [midM_write hnow (by omega) hn] at e3 t3
    subst e3
    have e1 : IntKind.wrap .i64 ((i : Int) + 1) = ((i + 1 : Nat) : Int) := by rw [wr_i64 (by omega) (by omega)]; omega
    simp -dsimp (disch := omega) only [↓pre, sp, sp2, wp_some, Int.cast_ofNat_Int, Nat.reduceAdd, Nat.reduceMul, Nat.reduceSub, Nat.reduceLeDiff, Nat.reduceEqDiff, Nat.reducePow, Int.reduceToNat, Int.reducePow, Int.reduceAdd, Int.reduceSub, Int.reduceMul, Int.reduceLT, Int.reduceLE, Int.reduceEq, Int.reduceNeg, e1]
    exact hj (m - 1) _ _ (by omega) ⟨i + 1, rfl, by omega, k2.trans k3, t3⟩
  · have hin : i = n := by omega
    subst hin
    obtain ⟨m1, m2, m3⟩ := midM_tear (size := size) (n := i) (px := px) (old := old) (now := now) hnow hold hn
    refine Wp.bind (write_store_spec H.p _ k2.w' t2 7 sn2 (.inr hnm) (by simp [midM]; omega)) fun v3 h3 ⟨e3, t3, k3⟩ => ?_
    rw [m1] at e3
    subst e3
    simp -dsimp (disch := omega) only [↓pre, sp, sp2, wp_some, Int.cast_ofNat_Int, Nat.reduceAdd, Nat.reduceMul, Nat.reduceSub, Nat.reduceLeDiff, Nat.reduceEqDiff, Nat.reducePow, Int.reduceToNat, Int.reducePow, Int.reduceAdd, Int.reduceSub, Int.reduceMul, Int.reduceLT, Int.reduceLE, Int.reduceEq, Int.reduceNeg]
    generalize hs : (writeM (midM size i px old now i) 7 now).1 = s3 at t3 m2 m3
    have hw3 : s3.writes < 2 ^ 62 - 1 := by
      have := congrArg BSt.writes m3
      simp only [tornM] at this
      omega
    have sn3 := sn2.ke k3 (.inr hnm)
    have so3 := so2.ke k3 (.inr hom)
    refine wp_kTh (fun v h9 => v = .bool false ∧ Ke (Mine p lv vs) h3 h9 ∧ Sto h9 p s3 lv vs) (fun j hj => ?_) ?_
    · simp -dsimp (disch := omega) only [↓pre, sp, sp2, wp_some, Int.cast_ofNat_Int, Nat.reduceAdd, Nat.reduceMul, Nat.reduceSub, Nat.reduceLeDiff, Nat.reduceEqDiff, Nat.reducePow, Int.reduceToNat, Int.reducePow, Int.reduceAdd, Int.reduceSub, Int.reduceMul, Int.reduceLT, Int.reduceLE, Int.reduceEq, Int.reduceNeg, dead_spec H.p _ t3, m2]
      refine Wp.bind (write_store_spec H.p _ k3.w' t3 0 sn3 (.inr hnm) hw3) fun v4 h4 ⟨e4, t4, k4⟩ => ?_
      rw [writeM_dead m2] at e4 t4
      subst e4
      simp -dsimp (disch := omega) only [↓pre, sp, sp2, wp_some, Int.cast_ofNat_Int, Nat.reduceAdd, Nat.reduceMul, Nat.reduceSub, Nat.reduceLeDiff, Nat.reduceEqDiff, Nat.reducePow, Int.reduceToNat, Int.reducePow, Int.reduceAdd, Int.reduceSub, Int.reduceMul, Int.reduceLT, Int.reduceLE, Int.reduceEq, Int.reduceNeg]
      exact hj _ _ ⟨rfl, k4, t4⟩
    · rintro v h4 ⟨rfl, k4, t4⟩
      simp -dsimp (disch := omega) only [↓pre, sp, sp2, wp_some, Int.cast_ofNat_Int, Nat.reduceAdd, Nat.reduceMul, Nat.reduceSub, Nat.reduceLeDiff, Nat.reduceEqDiff, Nat.reducePow, Int.reduceToNat, Int.reducePow, Int.reduceAdd, Int.reduceSub, Int.reduceMul, Int.reduceLT, Int.reduceLE, Int.reduceEq, Int.reduceNeg]
      refine Wp.bind (power_spec H.p _ k4.w' t4) fun v5 h5 ⟨e5, t5, k5⟩ => ?_
      subst e5
      rw [m3] at t5
      have ek : ((min (max px 0) (size : Int)).toNat : Int) = min (max px 0) size := by omega
      simp -dsimp (disch := omega) only [↓pre, sp, sp2, wp_some, Int.cast_ofNat_Int, Nat.reduceAdd, Nat.reduceMul, Nat.reduceSub, Nat.reduceLeDiff, Nat.reduceEqDiff, Nat.reducePow, Int.reduceToNat, Int.reducePow, Int.reduceAdd, Int.reduceSub, Int.reduceMul, Int.reduceLT, Int.reduceLE, Int.reduceEq, Int.reduceNeg]
      rw [← ek]
      exact tears0 H d hn (by omega) hold hnow k5.w' t5 ((so3.ke k4 (.inr hom)).ke k5 (.inr hom)) ((sn3.ke k4 (.inr hnm)).ke k5 (.inr hnm)) hnm

/-- A store while it is laid out. -/
def fillM (size : Nat) (z old : List UInt8) (i : Nat) (m : Nat) : BSt := ⟨List.replicate i old ++ List.replicate (m - i) z, size, i, -1, 0, false⟩
theorem fillM_write {size : Nat} {z old : List UInt8} {i m : Nat} (hold : old.length = size) (hi : i < m) : writeM (fillM size z old i m) i old = (fillM size z old (i + 1) m, 0) := by
  have his : isM (fillM size z old i m) i = 0 := by
    unfold isM
    rw [if_neg (by simp [fillM]), if_neg (by simp [fillM]; omega)]
  unfold writeM
  rw [if_neg (by rw [his]; simp), if_neg (by simp [fillM, hold]), if_neg (by simp [fillM])]
  simp only [fillM, Int.toNat_natCast, Prod.mk.injEq, BSt.mk.injEq, and_true, true_and]
  refine ⟨?_, by omega⟩
  rw [show m - i = (m - (i + 1)) + 1 by omega]
  exact set_rep _ _ _ _
theorem blockTears (H : Ov8 ov) (d : Nat) (w : Wf h) {sz n px : Int} {la lb : List UInt8} (hs : -9223372036854775808 ≤ sz ∧ sz < 9223372036854775808) (hn : -9223372036854775808 ≤ n ∧ n < 9223372036854775808) (hp : -9223372036854775808 ≤ px ∧ px < 9223372036854775808) (sa : Bs h a la md) (sb : Bs h b lb md') :
    Wp (kc ov (d + 3) N_runglaw8_BlockTears [.int .i64 sz, .int .i64 n, .int .i64 px, a, b] h) fun r _ => r = .bool true := by
  rw [C_runglaw8_BlockTears H.p]; unfold F_runglaw8_BlockTears
  simp -dsimp (disch := omega) only [↓pre, sp, sp2, wp_some, Int.cast_ofNat_Int, Nat.reduceAdd, Nat.reduceMul, Nat.reduceSub, Nat.reduceLeDiff, Nat.reduceEqDiff, Nat.reducePow, Int.reduceToNat, Int.reducePow, Int.reduceAdd, Int.reduceSub, Int.reduceMul, Int.reduceLT, Int.reduceLE, Int.reduceEq, Int.reduceNeg, known_spec H, sa.len]
  refine wp_kT (.bool (decide (la.length > 300 ∨ lb.length > 300))) (fun j hj => ?_) ?_
  · by_cases c : (la.length : Int) > 300
    · simp -dsimp (disch := omega) only [↓pre, sp, sp2, wp_some, Int.cast_ofNat_Int, Nat.reduceAdd, Nat.reduceMul, Nat.reduceSub, Nat.reduceLeDiff, Nat.reduceEqDiff, Nat.reducePow, Int.reduceToNat, Int.reducePow, Int.reduceAdd, Int.reduceSub, Int.reduceMul, Int.reduceLT, Int.reduceLE, Int.reduceEq, Int.reduceNeg, c]; simpa [show la.length > 300 by omega] using hj
    · simp -dsimp (disch := omega) only [↓pre, sp, sp2, wp_some, Int.cast_ofNat_Int, Nat.reduceAdd, Nat.reduceMul, Nat.reduceSub, Nat.reduceLeDiff, Nat.reduceEqDiff, Nat.reducePow, Int.reduceToNat, Int.reducePow, Int.reduceAdd, Int.reduceSub, Int.reduceMul, Int.reduceLT, Int.reduceLE, Int.reduceEq, Int.reduceNeg, c, sb.len]
      have e : ((lb.length : Int) > 300) ↔ lb.length > 300 := by omega
      simpa only [e, show ¬ la.length > 300 by omega, false_or] using hj
  simp -dsimp (disch := omega) only [↓pre, sp, sp2, wp_some, Int.cast_ofNat_Int, Nat.reduceAdd, Nat.reduceMul, Nat.reduceSub, Nat.reduceLeDiff, Nat.reduceEqDiff, Nat.reducePow, Int.reduceToNat, Int.reducePow, Int.reduceAdd, Int.reduceSub, Int.reduceMul, Int.reduceLT, Int.reduceLE, Int.reduceEq, Int.reduceNeg]
  refine wp_ite (fun c => ?_) (fun c => ?_)
  · simp -dsimp (disch := omega) only [↓pre, sp, sp2, wp_some, Int.cast_ofNat_Int, Nat.reduceAdd, Nat.reduceMul, Nat.reduceSub, Nat.reduceLeDiff, Nat.reduceEqDiff, Nat.reducePow, Int.reduceToNat, Int.reducePow, Int.reduceAdd, Int.reduceSub, Int.reduceMul, Int.reduceLT, Int.reduceLE, Int.reduceEq, Int.reduceNeg]
  obtain ⟨i, hi, e1, _⟩ := place_spec (h := h) H.p (d + 1) hs (m := 100) (by omega) (by omega)
  obtain ⟨q, hq, e2, _⟩ := place_spec (h := h) H.p (d + 1) hn (m := 6) (by omega) (by omega)
  simp only [Int.cast_ofNat_Int] at e1 e2
  have ei : (16 : Int) + i = ((16 + i : Nat) : Int) := by omega
  simp -dsimp (disch := omega) only [↓pre, sp, sp2, wp_some, Int.cast_ofNat_Int, Nat.reduceAdd, Nat.reduceMul, Nat.reduceSub, Nat.reduceLeDiff, Nat.reduceEqDiff, Nat.reducePow, Int.reduceToNat, Int.reducePow, Int.reduceAdd, Int.reduceSub, Int.reduceMul, Int.reduceLT, Int.reduceLE, Int.reduceEq, Int.reduceNeg, e1, e2, ei]
  refine Wp.bind (new_spec H.p _ w 8 ((16 + i : Nat) : Int)) fun v6 h1 ⟨k1, p, lv, vs, e3, t1, f1⟩ => ?_
  subst e3
  generalize hsz : 16 + i = size at t1
  have hnew : newM 8 (size : Int) = fillM size (List.replicate size 0) (drawnM la size) 0 8 := by
    unfold newM fillM
    rw [show (min (max (size : Int) 16) 4096).toNat = size by omega]
    rfl
  rw [hnew] at t1
  simp -dsimp (disch := omega) only [↓pre, sp, sp2, wp_some, Int.cast_ofNat_Int, Nat.reduceAdd, Nat.reduceMul, Nat.reduceSub, Nat.reduceLeDiff, Nat.reduceEqDiff, Nat.reducePow, Int.reduceToNat, Int.reducePow, Int.reduceAdd, Int.reduceSub, Int.reduceMul, Int.reduceLT, Int.reduceLE, Int.reduceEq, Int.reduceNeg]
  refine Wp.bind (drawn_spec H.p _ k1.w' (sa.kp k1) (z := size) (by omega) (by omega)) fun v2 h2 ⟨k2, o2, f2⟩ => ?_
  refine Wp.bind (drawn_spec H.p _ k2.w' ((sb.kp k1).kp k2) (z := size) (by omega) (by omega)) fun v3 h3 ⟨k3, o3, f3⟩ => ?_
  have hla := drawnM_length la size
  have hlb := drawnM_length lb size
  have hom : ¬ Mine p lv vs (bk v2) := fun hm => by have := t1.lt k1.w' hm; have := f2 _ (o2.bkIs (by omega)); omega
  have hnm : ¬ Mine p lv vs (bk v3) := fun hm => by have := t1.lt k1.w' hm; have := f3 _ (o3.bkIs (by omega)); have := k2.n; omega
  have t3 := (t1.kp k2).kp k3
  have so := (o2.kp k3).rd
  have sn := o3.rd
  simp -dsimp (disch := omega) only [↓pre, sp, sp2, wp_some, Int.cast_ofNat_Int, Nat.reduceAdd, Nat.reduceMul, Nat.reduceSub, Nat.reduceLeDiff, Nat.reduceEqDiff, Nat.reducePow, Int.reduceToNat, Int.reducePow, Int.reduceAdd, Int.reduceSub, Int.reduceMul, Int.reduceLT, Int.reduceLE, Int.reduceEq, Int.reduceNeg]
  refine wp_loop (fun m l h4 => ∃ i : Nat, l = [.int .i64 i] ∧ i + m = 8 ∧ Ke (Mine p lv vs) h3 h4 ∧ Sto h4 p (fillM size (List.replicate size 0) (drawnM la size) i 8) lv vs) 8 (by omega) ⟨0, rfl, by omega, Ke.refl k3.w', t3⟩ ?_
  rintro m _ h4 j ⟨i, rfl, him, k4, t4⟩ hj
  unfold L_runglaw8_BlockTears_2
  have so4 := so.ke k4 (.inr hom)
  have sn4 := sn.ke k4 (.inr hnm)
  simp -dsimp (disch := omega) only [↓pre, sp, sp2, wp_some, Int.cast_ofNat_Int, Nat.reduceAdd, Nat.reduceMul, Nat.reduceSub, Nat.reduceLeDiff, Nat.reduceEqDiff, Nat.reducePow, Int.reduceToNat, Int.reducePow, Int.reduceAdd, Int.reduceSub, Int.reduceMul, Int.reduceLT, Int.reduceLE, Int.reduceEq, Int.reduceNeg]
  refine wp_ite (fun c => ?_) (fun c => ?_)
  · refine Wp.bind (write_store_spec H.p _ k4.w' t4 i so4 (.inr hom) (by simp [fillM]; omega)) fun v5 h5 ⟨e5, t5, k5⟩ => ?_
    rw [fillM_write hla (by omega)] at e5 t5
    subst e5
    have e1 : IntKind.wrap .i64 ((i : Int) + 1) = ((i + 1 : Nat) : Int) := by rw [wr_i64 (by omega) (by omega)]; omega
    simp -dsimp (disch := omega) only [↓pre, sp, sp2, wp_some, Int.cast_ofNat_Int, Nat.reduceAdd, Nat.reduceMul, Nat.reduceSub, Nat.reduceLeDiff, Nat.reduceEqDiff, Nat.reducePow, Int.reduceToNat, Int.reducePow, Int.reduceAdd, Int.reduceSub, Int.reduceMul, Int.reduceLT, Int.reduceLE, Int.reduceEq, Int.reduceNeg, e1]
    exact hj (m - 1) _ _ (by omega) ⟨i + 1, rfl, by omega, k4.trans k5, t5⟩
  · have : i = 8 := by omega
    subst this
    refine Wp.bind (cut_spec H.p _ k4.w' t4 q px (by omega) hp) fun v5 h5 ⟨e5, t5, k5⟩ => ?_
    subst e5
    simp -dsimp (disch := omega) only [↓pre, sp, sp2, wp_some, Int.cast_ofNat_Int, Nat.reduceAdd, Nat.reduceMul, Nat.reduceSub, Nat.reduceLeDiff, Nat.reduceEqDiff, Nat.reducePow, Int.reduceToNat, Int.reducePow, Int.reduceAdd, Int.reduceSub, Int.reduceMul, Int.reduceLT, Int.reduceLE, Int.reduceEq, Int.reduceNeg]
    have em : ({ fillM size (List.replicate size 0) (drawnM la size) 8 8 with left := max (q : Int) (-1), pre := px } : BSt) = midM size q px (drawnM la size) (drawnM lb size) 0 := by
      simp only [fillM, midM, BSt.mk.injEq, and_true, true_and]
      exact ⟨by simp, by omega⟩
    rw [em] at t5
    exact tears1 H d hq hla hlb k5.w' t5 (so4.ke k5 (.inr hom)) (sn4.ke k5 (.inr hnm)) hom hnm

theorem fillM_is {size : Nat} {z old : List UInt8} {i m j : Nat} (hi : i ≤ m) (hj : j < m) : isM (fillM size z old i m) j = 0 := by
  unfold isM
  rw [if_neg (by simp [fillM]), if_neg (by simp [fillM]; omega)]
theorem writeM_writes (s : BSt) (i : Int) (b : List UInt8) : (writeM s i b).1.writes ≤ s.writes + 1 := by
  unfold writeM
  repeat' split
  all_goals simp
theorem spoilM_writes (s : BSt) (i a : Int) (x : UInt8) : (spoilM s i a x).writes = s.writes := by
  unfold spoilM; split <;> rfl
theorem apart0 (H : Ov8 ov) (d : Nat) {la' : List UInt8} {size i : Nat} {A lb : List UInt8} (hA : A = drawnM la' size) (w : Wf h) (hi : i < 4) (hsz : 16 ≤ size ∧ size ≤ 4096) (t : Sto h p (fillM size (List.replicate size 0) A 4 4) lv vs) (sa : Bs h a la' md) (sb : Bs h b lb md') (hla : la'.length ≤ 200) (hlb : lb.length ≤ 200) (hb : md' = .ro) (ha : md = .ro) :
    Wp (kLoop (L_runglaw8_BlockApart_0 (kc ov (d + 2)) (kd ov (d + 2)) (.ptr (some (p, 0))) a (.int .i64 size) (.int .i64 i) b) rounds [.int .i64 0] h) fun r _ => r = .bool true := by
  subst hb ha
  refine wp_loop (fun m l h2 => ∃ k : Nat, l = [.int .i64 k] ∧ k + m = 4 ∧ Kp h h2) 4 (by omega) ⟨0, rfl, by omega, Ke.refl w⟩ ?_
  rintro m _ h2 j ⟨k, rfl, him, k2⟩ hj
  unfold L_runglaw8_BlockApart_0
  have t2 := t.kp k2
  have sa2 := sa.kp k2
  have sb2 := sb.kp k2
  have hAl : A.length = size := by rw [hA, drawnM_length]
  simp -dsimp (disch := omega) only [↓pre, sp, sp2, wp_some, Int.cast_ofNat_Int, Nat.reduceAdd, Nat.reduceMul, Nat.reduceSub, Nat.reduceLeDiff, Nat.reduceEqDiff, Nat.reducePow, Int.reduceToNat, Int.reducePow, Int.reduceAdd, Int.reduceSub, Int.reduceMul, Int.reduceLT, Int.reduceLE, Int.reduceEq, Int.reduceNeg]
  refine wp_ite (fun c => ?_) (fun c => ?_)
  · refine Wp.bind (read_spec H.p _ k2.w' t2 k) fun v3 h3 ⟨k3, v3', e3, o3, f3⟩ => ?_
    subst e3
    have hr : readM (fillM size (List.replicate size 0) A 4 4) k = (A, 0) := by
      unfold readM
      rw [if_pos (fillM_is (by omega) (by omega)), Int.toNat_natCast]
      congr 1
      simp only [fillM, Nat.sub_self, List.replicate_zero, List.append_nil, List.getD_eq_getElem?_getD, List.getElem?_replicate]
      rw [if_pos (by omega)]; rfl
    rw [hr] at o3
    simp -dsimp (disch := omega) only [↓pre, sp, sp2, wp_some, Int.cast_ofNat_Int, Nat.reduceAdd, Nat.reduceMul, Nat.reduceSub, Nat.reduceLeDiff, Nat.reduceEqDiff, Nat.reducePow, Int.reduceToNat, Int.reducePow, Int.reduceAdd, Int.reduceSub, Int.reduceMul, Int.reduceLT, Int.reduceLE, Int.reduceEq, Int.reduceNeg, hr]
    refine wp_kTh (fun v h9 => v = .bool false ∧ Kp h3 h9) (fun j hj => ?_) ?_
    · simp -dsimp (disch := omega) only [↓pre, sp, sp2, wp_some, Int.cast_ofNat_Int, Nat.reduceAdd, Nat.reduceMul, Nat.reduceSub, Nat.reduceLeDiff, Nat.reduceEqDiff, Nat.reducePow, Int.reduceToNat, Int.reducePow, Int.reduceAdd, Int.reduceSub, Int.reduceMul, Int.reduceLT, Int.reduceLE, Int.reduceEq, Int.reduceNeg]
      refine Wp.bind (drawn_spec H.p _ k3.w' (sa2.kp k3) (z := size) (by omega) (by omega)) fun v4 h4 ⟨k4, o4, f4⟩ => ?_
      rw [← hA] at o4
      have hbb := fun d => bytes_spec H.p d (o3.kp k4).rd o4.rd
      simp -dsimp (disch := omega) only [↓pre, sp, sp2, wp_some, Int.cast_ofNat_Int, Nat.reduceAdd, Nat.reduceMul, Nat.reduceSub, Nat.reduceLeDiff, Nat.reduceEqDiff, Nat.reducePow, Int.reduceToNat, Int.reducePow, Int.reduceAdd, Int.reduceSub, Int.reduceMul, Int.reduceLT, Int.reduceLE, Int.reduceEq, Int.reduceNeg, hbb]
      exact hj _ _ ⟨by simp, k4⟩
    · rintro v h4 ⟨rfl, k4⟩
      have e1 : IntKind.wrap .i64 ((k : Int) + 1) = ((k + 1 : Nat) : Int) := by rw [wr_i64 (by omega) (by omega)]; omega
      simp -dsimp (disch := omega) only [↓pre, sp, sp2, wp_some, Int.cast_ofNat_Int, Nat.reduceAdd, Nat.reduceMul, Nat.reduceSub, Nat.reduceLeDiff, Nat.reduceEqDiff, Nat.reducePow, Int.reduceToNat, Int.reducePow, Int.reduceAdd, Int.reduceSub, Int.reduceMul, Int.reduceLT, Int.reduceLE, Int.reduceEq, Int.reduceNeg, e1]
      exact hj (m - 1) _ _ (by omega) ⟨_, rfl, by omega, k2.trans (k3.trans k4)⟩
  · simp -dsimp (disch := omega) only [↓pre, sp, sp2, wp_some, Int.cast_ofNat_Int, Nat.reduceAdd, Nat.reduceMul, Nat.reduceSub, Nat.reduceLeDiff, Nat.reduceEqDiff, Nat.reducePow, Int.reduceToNat, Int.reducePow, Int.reduceAdd, Int.reduceSub, Int.reduceMul, Int.reduceLT, Int.reduceLE, Int.reduceEq, Int.reduceNeg, writes_spec H.p _ t2, show (fillM size (List.replicate size 0) A 4 4).writes = 4 from rfl]
    refine wp_kTh (fun v h9 => v = .bool true) (fun j hj => ?_) ?_
    · simp -dsimp (disch := omega) only [↓pre, sp, sp2, wp_some, Int.cast_ofNat_Int, Nat.reduceAdd, Nat.reduceMul, Nat.reduceSub, Nat.reduceLeDiff, Nat.reduceEqDiff, Nat.reducePow, Int.reduceToNat, Int.reducePow, Int.reduceAdd, Int.reduceSub, Int.reduceMul, Int.reduceLT, Int.reduceLE, Int.reduceEq, Int.reduceNeg, dead_spec H.p _ t2, show (fillM size (List.replicate size 0) A 4 4).dead = false from rfl]
      refine Wp.bind (drawn_spec H.p _ k2.w' sb2 (z := size) (by omega) (by omega)) fun v4 h4 ⟨k4, o4, f4⟩ => ?_
      have t4 := t2.kp k4
      have hbl := drawnM_length lb size
      have hnm : ¬ Mine p lv vs (bk v4) := fun hm => by have := t2.lt k2.w' hm; have := f4 _ (o4.bkIs (by omega)); omega
      simp -dsimp (disch := omega) only [↓pre, sp, sp2, wp_some, Int.cast_ofNat_Int, Nat.reduceAdd, Nat.reduceMul, Nat.reduceSub, Nat.reduceLeDiff, Nat.reduceEqDiff, Nat.reducePow, Int.reduceToNat, Int.reducePow, Int.reduceAdd, Int.reduceSub, Int.reduceMul, Int.reduceLT, Int.reduceLE, Int.reduceEq, Int.reduceNeg]
      refine Wp.bind (write_store_spec H.p _ k4.w' t4 i o4.rd (.inr hnm) (by simp [fillM])) fun v5 h5 ⟨e5, _, _⟩ => ?_
      have : (writeM (fillM size (List.replicate size 0) A 4 4) i (drawnM lb size)).2 = 0 := by
        unfold writeM
        rw [if_neg (by rw [fillM_is (by omega) (by omega)]; simp), if_neg (by simp [fillM, hbl]), if_neg (by simp [fillM])]
      rw [this] at e5
      subst e5
      simp -dsimp (disch := omega) only [↓pre, sp, sp2, wp_some, Int.cast_ofNat_Int, Nat.reduceAdd, Nat.reduceMul, Nat.reduceSub, Nat.reduceLeDiff, Nat.reduceEqDiff, Nat.reducePow, Int.reduceToNat, Int.reducePow, Int.reduceAdd, Int.reduceSub, Int.reduceMul, Int.reduceLT, Int.reduceLE, Int.reduceEq, Int.reduceNeg]
      exact hj _ _ rfl
    · rintro v h9 rfl
      simp -dsimp (disch := omega) only [↓pre, sp, sp2, wp_some, Int.cast_ofNat_Int, Nat.reduceAdd, Nat.reduceMul, Nat.reduceSub, Nat.reduceLeDiff, Nat.reduceEqDiff, Nat.reducePow, Int.reduceToNat, Int.reducePow, Int.reduceAdd, Int.reduceSub, Int.reduceMul, Int.reduceLT, Int.reduceLE, Int.reduceEq, Int.reduceNeg]

theorem apart1 (H : Ov8 ov) (d : Nat) {size i : Nat} {A la lb : List UInt8} {q : Nat} {lu : AVal} {us : List AVal} {s0 : BSt} (hA : A = drawnM la size) (w : Wf h) (hi : i < 4) (hsz : 16 ≤ size ∧ size ≤ 4096) (t : Sto h p (fillM size (List.replicate size 0) A 4 4) lv vs)
    (u : Sto h q s0 lu us) (hap : ∀ j, Mine p lv vs j → ¬ Mine q lu us j) (hw0 : s0.writes ≤ 4) (sa : Bs h a la .ro) (sb : Bs h b lb .ro) (hla : la.length ≤ 200) (hlb : lb.length ≤ 200) :
    Wp (kLoop (L_runglaw8_BlockApart_1 (kc ov (d + 2)) (kd ov (d + 2)) (.ptr (some (q, 0))) (.int .i64 i) b (.int .i64 size) (.ptr (some (p, 0))) a) rounds [.int .i64 0] h) fun r _ => r = .bool true := by
  refine wp_loop (fun m l h2 => ∃ (k : Nat) (s2 : BSt), l = [.int .i64 k] ∧ k + m = 4 ∧ Ke (Mine q lu us) h h2 ∧ Sto h2 q s2 lu us ∧ s2.writes ≤ 4 + k) 4 (by omega) ⟨0, s0, rfl, by omega, Ke.refl w, u, hw0⟩ ?_
  rintro m _ h2 j ⟨k, s2, rfl, him, k2, u2, hw2⟩ hj
  unfold L_runglaw8_BlockApart_1
  have t2 := t.ke k2 hap
  have sa2 := sa.ro k2
  have sb2 := sb.ro k2
  simp -dsimp (disch := omega) only [↓pre, sp, sp2, wp_some, Int.cast_ofNat_Int, Nat.reduceAdd, Nat.reduceMul, Nat.reduceSub, Nat.reduceLeDiff, Nat.reduceEqDiff, Nat.reducePow, Int.reduceToNat, Int.reducePow, Int.reduceAdd, Int.reduceSub, Int.reduceMul, Int.reduceLT, Int.reduceLE, Int.reduceEq, Int.reduceNeg]
  refine wp_ite (fun c => ?_) (fun c => ?_)
  · have ea : IntKind.wrap .i64 ((i : Int) + (k : Int)) = ((i + k : Nat) : Int) := by rw [wr_i64 (by omega) (by omega)]; omega
    refine Wp.bind (drawn_spec H.p _ k2.w' sb2 (z := size) (by omega) (by omega)) fun v4 h4 ⟨k4, o4, f4⟩ => ?_
    have u4 := u2.kp k4
    have hbl := drawnM_length lb size
    have hnm : ¬ Mine q lu us (bk v4) := fun hm => by have := u2.lt k2.w' hm; have := f4 _ (o4.bkIs (by omega)); omega
    refine Wp.bind (write_store_spec H.p _ k4.w' u4 _ o4.rd (.inr hnm) (by omega)) fun v5 h5 ⟨e5, u5, k5⟩ => ?_
    have e1 : IntKind.wrap .i64 ((k : Int) + 1) = ((k + 1 : Nat) : Int) := by rw [wr_i64 (by omega) (by omega)]; omega
    simp -dsimp (disch := omega) only [↓pre, sp, sp2, wp_some, Int.cast_ofNat_Int, Nat.reduceAdd, Nat.reduceMul, Nat.reduceSub, Nat.reduceLeDiff, Nat.reduceEqDiff, Nat.reducePow, Int.reduceToNat, Int.reducePow, Int.reduceAdd, Int.reduceSub, Int.reduceMul, Int.reduceLT, Int.reduceLE, Int.reduceEq, Int.reduceNeg, e1]
    refine hj (m - 1) _ _ (by omega) ⟨k + 1, _, rfl, by omega, k2.trans ((Kp.ke k4).trans k5), u5, ?_⟩
    exact Nat.le_trans (writeM_writes _ _ _) (by omega)
  · refine Wp.bind (power_spec H.p _ k2.w' u2) fun v3 h3 ⟨e3, u3, k3⟩ => ?_
    subst e3
    simp -dsimp (disch := omega) only [↓pre, sp, sp2, wp_some, Int.cast_ofNat_Int, Nat.reduceAdd, Nat.reduceMul, Nat.reduceSub, Nat.reduceLeDiff, Nat.reduceEqDiff, Nat.reducePow, Int.reduceToNat, Int.reducePow, Int.reduceAdd, Int.reduceSub, Int.reduceMul, Int.reduceLT, Int.reduceLE, Int.reduceEq, Int.reduceNeg]
    have hsp := spoil_spec H.p d k3.w' u3 i 3 9
    refine Wp.bind hsp fun v4 h4 ⟨e4, u4, k4⟩ => ?_
    subst e4
    simp -dsimp (disch := omega) only [↓pre, sp, sp2, wp_some, Int.cast_ofNat_Int, Nat.reduceAdd, Nat.reduceMul, Nat.reduceSub, Nat.reduceLeDiff, Nat.reduceEqDiff, Nat.reducePow, Int.reduceToNat, Int.reducePow, Int.reduceAdd, Int.reduceSub, Int.reduceMul, Int.reduceLT, Int.reduceLE, Int.reduceEq, Int.reduceNeg]
    have kk := k2.trans (k3.trans k4)
    exact apart0 H d hA k4.w' hi hsz (t.ke kk hap) (sa.ro kk) (sb.ro kk) hla hlb rfl rfl

theorem blockApart (H : Ov8 ov) (d : Nat) (w : Wf h) {sz i cut px : Int} {la lb : List UInt8} (hs : -9223372036854775808 ≤ sz ∧ sz < 9223372036854775808) (hi : -9223372036854775808 ≤ i ∧ i < 9223372036854775808) (hc : -9223372036854775808 ≤ cut ∧ cut < 9223372036854775808) (hp : -9223372036854775808 ≤ px ∧ px < 9223372036854775808) (sa : Bs h a la .ro) (sb : Bs h b lb .ro) :
    Wp (kc ov (d + 3) N_runglaw8_BlockApart [.int .i64 sz, a, b, .int .i64 i, .int .i64 cut, .int .i64 px] h) fun r _ => r = .bool true := by
  rw [C_runglaw8_BlockApart H.p]; unfold F_runglaw8_BlockApart
  simp -dsimp (disch := omega) only [↓pre, sp, sp2, wp_some, Int.cast_ofNat_Int, Nat.reduceAdd, Nat.reduceMul, Nat.reduceSub, Nat.reduceLeDiff, Nat.reduceEqDiff, Nat.reducePow, Int.reduceToNat, Int.reducePow, Int.reduceAdd, Int.reduceSub, Int.reduceMul, Int.reduceLT, Int.reduceLE, Int.reduceEq, Int.reduceNeg, known_spec H, sa.len]
  refine wp_kT (.bool (decide (la.length > 200 ∨ lb.length > 200))) (fun j hj => ?_) ?_
  · by_cases c : (la.length : Int) > 200
    · simp -dsimp (disch := omega) only [↓pre, sp, sp2, wp_some, Int.cast_ofNat_Int, Nat.reduceAdd, Nat.reduceMul, Nat.reduceSub, Nat.reduceLeDiff, Nat.reduceEqDiff, Nat.reducePow, Int.reduceToNat, Int.reducePow, Int.reduceAdd, Int.reduceSub, Int.reduceMul, Int.reduceLT, Int.reduceLE, Int.reduceEq, Int.reduceNeg, c]; simpa [show la.length > 200 by omega] using hj
    · simp -dsimp (disch := omega) only [↓pre, sp, sp2, wp_some, Int.cast_ofNat_Int, Nat.reduceAdd, Nat.reduceMul, Nat.reduceSub, Nat.reduceLeDiff, Nat.reduceEqDiff, Nat.reducePow, Int.reduceToNat, Int.reducePow, Int.reduceAdd, Int.reduceSub, Int.reduceMul, Int.reduceLT, Int.reduceLE, Int.reduceEq, Int.reduceNeg, c, sb.len]
      have e : ((lb.length : Int) > 200) ↔ lb.length > 200 := by omega
      simpa only [e, show ¬ la.length > 200 by omega, false_or] using hj
  simp -dsimp (disch := omega) only [↓pre, sp, sp2, wp_some, Int.cast_ofNat_Int, Nat.reduceAdd, Nat.reduceMul, Nat.reduceSub, Nat.reduceLeDiff, Nat.reduceEqDiff, Nat.reducePow, Int.reduceToNat, Int.reducePow, Int.reduceAdd, Int.reduceSub, Int.reduceMul, Int.reduceLT, Int.reduceLE, Int.reduceEq, Int.reduceNeg]
  refine wp_ite (fun c => ?_) (fun c => ?_)
  · simp -dsimp (disch := omega) only [↓pre, sp, sp2, wp_some, Int.cast_ofNat_Int, Nat.reduceAdd, Nat.reduceMul, Nat.reduceSub, Nat.reduceLeDiff, Nat.reduceEqDiff, Nat.reducePow, Int.reduceToNat, Int.reducePow, Int.reduceAdd, Int.reduceSub, Int.reduceMul, Int.reduceLT, Int.reduceLE, Int.reduceEq, Int.reduceNeg]
  obtain ⟨x, hx, e1, _⟩ := place_spec (h := h) H.p (d + 1) hs (m := 100) (by omega) (by omega)
  obtain ⟨q, hq, e2, _⟩ := place_spec (h := h) H.p (d + 1) hi (m := 4) (by omega) (by omega)
  simp only [Int.cast_ofNat_Int] at e1 e2
  have ei : (16 : Int) + x = ((16 + x : Nat) : Int) := by omega
  simp -dsimp (disch := omega) only [↓pre, sp, sp2, wp_some, Int.cast_ofNat_Int, Nat.reduceAdd, Nat.reduceMul, Nat.reduceSub, Nat.reduceLeDiff, Nat.reduceEqDiff, Nat.reducePow, Int.reduceToNat, Int.reducePow, Int.reduceAdd, Int.reduceSub, Int.reduceMul, Int.reduceLT, Int.reduceLE, Int.reduceEq, Int.reduceNeg, e1, e2, ei]
  refine Wp.bind (new_spec H.p _ w 4 ((16 + x : Nat) : Int)) fun v6 h1 ⟨k1, p, lv, vs, e3, t1, f1⟩ => ?_
  subst e3
  generalize hsz : 16 + x = size at t1
  have hnew : newM 4 (size : Int) = fillM size (List.replicate size 0) (drawnM la size) 0 4 := by
    unfold newM fillM
    rw [show (min (max (size : Int) 16) 4096).toNat = size by omega]
    rfl
  rw [hnew] at t1
  simp -dsimp (disch := omega) only [↓pre, sp, sp2, wp_some, Int.cast_ofNat_Int, Nat.reduceAdd, Nat.reduceMul, Nat.reduceSub, Nat.reduceLeDiff, Nat.reduceEqDiff, Nat.reducePow, Int.reduceToNat, Int.reducePow, Int.reduceAdd, Int.reduceSub, Int.reduceMul, Int.reduceLT, Int.reduceLE, Int.reduceEq, Int.reduceNeg]
  have hla := drawnM_length la size
  refine wp_loop (fun m l h4 => ∃ k : Nat, l = [.int .i64 k] ∧ k + m = 4 ∧ Ke (Mine p lv vs) h1 h4 ∧ Sto h4 p (fillM size (List.replicate size 0) (drawnM la size) k 4) lv vs) 4 (by omega) ⟨0, rfl, by omega, Ke.refl k1.w', t1⟩ ?_
  rintro m _ h4 j ⟨k, rfl, him, k4, t4⟩ hj
  unfold L_runglaw8_BlockApart_2
  have sa4 := (sa.kp k1).ro k4
  have sb4 := (sb.kp k1).ro k4
  simp -dsimp (disch := omega) only [↓pre, sp, sp2, wp_some, Int.cast_ofNat_Int, Nat.reduceAdd, Nat.reduceMul, Nat.reduceSub, Nat.reduceLeDiff, Nat.reduceEqDiff, Nat.reducePow, Int.reduceToNat, Int.reducePow, Int.reduceAdd, Int.reduceSub, Int.reduceMul, Int.reduceLT, Int.reduceLE, Int.reduceEq, Int.reduceNeg]
  refine wp_ite (fun c => ?_) (fun c => ?_)
  · refine Wp.bind (drawn_spec H.p _ k4.w' sa4 (z := size) (by omega) (by omega)) fun v5 h5 ⟨k5, o5, f5⟩ => ?_
    have t5 := t4.kp k5
    have hnm : ¬ Mine p lv vs (bk v5) := fun hm => by have := t4.lt k4.w' hm; have := f5 _ (o5.bkIs (by omega)); omega
    refine Wp.bind (write_store_spec H.p _ k5.w' t5 k o5.rd (.inr hnm) (by simp [fillM]; omega)) fun v6 h6 ⟨e6, t6, k6⟩ => ?_
    rw [fillM_write hla (by omega)] at e6 t6
    have e1 : IntKind.wrap .i64 ((k : Int) + 1) = ((k + 1 : Nat) : Int) := by rw [wr_i64 (by omega) (by omega)]; omega
    simp -dsimp (disch := omega) only [↓pre, sp, sp2, wp_some, Int.cast_ofNat_Int, Nat.reduceAdd, Nat.reduceMul, Nat.reduceSub, Nat.reduceLeDiff, Nat.reduceEqDiff, Nat.reducePow, Int.reduceToNat, Int.reducePow, Int.reduceAdd, Int.reduceSub, Int.reduceMul, Int.reduceLT, Int.reduceLE, Int.reduceEq, Int.reduceNeg, e1]
    exact hj (m - 1) _ _ (by omega) ⟨k + 1, rfl, by omega, k4.trans ((Kp.ke k5).trans k6), t6⟩
  · have : k = 4 := by omega
    subst this
    refine Wp.bind (copy_store_spec H.p _ k4.w' t4) fun v5 h5 ⟨k5, p5, lu, us, e5, u5, f5⟩ => ?_
    subst e5
    obtain ⟨y, hy, ey, _⟩ := place_spec (h := h5) H.p (d + 1) hc (m := 3) (by omega) (by omega)
    simp only [Int.cast_ofNat_Int] at ey
    simp -dsimp (disch := omega) only [↓pre, sp, sp2, wp_some, Int.cast_ofNat_Int, Nat.reduceAdd, Nat.reduceMul, Nat.reduceSub, Nat.reduceLeDiff, Nat.reduceEqDiff, Nat.reducePow, Int.reduceToNat, Int.reducePow, Int.reduceAdd, Int.reduceSub, Int.reduceMul, Int.reduceLT, Int.reduceLE, Int.reduceEq, Int.reduceNeg, ey]
    refine Wp.bind (cut_spec H.p _ k5.w' u5 y px (by omega) hp) fun v7 h7 ⟨e7, u7, k7⟩ => ?_
    subst e7
    simp -dsimp (disch := omega) only [↓pre, sp, sp2, wp_some, Int.cast_ofNat_Int, Nat.reduceAdd, Nat.reduceMul, Nat.reduceSub, Nat.reduceLeDiff, Nat.reduceEqDiff, Nat.reducePow, Int.reduceToNat, Int.reducePow, Int.reduceAdd, Int.reduceSub, Int.reduceMul, Int.reduceLT, Int.reduceLE, Int.reduceEq, Int.reduceNeg]
    have hap : ∀ j, Mine p lv vs j → ¬ Mine p5 lu us j := fun j hm hm2 => by have := t4.lt k4.w' hm; have := f5 j hm2; omega
    have t7 := (t4.kp k5).ke k7 hap
    exact apart1 H d rfl k7.w' hq (by omega) t7 u7 hap (by simp [fillM]) ((sa4.kp k5).ro k7) ((sb4.kp k5).ro k7) (by omega) (by omega)
end Go.Proofs.Ytbicodikokfokaa.AI
