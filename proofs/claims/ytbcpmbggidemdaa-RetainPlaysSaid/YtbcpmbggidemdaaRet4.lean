/- Chapter 9: Open. -/
import Derived.Test.YtbcpmbggidemdaaRet3
namespace Go.Proofs.Ytbcpmbggidemdaa.AI
open Go
set_option linter.unusedSimpArgs false
set_option linter.unusedVariables false
variable {ov : AOver} {h : AH} {v a b : AVal} {md md' : AMode} {p q : Nat} {s : BSt} {lv : AVal} {vs : List AVal}

theorem aMax3 (k : IntKind) (x y z : Int) : aMM aMax2 [.int k x, .int k y, .int k z] = some (.int k (max (max x y) z)) := by
  have h : ∀ x y : Int, aMax2 (.int k x) (.int k y) = some (.int k (max x y)) := fun x y => by
    have := aMax_int k k x y
    simpa [aMM, aFold] using this
  simp [aMM, aFold, h]
/-- What Open has found so far. -/
structure OSt where
  found : Nat
  best : Slot
  at_ : Int
  scan : Nat
  next : Nat
def open0 : OSt := ⟨0, ⟨0, 0, [], false⟩, -1, 0, 1⟩
def takes (n : Nat) (b m : List UInt8) (o : OSt) : Prop := (slotB b).ok = true ∧ numOf m = (slotB b).num ∧ (slotB b).l.length = n ∧ o.best.num < (slotB b).num
instance (n : Nat) (b m : List UInt8) (o : OSt) : Decidable (takes n b m o) := by unfold takes; infer_instance
def openStep (n i : Nat) (b m : List UInt8) (o : OSt) : OSt :=
  if takes n b m o then ⟨if wasB m then 2 else o.found, slotB b, i, (slotB b).scan, max (max o.next ((slotB b).num + 1)) (numOf m + 1)⟩
  else ⟨if wasB m then 2 else o.found, o.best, o.at_, o.scan, max (max o.next ((slotB b).num + 1)) (numOf m + 1)⟩
def openN (s : BSt) (n : Nat) : Nat → OSt
  | 0 => open0
  | i + 1 => openStep n i (s.bl.getD i []) (s.bl.getD (2 + i) []) (openN s n i)
def openM (s : BSt) (n : Nat) : OSt := openN s n 2
theorem slotB_num (b : List UInt8) : (slotB b).num = numOf b := by unfold slotB; split <;> rfl
theorem openN_next (s : BSt) (n : Nat) (hn : ∀ i, numOf (s.bl.getD i []) < 2 ^ 63) : ∀ i, (openN s n i).next ≤ 2 ^ 63
  | 0 => by simp [openN, open0]
  | i + 1 => by
      have h1 := openN_next s n hn i
      have h2 := hn i
      have h3 := hn (2 + i)
      unfold openN openStep
      split <;> simp only [slotB_num] <;> omega
def openBad (s : BSt) (n : Int) : Prop := n < 0 ∨ roomM s < n ∨ s.bl.length < 4 ∨ s.size < 64
instance (s : BSt) (n : Int) : Decidable (openBad s n) := by unfold openBad; infer_instance

theorem open_spec (H : Plain ov) (n : Nat) (w : Wf h) (t : Sto h p s lv vs) (hd : s.dead = false) (hb : 0 < s.bl.length) (k : Int) (hn : ∀ i, numOf (s.bl.getD i []) < 2 ^ 63) :
    Wp (kc ov (n + 5) N_retain_Open [.ptr (some (p, 0)), .int .i64 k] h) fun r h' => Kp h h' ∧
      ((openBad s k ∧ r = .tuple [.ptr none, .slice none 0 0, .int .i64 0, .int .i64 90]) ∨
       (¬ openBad s k ∧ ∃ q lv2, r = .tuple [.ptr (some (q, 0)), lv2, .int .i64 (if 0 ≤ (openM s k.toNat).at_ then 1 else (openM s k.toNat).found : Nat), .int .i64 0] ∧
         Jr h' q p ⟨k.toNat, (openM s k.toNat).scan, (openM s k.toNat).at_, (openM s k.toNat).next, 0⟩ ∧ h.n ≤ q ∧ Oi h' lv2 (openM s k.toNat).best.l ∧ Fresh h lv2 ∧ ¬ isBk lv2 q)) := by
  rw [C_retain_Open H]; unfold F_retain_Open
  have hsz := t.sz
  have hcnt := t.cnt
  have hbl := t.n
  have r0 : readM s 0 = (s.bl.getD 0 [], 0) := by
    have : isM s 0 = 0 := by unfold isM; rw [if_neg (by simp [hd]), if_neg (by omega)]
    unfold readM; rw [if_pos this]; rfl
  (try simp -dsimp (disch := omega) only [↓pre, sp, sp2, wp_some, Int.cast_ofNat_Int, Nat.reduceAdd, Nat.reduceMul, Nat.reduceSub, Nat.reduceLeDiff, Nat.reduceEqDiff, Nat.reducePow, Int.reduceToNat, Int.reducePow, Int.reduceAdd, Int.reduceSub, Int.reduceMul, Int.reduceLT, Int.reduceLE, Int.reduceEq, Int.reduceNeg])
  refine Wp.bind (read_spec H (n + 2) w t 0) fun v1 h1 ⟨k1, vb0, e1, o1, f1⟩ => ?_
  subst e1
  rw [r0] at o1 ⊢
  have t1 := t.kp k1
  have hb1 := blocks_spec H (n + 3) t1
  have hs1 := size_spec H (n + 3) t1
  have hr1 := room_spec H (n + 2) t1
  have hrm : roomM s ≤ 4096 := by unfold roomM; split <;> omega
  (try simp -dsimp (disch := omega) only [↓pre, sp, sp2, wp_some, Int.cast_ofNat_Int, Nat.reduceAdd, Nat.reduceMul, Nat.reduceSub, Nat.reduceLeDiff, Nat.reduceEqDiff, Nat.reducePow, Int.reduceToNat, Int.reducePow, Int.reduceAdd, Int.reduceSub, Int.reduceMul, Int.reduceLT, Int.reduceLE, Int.reduceEq, Int.reduceNeg])
  refine wp_kTh (fun r h2 => h1 = h2 ∧ r = .bool (decide (openBad s k))) (fun j hj => ?_) ?_
  · by_cases c0 : k < 0
    · (try simp -dsimp (disch := omega) only [↓pre, sp, sp2, wp_some, Int.cast_ofNat_Int, Nat.reduceAdd, Nat.reduceMul, Nat.reduceSub, Nat.reduceLeDiff, Nat.reduceEqDiff, Nat.reducePow, Int.reduceToNat, Int.reducePow, Int.reduceAdd, Int.reduceSub, Int.reduceMul, Int.reduceLT, Int.reduceLE, Int.reduceEq, Int.reduceNeg, c0])
      exact hj _ _ ⟨rfl, by simp [openBad, c0]⟩
    · by_cases c1 : k > (roomM s : Int)
      · have c1' : (roomM s : Int) < k := c1
        (try simp -dsimp (disch := omega) only [↓pre, sp, sp2, wp_some, Int.cast_ofNat_Int, Nat.reduceAdd, Nat.reduceMul, Nat.reduceSub, Nat.reduceLeDiff, Nat.reduceEqDiff, Nat.reducePow, Int.reduceToNat, Int.reducePow, Int.reduceAdd, Int.reduceSub, Int.reduceMul, Int.reduceLT, Int.reduceLE, Int.reduceEq, Int.reduceNeg, c0, hr1, c1])
        exact hj _ _ ⟨rfl, by simp [openBad, c1']⟩
      · have c1' : ¬ (roomM s : Int) < k := c1
        by_cases c2 : (s.bl.length : Int) < 4
        · have c2' : s.bl.length < 4 := by omega
          (try simp -dsimp (disch := omega) only [↓pre, sp, sp2, wp_some, Int.cast_ofNat_Int, Nat.reduceAdd, Nat.reduceMul, Nat.reduceSub, Nat.reduceLeDiff, Nat.reduceEqDiff, Nat.reducePow, Int.reduceToNat, Int.reducePow, Int.reduceAdd, Int.reduceSub, Int.reduceMul, Int.reduceLT, Int.reduceLE, Int.reduceEq, Int.reduceNeg, c0, hr1, c1, hb1, c2])
          exact hj _ _ ⟨rfl, by simp [openBad, c2']⟩
        · have c2' : ¬ s.bl.length < 4 := by omega
          (try simp -dsimp (disch := omega) only [↓pre, sp, sp2, wp_some, Int.cast_ofNat_Int, Nat.reduceAdd, Nat.reduceMul, Nat.reduceSub, Nat.reduceLeDiff, Nat.reduceEqDiff, Nat.reducePow, Int.reduceToNat, Int.reducePow, Int.reduceAdd, Int.reduceSub, Int.reduceMul, Int.reduceLT, Int.reduceLE, Int.reduceEq, Int.reduceNeg, c0, hr1, c1, hb1, c2, hs1])
          have : ((s.size : Int) < 64) = (s.size < 64) := propext (by omega)
          exact hj _ _ ⟨rfl, by simp [openBad, c0, c1', c2', this]⟩
  rintro _ _ ⟨rfl, rfl⟩
  (try simp -dsimp (disch := omega) only [↓pre, sp, sp2, wp_some, Int.cast_ofNat_Int, Nat.reduceAdd, Nat.reduceMul, Nat.reduceSub, Nat.reduceLeDiff, Nat.reduceEqDiff, Nat.reducePow, Int.reduceToNat, Int.reducePow, Int.reduceAdd, Int.reduceSub, Int.reduceMul, Int.reduceLT, Int.reduceLE, Int.reduceEq, Int.reduceNeg])
  refine wp_ite (fun c => ?_) (fun c => ?_)
  · (try simp -dsimp (disch := omega) only [↓pre, sp, sp2, wp_some, Int.cast_ofNat_Int, Nat.reduceAdd, Nat.reduceMul, Nat.reduceSub, Nat.reduceLeDiff, Nat.reduceEqDiff, Nat.reducePow, Int.reduceToNat, Int.reducePow, Int.reduceAdd, Int.reduceSub, Int.reduceMul, Int.reduceLT, Int.reduceLE, Int.reduceEq, Int.reduceNeg])
    exact ⟨k1, .inl c⟩
  obtain ⟨c0, c1, c2, c3⟩ : 0 ≤ k ∧ k ≤ roomM s ∧ 4 ≤ s.bl.length ∧ 64 ≤ s.size := by unfold openBad at c; omega
  obtain ⟨n', rfl⟩ := Int.eq_ofNat_of_zero_le c0
  refine wp_kq1 rfl ?_
  refine wp_box k1.w' (cs := [.ptr (some (p, 0)), .int .i64 (n' : Int), .int .u64 0, .int .i64 (-1), .int .u64 1, .int .u64 0]) rfl rfl fun q h2 hq k2 n2 g2 => ?_
  (try simp -dsimp (disch := omega) only [↓pre, sp, sp2, wp_some, Int.cast_ofNat_Int, Nat.reduceAdd, Nat.reduceMul, Nat.reduceSub, Nat.reduceLeDiff, Nat.reduceEqDiff, Nat.reducePow, Int.reduceToNat, Int.reducePow, Int.reduceAdd, Int.reduceSub, Int.reduceMul, Int.reduceLT, Int.reduceLE, Int.reduceEq, Int.reduceNeg])
  refine wp_box k2.w' rfl rfl fun pb h3 hpb k3 n3 g3 => ?_
  have k13 := k1.trans (k2.trans k3)
  (try simp -dsimp (disch := omega) only [↓pre, sp, sp2, wp_some, Int.cast_ofNat_Int, Nat.reduceAdd, Nat.reduceMul, Nat.reduceSub, Nat.reduceLeDiff, Nat.reduceEqDiff, Nat.reducePow, Int.reduceToNat, Int.reducePow, Int.reduceAdd, Int.reduceSub, Int.reduceMul, Int.reduceLT, Int.reduceLE, Int.reduceEq, Int.reduceNeg])
  refine wp_loop (fun m y h4 => ∃ (i : Nat) (lvb : AVal), y = [.int .i64 (openN s n' i).found, .int .i64 i] ∧ i + m = 2 ∧ Kp h h4 ∧ Jr h4 q p ⟨n', (openN s n' i).scan, (openN s n' i).at_, (openN s n' i).next, 0⟩ ∧ h4.get pb = some ⟨.row (slotC (openN s n' i).best lvb) T_retain_slot false, .rw, []⟩ ∧ Oi h4 lvb (openN s n' i).best.l ∧ ∀ j, isBk lvb j → h.n ≤ j ∧ j ≠ q ∧ j ≠ pb) 2 (by omega)
    ⟨0, .slice none 0 0, rfl, by omega, k13, k3.gt g2, g3, Ow.nil _ _ _ (by omega), fun i hi => hi.elim⟩ ?_
  have hqn : h.n ≤ q := by have := k1.n; omega
  have hpn : h.n ≤ pb := by have := k1.n; omega
  have hqp : q ≠ pb := by omega
  rintro m _ h4 j ⟨i, lvb, rfl, him, k4, gj, gb_, ob, fb⟩ hj
  have gj' : h4.get q = some ⟨.row [.ptr (some (p, 0)), .int .i64 (n' : Nat), .int .u64 (openN s n' i).scan, .int .i64 (openN s n' i).at_, .int .u64 (openN s n' i).next, .int .u64 (0 : Nat)] T_retain_Journal false, .rw, []⟩ := gj
  have gb' : h4.get pb = some ⟨.row [.int .u64 (openN s n' i).best.num, .int .u64 (openN s n' i).best.scan, lvb, .bool (openN s n' i).best.ok] T_retain_slot false, .rw, []⟩ := gb_
  unfold L_retain_Open_0
  (try simp -dsimp (disch := omega) only [↓pre, sp, sp2, wp_some, Int.cast_ofNat_Int, Nat.reduceAdd, Nat.reduceMul, Nat.reduceSub, Nat.reduceLeDiff, Nat.reduceEqDiff, Nat.reducePow, Int.reduceToNat, Int.reducePow, Int.reduceAdd, Int.reduceSub, Int.reduceMul, Int.reduceLT, Int.reduceLE, Int.reduceEq, Int.reduceNeg])
  refine wp_ite (fun c5 => ?_) (fun c5 => ?_)
  · have hi : i < 2 := by omega
    have rd : ∀ i : Nat, i < 4 → readM s i = (s.bl.getD i [], 0) ∧ (s.bl.getD i []).length = s.size := fun i hi => by
      have : isM s i = 0 := by unfold isM; rw [if_neg (by simp [hd]), if_neg (by omega)]
      refine ⟨by unfold readM; rw [if_pos this, Int.toNat_natCast], ?_⟩
      have hh : i < s.bl.length := by omega
      obtain ⟨_, _, _, e, _⟩ := t.at hh
      exact e
    (try simp -dsimp (disch := omega) only [↓pre, sp, sp2, wp_some, Int.cast_ofNat_Int, Nat.reduceAdd, Nat.reduceMul, Nat.reduceSub, Nat.reduceLeDiff, Nat.reduceEqDiff, Nat.reducePow, Int.reduceToNat, Int.reducePow, Int.reduceAdd, Int.reduceSub, Int.reduceMul, Int.reduceLT, Int.reduceLE, Int.reduceEq, Int.reduceNeg])
    refine Wp.bind (read_spec H (n + 2) k4.w' (t.kp k4) i) fun v5 h5 ⟨k5, vb, e5, o5, f5⟩ => ?_
    subst e5
    obtain ⟨rb, lb⟩ := rd i (by omega)
    rw [rb] at o5 ⊢
    have e2i : IntKind.wrap .i64 (2 + (i : Int)) = ((2 + i : Nat) : Int) := by rw [wr_i64 (by omega) (by omega)]; omega
    (try simp -dsimp (disch := omega) only [↓pre, sp, sp2, wp_some, Int.cast_ofNat_Int, Nat.reduceAdd, Nat.reduceMul, Nat.reduceSub, Nat.reduceLeDiff, Nat.reduceEqDiff, Nat.reducePow, Int.reduceToNat, Int.reducePow, Int.reduceAdd, Int.reduceSub, Int.reduceMul, Int.reduceLT, Int.reduceLE, Int.reduceEq, Int.reduceNeg, e2i])
    refine Wp.bind (read_spec H (n + 2) k5.w' ((t.kp k4).kp k5) (2 + i : Nat)) fun v6 h6 ⟨k6, vm, e6, o6, f6⟩ => ?_
    subst e6
    obtain ⟨rm, lm⟩ := rd (2 + i) (by omega)
    rw [rm] at o6 ⊢
    (try simp -dsimp (disch := omega) only [↓pre, sp, sp2, wp_some, Int.cast_ofNat_Int, Nat.reduceAdd, Nat.reduceMul, Nat.reduceSub, Nat.reduceLeDiff, Nat.reduceEqDiff, Nat.reducePow, Int.reduceToNat, Int.reducePow, Int.reduceAdd, Int.reduceSub, Int.reduceMul, Int.reduceLT, Int.reduceLE, Int.reduceEq, Int.reduceNeg])
    refine wp_kT (.bool false) (fun j hj => ?_) ?_
    · (try simp -dsimp (disch := omega) only [↓pre, sp, sp2, wp_some, Int.cast_ofNat_Int, Nat.reduceAdd, Nat.reduceMul, Nat.reduceSub, Nat.reduceLeDiff, Nat.reduceEqDiff, Nat.reducePow, Int.reduceToNat, Int.reducePow, Int.reduceAdd, Int.reduceSub, Int.reduceMul, Int.reduceLT, Int.reduceLE, Int.reduceEq, Int.reduceNeg])
      exact hj
    (try simp -dsimp (disch := omega) only [↓pre, sp, sp2, wp_some, Int.cast_ofNat_Int, Nat.reduceAdd, Nat.reduceMul, Nat.reduceSub, Nat.reduceLeDiff, Nat.reduceEqDiff, Nat.reducePow, Int.reduceToNat, Int.reducePow, Int.reduceAdd, Int.reduceSub, Int.reduceMul, Int.reduceLT, Int.reduceLE, Int.reduceEq, Int.reduceNeg])
    have o5' : Ob h5 vb (s.bl.getD i []) := o5
    have o6' : Ob h6 vm (s.bl.getD (2 + i) []) := o6
    have hN := hn i
    have hM := hn (2 + i)
    have hS := slotB_num (s.bl.getD i [])
    have hnx := openN_next s n' hn i
    have eo : openN s n' (i + 1) = openStep n' i (s.bl.getD i []) (s.bl.getD (2 + i) []) (openN s n' i) := rfl
    generalize s.bl.getD i [] = B at *
    generalize s.bl.getD (2 + i) [] = M at *
    generalize hO : openN s n' i = O at *
    refine Wp.bind (slotOf_spec H n (k6.w') (o5'.bs.kp k6) (by omega) (by omega)) fun v7 h7 ⟨k7, lx, e7, ox, fx⟩ => ?_
    subst e7
    refine wp_box k7.w' rfl rfl fun px h8 hpx k8 n8 g8 => ?_
    have g8' : h8.get px = some ⟨.row [.int .u64 0, .int .u64 0, .slice none 0 0, .bool false] T_retain_slot false, .rw, []⟩ := g8
    refine wp_store k8.w' g8' rfl rfl (by simp [slotC]) (by show (true && (true && (lx.isCell && (true && true)))) = true; rw [Ow.isCell ox]; rfl) fun h9 k9 n9 g9 => ?_
    have g9' : h9.get px = some ⟨.row (slotC (slotB B) lx) T_retain_slot false, .rw, []⟩ := g9
    have g9'' : h9.get px = some ⟨.row [.int .u64 (slotB B).num, .int .u64 (slotB B).scan, lx, .bool (slotB B).ok] T_retain_slot false, .rw, []⟩ := g9
    have k48 : Kp h4 h8 := (k5.trans k6).trans (k7.trans k8)
    have q4 := (k4.w').lt _ _ gj'
    have pb4 := (k4.w').lt _ _ gb'
    have n46 : h4.n ≤ h6.n := (k5.trans k6).n
    have n04 : h.n ≤ h4.n := k4.n
    have n48 : h4.n ≤ h7.n := ((k5.trans k6).trans k7).n
    have s6 : Bs h9 vm M .rw := ((o6'.bs.kp k7).kp k8).ke k9 (.inr (by
      have h1 := Ow.bk_lt k6.w' o6' (Ow.bkIs o6' (by omega))
      have h2 := k7.n
      omega))
    have gj9 : h9.get q = some ⟨.row [.ptr (some (p, 0)), .int .i64 (n' : Nat), .int .u64 O.scan, .int .i64 O.at_, .int .u64 O.next, .int .u64 (0 : Nat)] T_retain_Journal false, .rw, []⟩ := k9.gt (k48.gt gj') (by omega)
    have gb9 : h9.get pb = some ⟨.row [.int .u64 O.best.num, .int .u64 O.best.scan, lvb, .bool O.best.ok] T_retain_slot false, .rw, []⟩ := k9.gt (k48.gt gb') (by omega)
    have ob9 : Oi h9 lvb O.best.l := (ob.kp k48).ke k9 fun i hi hh => by have := Ow.bk_lt k4.w' ob hi; omega
    have ox9 : Oi h9 lx (slotB B).l := (ox.kp k8).ke k9 fun i hi hh => by have := Ow.bk_lt k7.w' ox hi; omega
    have k9' : Kp h h9 := Ke.new_p (k4.trans k48) k9 fun i hi => by have := k4.n; omega
    have emx := aMax3 .u64 O.next ((slotB B).num + 1) (numOf M + 1)
    (try simp -dsimp (disch := omega) only [↓pre, sp, sp2, wp_some, Int.cast_ofNat_Int, Nat.reduceAdd, Nat.reduceMul, Nat.reduceSub, Nat.reduceLeDiff, Nat.reduceEqDiff, Nat.reducePow, Int.reduceToNat, Int.reducePow, Int.reduceAdd, Int.reduceSub, Int.reduceMul, Int.reduceLT, Int.reduceLE, Int.reduceEq, Int.reduceNeg, row_rw gj9, row_rw g9''])
    refine Wp.bind (numberOf_spec H (n + 1) k9.w' s6 (by omega) (by omega)) fun v10 h10 ⟨e10, k10⟩ => ?_
    subst e10
    have gj10 := k10.gt gj9
    have g10 := k10.gt g9''
    (try simp -dsimp (disch := omega) only [↓pre, sp, sp2, wp_some, Int.cast_ofNat_Int, Nat.reduceAdd, Nat.reduceMul, Nat.reduceSub, Nat.reduceLeDiff, Nat.reduceEqDiff, Nat.reducePow, Int.reduceToNat, Int.reducePow, Int.reduceAdd, Int.reduceSub, Int.reduceMul, Int.reduceLT, Int.reduceLE, Int.reduceEq, Int.reduceNeg, row_rw gj10, row_rw g10, emx])
    have emx2 : max (max (O.next : Int) ((slotB B).num + 1)) (numOf M + 1) = ((max (max O.next ((slotB B).num + 1)) (numOf M + 1) : Nat) : Int) := by omega
    rw [emx2]
    have hnx2 : max (max O.next ((slotB B).num + 1)) (numOf M + 1) ≤ 2 ^ 63 := by omega
    generalize hNX : max (max O.next ((slotB B).num + 1)) (numOf M + 1) = NX at *
    refine wp_store k10.w' gj10 rfl rfl (by simp) rfl fun h11 k11 n11 g11 => ?_
    have gj11 : h11.get q = some ⟨.row [.ptr (some (p, 0)), .int .i64 (n' : Nat), .int .u64 O.scan, .int .i64 O.at_, .int .u64 NX, .int .u64 (0 : Nat)] T_retain_Journal false, .rw, []⟩ := g11
    have s11 : Bs h11 vm M .rw := (s6.kp k10).ke k11 (.inr (by
      have h1 := (Ow.bkIs o6' (by omega))
      have h2 := f6 _ h1
      have h3 := k5.n
      omega))
    (try simp -dsimp (disch := omega) only [↓pre, sp, sp2, wp_some, Int.cast_ofNat_Int, Nat.reduceAdd, Nat.reduceMul, Nat.reduceSub, Nat.reduceLeDiff, Nat.reduceEqDiff, Nat.reducePow, Int.reduceToNat, Int.reducePow, Int.reduceAdd, Int.reduceSub, Int.reduceMul, Int.reduceLT, Int.reduceLE, Int.reduceEq, Int.reduceNeg])
    refine Wp.bind (was_spec H n k11.w' s11 (by omega) (by omega)) fun v12 h12 ⟨e12, k12⟩ => ?_
    subst e12
    have gj12 := k12.gt gj11
    have gx12 := k12.gt (k11.gt g10 (by omega))
    have gb12 := k12.gt (k11.gt (k10.gt gb9) (by omega))
    have ob12 : Oi h12 lvb O.best.l := ((ob9.kp k10).ke k11 fun i hi hh => (fb i hi).2.1 hh).kp k12
    have ox12 : Oi h12 lx (slotB B).l := ((ox9.kp k10).ke k11 fun i hi hh => by have := fx i hi; have := k6.n; have := k5.n; omega).kp k12
    have s12 := s11.kp k12
    have k12' : Kp h h12 := (Ke.new_p (k9'.trans k10) k11 fun i hi => by omega).trans k12
    clear s11 s6 gj9 gj10 g10 g9 g9' g9'' gb9 ob9 ox9
    refine wp_kJ (fun y h1 => h12 = h1 ∧ y = [.int .i64 (if wasB M then 2 else O.found : Nat)]) (fun jj hjj => ?_) ?_
    · cases hW : wasB M
      · (try simp -dsimp (disch := omega) only [↓pre, sp, sp2, wp_some, Int.cast_ofNat_Int, Nat.reduceAdd, Nat.reduceMul, Nat.reduceSub, Nat.reduceLeDiff, Nat.reduceEqDiff, Nat.reducePow, Int.reduceToNat, Int.reducePow, Int.reduceAdd, Int.reduceSub, Int.reduceMul, Int.reduceLT, Int.reduceLE, Int.reduceEq, Int.reduceNeg])
        exact hjj _ _ ⟨rfl, by rw [hW]; rfl⟩
      · (try simp -dsimp (disch := omega) only [↓pre, sp, sp2, wp_some, Int.cast_ofNat_Int, Nat.reduceAdd, Nat.reduceMul, Nat.reduceSub, Nat.reduceLeDiff, Nat.reduceEqDiff, Nat.reducePow, Int.reduceToNat, Int.reducePow, Int.reduceAdd, Int.reduceSub, Int.reduceMul, Int.reduceLT, Int.reduceLE, Int.reduceEq, Int.reduceNeg])
        exact hjj _ _ ⟨rfl, by rw [hW]; rfl⟩
    rintro _ _ ⟨rfl, rfl⟩
    have eo' : openStep n' i B M O = if takes n' B M O then ⟨if wasB M then 2 else O.found, slotB B, i, (slotB B).scan, NX⟩ else ⟨if wasB M then 2 else O.found, O.best, O.at_, O.scan, NX⟩ := by
      rw [openStep, hNX]
    rw [eo'] at eo
    generalize (if wasB M then 2 else O.found : Nat) = F at *
    have ei : IntKind.wrap .i64 ((i : Int) + 1) = ((i + 1 : Nat) : Int) := by rw [wr_i64 (by omega) (by omega)]; omega
    have fin : ∀ (b : Bool) (h5 : AH), Kp h12 h5 → b = decide (takes n' B M O) →
        Wp (kj (fun l136 h22 =>
          kq (rBin .add .no true (gd [AVal.int .i64 O.found, .int .i64 i] 1) (.int .i64 1)) <| fun v138 =>
          kq (some v138) <| fun v139 =>
          j [(gd [AVal.int .i64 F] 0), v139] h22) <| fun j137 =>
          kIf (.bool b) (
          kq (some (.ptr (some (q, 0)))) <| fun v140 =>
          kq (some (.ptr (some (q, 0)))) <| fun v141 =>
          kq (rLoadA 4 (.ptr (some (px, 0))) h5) <| fun v142 =>
          kq (some (.int .i64 i)) <| fun v143 =>
          kq (rFieldP 1 (.ptr (some (px, 0)))) <| fun v144 =>
          kq (rLoad v144 h5) <| fun v145 =>
          ke ((rStore 4 (.ptr (some (pb, 0))) v142 h5).map fun h' => (.tuple [], h')) <| fun v146 h23 =>
          kq (aNilCheck v140) <| fun v147 =>
          kq (rFieldP 3 v147) <| fun v148 =>
          kChk (!true || kSame (rLoad v144 h23) v145) <|
          kChk (!false || kSame (rLoadA 4 (.ptr (some (px, 0))) h23) v142) <|
          ke ((rStore 1 v148 v143 h23).map fun h' => (.tuple [], h')) <| fun v149 h24 =>
          kq (aNilCheck v141) <| fun v150 =>
          kq (rFieldP 2 v150) <| fun v151 =>
          kChk (!true || kSame (rLoad v144 h24) v145) <|
          kChk (!false || kSame (rLoadA 4 (.ptr (some (px, 0))) h24) v142) <|
          ke ((rStore 1 v151 v145 h24).map fun h' => (.tuple [], h')) <| fun v152 h25 =>
          kChk (!false || kSame (rLoad v144 h25) v145) <|
          kChk (!false || kSame (rLoadA 4 (.ptr (some (px, 0))) h25) v142) <|
          j137 [] h25) (
          j137 [] h5)) fun r h' => Kp h h' ∧ ((openBad s n' ∧ r = .tuple [.ptr none, .slice none 0 0, .int .i64 0, .int .i64 90]) ∨
       (¬ openBad s n' ∧ ∃ q lv2, r = .tuple [.ptr (some (q, 0)), lv2, .int .i64 (if 0 ≤ (openM s n').at_ then 1 else (openM s n').found : Nat), .int .i64 0] ∧
         Jr h' q p ⟨n', (openM s n').scan, (openM s n').at_, (openM s n').next, 0⟩ ∧ h.n ≤ q ∧ Oi h' lv2 (openM s n').best.l ∧ Fresh h lv2 ∧ ¬ isBk lv2 q)) := by
      intro b h5 k5 hb
      have gj5 := k5.gt gj12
      have gx5 := k5.gt gx12
      have gb5 := k5.gt gb12
      have ob5 := ob12.kp k5
      have ox5 := ox12.kp k5
      have k05 : Kp h h5 := k12'.trans k5
      have hfx : ∀ i, isBk lx i → h.n ≤ i ∧ i ≠ q ∧ i ≠ pb ∧ i ≠ px := fun i hi => by
        have h1 := fx i hi
        have h2 := Ow.bk_lt k7.w' ox hi
        omega
      refine wp_kJ (fun _ h' => ∃ lvb2, Kp h h' ∧ Jr h' q p ⟨n', (openN s n' (i + 1)).scan, (openN s n' (i + 1)).at_, (openN s n' (i + 1)).next, 0⟩ ∧ (openN s n' (i + 1)).found = F ∧ h'.get pb = some ⟨.row (slotC (openN s n' (i + 1)).best lvb2) T_retain_slot false, .rw, []⟩ ∧ Oi h' lvb2 (openN s n' (i + 1)).best.l ∧ ∀ j, isBk lvb2 j → h.n ≤ j ∧ j ≠ q ∧ j ≠ pb) (fun jj hjj => ?_) ?_
      · refine wp_kIf (fun cb => ?_) (fun cb => ?_)
        · rw [cb] at hb
          rw [if_pos (of_decide_eq_true hb.symm)] at eo
          (try simp -dsimp (disch := omega) only [↓pre, sp, sp2, wp_some, Int.cast_ofNat_Int, Nat.reduceAdd, Nat.reduceMul, Nat.reduceSub, Nat.reduceLeDiff, Nat.reduceEqDiff, Nat.reducePow, Int.reduceToNat, Int.reducePow, Int.reduceAdd, Int.reduceSub, Int.reduceMul, Int.reduceLT, Int.reduceLE, Int.reduceEq, Int.reduceNeg, row_rw gx5])
          refine wp_store k5.w' gb5 rfl rfl (by simp) (by show (true && (true && (lx.isCell && (true && true)))) = true; rw [Ow.isCell ox5]; rfl) fun h6 k6 n6 g6 => ?_
          have g6' : h6.get pb = some ⟨.row (slotC (slotB B) lx) T_retain_slot false, .rw, []⟩ := g6
          have gx6 := k6.gt gx5 (by omega)
          (try simp -dsimp (disch := omega) only [↓pre, sp, sp2, wp_some, Int.cast_ofNat_Int, Nat.reduceAdd, Nat.reduceMul, Nat.reduceSub, Nat.reduceLeDiff, Nat.reduceEqDiff, Nat.reducePow, Int.reduceToNat, Int.reducePow, Int.reduceAdd, Int.reduceSub, Int.reduceMul, Int.reduceLT, Int.reduceLE, Int.reduceEq, Int.reduceNeg, row_rw gx6])
          refine wp_store k6.w' (k6.gt gj5 (by omega)) rfl rfl (by simp) rfl fun h7 k7 n7 g7 => ?_
          have gx7 := k7.gt gx6 (by omega)
          (try simp -dsimp (disch := omega) only [↓pre, sp, sp2, wp_some, Int.cast_ofNat_Int, Nat.reduceAdd, Nat.reduceMul, Nat.reduceSub, Nat.reduceLeDiff, Nat.reduceEqDiff, Nat.reducePow, Int.reduceToNat, Int.reducePow, Int.reduceAdd, Int.reduceSub, Int.reduceMul, Int.reduceLT, Int.reduceLE, Int.reduceEq, Int.reduceNeg, row_rw gx7])
          refine wp_store k7.w' g7 rfl rfl (by simp [splice]) rfl fun h8 k8 n8 g8 => ?_
          (try simp -dsimp (disch := omega) only [↓pre, sp, sp2, wp_some, Int.cast_ofNat_Int, Nat.reduceAdd, Nat.reduceMul, Nat.reduceSub, Nat.reduceLeDiff, Nat.reduceEqDiff, Nat.reducePow, Int.reduceToNat, Int.reducePow, Int.reduceAdd, Int.reduceSub, Int.reduceMul, Int.reduceLT, Int.reduceLE, Int.reduceEq, Int.reduceNeg])
          refine hjj _ _ ⟨lx, ?_, ?_, ?_, ?_, ?_, fun i hi => ⟨(hfx i hi).1, (hfx i hi).2.1, (hfx i hi).2.2.1⟩⟩
          · exact Ke.new_p (Ke.new_p (Ke.new_p k05 k6 fun i hi => by omega) k7 fun i hi => by omega) k8 fun i hi => by omega
          · rw [eo]; exact g8
          · rw [eo]
          · rw [eo]; exact k8.gt (k7.gt g6' (by omega)) (by omega)
          · rw [eo]; exact ((ox5.ke k6 fun i hi hh => (hfx i hi).2.2.1 hh).ke k7 fun i hi hh => (hfx i hi).2.1 hh).ke k8 fun i hi hh => (hfx i hi).2.1 hh
        · rw [cb] at hb
          rw [if_neg (of_decide_eq_false hb.symm)] at eo
          refine hjj _ _ ⟨lvb, k05, ?_, ?_, ?_, ?_, fb⟩
          · rw [eo]; exact gj5
          · rw [eo]
          · rw [eo]; exact gb5
          · rw [eo]; exact ob5
      · rintro _ h' ⟨lvb2, q1, q2, q3, q4, q5, q6⟩
        (try simp -dsimp (disch := omega) only [↓pre, sp, sp2, wp_some, Int.cast_ofNat_Int, Nat.reduceAdd, Nat.reduceMul, Nat.reduceSub, Nat.reduceLeDiff, Nat.reduceEqDiff, Nat.reducePow, Int.reduceToNat, Int.reducePow, Int.reduceAdd, Int.reduceSub, Int.reduceMul, Int.reduceLT, Int.reduceLE, Int.reduceEq, Int.reduceNeg, ei])
        exact hj (m - 1) _ _ (by omega) ⟨i + 1, lvb2, by rw [q3], by omega, q1, q2, q4, q5, q6⟩
    (try simp -dsimp (disch := omega) only [↓pre, sp, sp2, wp_some, Int.cast_ofNat_Int, Nat.reduceAdd, Nat.reduceMul, Nat.reduceSub, Nat.reduceLeDiff, Nat.reduceEqDiff, Nat.reducePow, Int.reduceToNat, Int.reducePow, Int.reduceAdd, Int.reduceSub, Int.reduceMul, Int.reduceLT, Int.reduceLE, Int.reduceEq, Int.reduceNeg, row_rw gx12])
    cases hok : (slotB B).ok
    · rw [hok] at gx12
      (try simp -dsimp (disch := omega) only [↓pre, sp, sp2, wp_some, Int.cast_ofNat_Int, Nat.reduceAdd, Nat.reduceMul, Nat.reduceSub, Nat.reduceLeDiff, Nat.reduceEqDiff, Nat.reducePow, Int.reduceToNat, Int.reducePow, Int.reduceAdd, Int.reduceSub, Int.reduceMul, Int.reduceLT, Int.reduceLE, Int.reduceEq, Int.reduceNeg, gOn, row_rw gx12])
      exact fin false h12 (Ke.refl k12.w') (by simp [takes, hok])
    · rw [hok] at gx12
      (try simp -dsimp (disch := omega) only [↓pre, sp, sp2, wp_some, Int.cast_ofNat_Int, Nat.reduceAdd, Nat.reduceMul, Nat.reduceSub, Nat.reduceLeDiff, Nat.reduceEqDiff, Nat.reducePow, Int.reduceToNat, Int.reducePow, Int.reduceAdd, Int.reduceSub, Int.reduceMul, Int.reduceLT, Int.reduceLE, Int.reduceEq, Int.reduceNeg, row_rw gx12])
      refine Wp.bind (numberOf_spec H (n + 1) k12.w' s12 (by omega) (by omega)) fun v13 h13 ⟨e13, k13⟩ => ?_
      subst e13
      have gx13 := k13.gt gx12
      have gb13 := k13.gt gb12
      have ox13 := ox12.kp k13
      (try simp -dsimp (disch := omega) only [↓pre, sp, sp2, wp_some, Int.cast_ofNat_Int, Nat.reduceAdd, Nat.reduceMul, Nat.reduceSub, Nat.reduceLeDiff, Nat.reduceEqDiff, Nat.reducePow, Int.reduceToNat, Int.reducePow, Int.reduceAdd, Int.reduceSub, Int.reduceMul, Int.reduceLT, Int.reduceLE, Int.reduceEq, Int.reduceNeg])
      by_cases c6 : numOf M = (slotB B).num
      · have c6' : (numOf M : Int) = ((slotB B).num : Int) := by omega
        (try simp -dsimp (disch := omega) only [↓pre, sp, sp2, wp_some, Int.cast_ofNat_Int, Nat.reduceAdd, Nat.reduceMul, Nat.reduceSub, Nat.reduceLeDiff, Nat.reduceEqDiff, Nat.reducePow, Int.reduceToNat, Int.reducePow, Int.reduceAdd, Int.reduceSub, Int.reduceMul, Int.reduceLT, Int.reduceLE, Int.reduceEq, Int.reduceNeg, c6', decide_true, row_rw gx13, (Ow.rd ox13).len])
        by_cases c7 : (slotB B).l.length = n'
        · have c7' : ((slotB B).l.length : Int) = (n' : Int) := by omega
          (try simp -dsimp (disch := omega) only [↓pre, sp, sp2, wp_some, Int.cast_ofNat_Int, Nat.reduceAdd, Nat.reduceMul, Nat.reduceSub, Nat.reduceLeDiff, Nat.reduceEqDiff, Nat.reducePow, Int.reduceToNat, Int.reducePow, Int.reduceAdd, Int.reduceSub, Int.reduceMul, Int.reduceLT, Int.reduceLE, Int.reduceEq, Int.reduceNeg, c7', decide_true, row_rw gx13, row_rw gb13, gOn])
          refine fin _ h13 k13 ?_
          have e8 : ((slotB B).num : Int) > (O.best.num : Int) ↔ O.best.num < (slotB B).num := by omega
          simp only [takes, hok, c6, c7, true_and, e8]
        · have c7' : ¬ ((slotB B).l.length : Int) = (n' : Int) := by omega
          (try simp -dsimp (disch := omega) only [↓pre, sp, sp2, wp_some, Int.cast_ofNat_Int, Nat.reduceAdd, Nat.reduceMul, Nat.reduceSub, Nat.reduceLeDiff, Nat.reduceEqDiff, Nat.reducePow, Int.reduceToNat, Int.reducePow, Int.reduceAdd, Int.reduceSub, Int.reduceMul, Int.reduceLT, Int.reduceLE, Int.reduceEq, Int.reduceNeg, c7', decide_false, gOn, row_rw gx13])
          exact fin false h13 k13 (by simp [takes, hok, c6, c7])
      · have c6' : ¬ (numOf M : Int) = ((slotB B).num : Int) := by omega
        (try simp -dsimp (disch := omega) only [↓pre, sp, sp2, wp_some, Int.cast_ofNat_Int, Nat.reduceAdd, Nat.reduceMul, Nat.reduceSub, Nat.reduceLeDiff, Nat.reduceEqDiff, Nat.reducePow, Int.reduceToNat, Int.reducePow, Int.reduceAdd, Int.reduceSub, Int.reduceMul, Int.reduceLT, Int.reduceLE, Int.reduceEq, Int.reduceNeg, c6', decide_false, gOn, row_rw gx13])
        exact fin false h13 k13 (by simp [takes, hok, c6])
  · obtain rfl : i = 2 := by omega
    have eM : openN s n' 2 = openM s n' := rfl
    rw [eM] at *
    (try simp -dsimp (disch := omega) only [↓pre, sp, sp2, wp_some, Int.cast_ofNat_Int, Nat.reduceAdd, Nat.reduceMul, Nat.reduceSub, Nat.reduceLeDiff, Nat.reduceEqDiff, Nat.reducePow, Int.reduceToNat, Int.reducePow, Int.reduceAdd, Int.reduceSub, Int.reduceMul, Int.reduceLT, Int.reduceLE, Int.reduceEq, Int.reduceNeg, row_rw gj'])
    refine wp_kJ (fun y h1 => h4 = h1 ∧ y = [.int .i64 (if 0 ≤ (openM s n').at_ then 1 else (openM s n').found : Nat)]) (fun jj hjj => ?_) ?_
    · (try simp -dsimp (disch := omega) only [↓pre, sp, sp2, wp_some, Int.cast_ofNat_Int, Nat.reduceAdd, Nat.reduceMul, Nat.reduceSub, Nat.reduceLeDiff, Nat.reduceEqDiff, Nat.reducePow, Int.reduceToNat, Int.reducePow, Int.reduceAdd, Int.reduceSub, Int.reduceMul, Int.reduceLT, Int.reduceLE, Int.reduceEq, Int.reduceNeg])
      refine wp_ite (fun c6 => ?_) (fun c6 => ?_)
      · (try simp -dsimp (disch := omega) only [↓pre, sp, sp2, wp_some, Int.cast_ofNat_Int, Nat.reduceAdd, Nat.reduceMul, Nat.reduceSub, Nat.reduceLeDiff, Nat.reduceEqDiff, Nat.reducePow, Int.reduceToNat, Int.reducePow, Int.reduceAdd, Int.reduceSub, Int.reduceMul, Int.reduceLT, Int.reduceLE, Int.reduceEq, Int.reduceNeg])
        exact hjj _ _ ⟨rfl, by rw [if_pos (show 0 ≤ (openM s n').at_ from c6)]; rfl⟩
      · exact hjj _ _ ⟨rfl, by rw [if_neg (show ¬ 0 ≤ (openM s n').at_ from c6)]⟩
    rintro _ _ ⟨rfl, rfl⟩
    (try simp -dsimp (disch := omega) only [↓pre, sp, sp2, wp_some, Int.cast_ofNat_Int, Nat.reduceAdd, Nat.reduceMul, Nat.reduceSub, Nat.reduceLeDiff, Nat.reduceEqDiff, Nat.reducePow, Int.reduceToNat, Int.reducePow, Int.reduceAdd, Int.reduceSub, Int.reduceMul, Int.reduceLT, Int.reduceLE, Int.reduceEq, Int.reduceNeg, row_rw gb'])
    exact ⟨k4, .inr ⟨c, q, lvb, rfl, gj, hqn, ob, fun i hi => (fb i hi).1, fun hi => (fb _ hi).2.1 rfl⟩⟩
end Go.Proofs.Ytbcpmbggidemdaa.AI
