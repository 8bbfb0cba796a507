/- Chapter 9, the plain law: what is found behind lays, torn ones, openings. -/
import Derived.Test.YtbcpmbggidemdaaRet4
namespace Go.Proofs.Ytbcpmbggidemdaa.AI
open Go
set_option linter.unusedSimpArgs false
set_option linter.unusedVariables false

abbrev bAt (s : BSt) (i : Nat) : List UInt8 := s.bl.getD i []
structure Inv (s : BSt) (c : Nat) : Prop where
  bl : 4 ≤ s.bl.length
  sz : 64 ≤ s.size ∧ s.size ≤ 4096
  len : ∀ i, i < 4 → (bAt s i).length = s.size
  nums : ∀ i, numOf (bAt s i) ≤ c
def LowS (s : BSt) : Prop := ∀ i, i < 4 → (bAt s i).take 7 = List.replicate 7 0
/-- The slot a is the newest. -/
structure Newest (s : BSt) (n a N sc : Nat) (l : List Int) : Prop where
  a1 : a ≤ 1
  pos : 0 < N
  slot : slotB (bAt s a) = ⟨N, sc, l, true⟩
  len : l.length = n
  mark : numOf (bAt s (2 + a)) = N
  other : numOf (bAt s (2 + (1 - a))) < N
structure Empty (s : BSt) : Prop where
  m2 : numOf (bAt s 2) = 0
  m3 : numOf (bAt s 3) = 0
  z2 : (bAt s 2).getD (s.size - 1) 0 = 0
  z3 : (bAt s 3).getD (s.size - 1) 0 = 0
def Has (s : BSt) (n : Nat) : Option (Nat × Nat × List Int) → Prop
  | some (N, sc, l) => ∃ a, Newest s n a N sc l
  | none => Empty s
/-- The journal knows it. -/
def Rdy (s : BSt) (j : JSt) (n c : Nat) (o : Option (Nat × Nat × List Int)) : Prop :=
  j.n = n ∧ j.next ≤ c + 1 ∧ match o with
    | some (N, sc, l) => ∃ a, Newest s n a N sc l ∧ j.at_ = (a : Nat) ∧ j.scan = sc ∧ N < j.next
    | none => Empty s ∧ j.at_ = -1 ∧ 1 ≤ j.next
theorem slotB_ok {b : List UInt8} (h : (slotB b).ok = true) : 0 < (slotB b).num := by
  rw [slotB_num]
  unfold slotB at h
  split at h
  · cases h
  · simp at h; exact h.1
theorem openN_le {s : BSt} {n c : Nat} (hn : ∀ i, numOf (bAt s i) ≤ c) : ∀ i, (openN s n i).next ≤ c + 1 ∧ 1 ≤ (openN s n i).next
  | 0 => by simp [openN, open0]
  | i + 1 => by
      have h1 := openN_le hn i (n := n)
      have h2 := hn i
      have h3 := hn (2 + i)
      unfold openN openStep
      unfold bAt at h2 h3
      split <;> simp only [slotB_num] <;> omega
theorem openStep_next (n i : Nat) (b m : List UInt8) (o : OSt) : o.next ≤ (openStep n i b m o).next ∧ numOf m < (openStep n i b m o).next := by
  unfold openStep
  split <;> simp only <;> omega
theorem open_has {s : BSt} {n c : Nat} {o : Option (Nat × Nat × List Int)} (I : Inv s c) (H : Has s n o) :
    Rdy s ⟨n, (openM s n).scan, (openM s n).at_, (openM s n).next, 0⟩ n c o ∧
      (if 0 ≤ (openM s n).at_ then 1 else (openM s n).found) = (if o.isSome then 1 else 0) ∧ (openM s n).best.l = (match o with | some (_, _, l) => l | none => []) := by
  have hle := openN_le (n := n) I.nums 2
  have em : openM s n = openStep n 1 (bAt s 1) (bAt s 3) (openStep n 0 (bAt s 0) (bAt s 2) open0) := rfl
  have n1 := openStep_next n 1 (bAt s 1) (bAt s 3) (openStep n 0 (bAt s 0) (bAt s 2) open0)
  have n0 := openStep_next n 0 (bAt s 0) (bAt s 2) open0
  rw [← em] at n1
  cases o with
  | none =>
    have hE : Empty s := H
    have t0 : ¬ takes n (bAt s 0) (bAt s 2) open0 := fun h => by
      have h1 := slotB_ok h.1
      have h2 := h.2.1
      rw [hE.m2] at h2; omega
    have w2 : wasB (bAt s 2) = false := by
      have := I.len 2 (by omega)
      unfold wasB; rw [this, hE.m2, hE.z2]; simp
    have w3 : wasB (bAt s 3) = false := by
      have := I.len 3 (by omega)
      unfold wasB; rw [this, hE.m3, hE.z3]; simp
    have e0 : openStep n 0 (bAt s 0) (bAt s 2) open0 = ⟨0, ⟨0, 0, [], false⟩, -1, 0, max (max 1 ((slotB (bAt s 0)).num + 1)) (numOf (bAt s 2) + 1)⟩ := by
      unfold openStep; rw [if_neg t0, w2]; rfl
    have t1 : ¬ takes n (bAt s 1) (bAt s 3) (openStep n 0 (bAt s 0) (bAt s 2) open0) := fun h => by
      have h1 := slotB_ok h.1
      have h2 := h.2.1
      rw [hE.m3] at h2; omega
    have e1 : (openM s n).at_ = -1 ∧ (openM s n).found = 0 ∧ (openM s n).best.l = [] := by
      rw [em]
      generalize hO : openStep n 0 (bAt s 0) (bAt s 2) open0 = O at *
      unfold openStep; rw [if_neg t1, w3, e0]; exact ⟨rfl, rfl, rfl⟩
    refine ⟨⟨rfl, hle.1, hE, e1.1, hle.2⟩, ?_, e1.2.2⟩
    rw [e1.1, e1.2.1]; rfl
  | some x =>
    obtain ⟨N, sc, l⟩ := x
    obtain ⟨a, G⟩ := H
    have key : (openM s n).at_ = a ∧ (openM s n).scan = sc ∧ (openM s n).best.l = l ∧ N < (openM s n).next := by
      have ha := G.a1
      obtain rfl | rfl : a = 0 ∨ a = 1 := by omega
      · have hs := G.slot
        have hm : numOf (bAt s 2) = N := G.mark
        have ho : numOf (bAt s 3) < N := G.other
        have t0 : takes n (bAt s 0) (bAt s 2) open0 := by
          unfold takes; rw [hs]; exact ⟨rfl, hm, G.len, G.pos⟩
        have e0 : openStep n 0 (bAt s 0) (bAt s 2) open0 = ⟨if wasB (bAt s 2) then 2 else 0, ⟨N, sc, l, true⟩, 0, sc, max (max 1 (N + 1)) (numOf (bAt s 2) + 1)⟩ := by
          unfold openStep; rw [if_pos t0, hs]; rfl
        have t1 : ¬ takes n (bAt s 1) (bAt s 3) (openStep n 0 (bAt s 0) (bAt s 2) open0) := fun h => by
          have h1 := h.2.1
          have h2 := h.2.2.2
          rw [e0] at h2
          have h3 : N < (slotB (bAt s 1)).num := h2
          omega
        have hnx : N < (openM s n).next := by omega
        refine ⟨?_, ?_, ?_, hnx⟩ <;> rw [em] <;> generalize hO : openStep n 0 (bAt s 0) (bAt s 2) open0 = O at * <;> unfold openStep <;> rw [if_neg t1, e0]
        rfl
      · have hs := G.slot
        have hm : numOf (bAt s 3) = N := G.mark
        have ho : numOf (bAt s 2) < N := G.other
        have hb : (openStep n 0 (bAt s 0) (bAt s 2) open0).best.num < N := by
          unfold openStep
          split
          · rename_i h
            have := h.2.1
            show (slotB (bAt s 0)).num < N
            omega
          · exact G.pos
        have t1 : takes n (bAt s 1) (bAt s 3) (openStep n 0 (bAt s 0) (bAt s 2) open0) := by
          unfold takes; rw [hs]; exact ⟨rfl, hm, G.len, hb⟩
        have hnx : N < (openM s n).next := by omega
        refine ⟨?_, ?_, ?_, hnx⟩ <;> rw [em] <;> generalize hO : openStep n 0 (bAt s 0) (bAt s 2) open0 = O at * <;> unfold openStep <;> rw [if_pos t1, hs]
    refine ⟨⟨rfl, hle.1, a, G, key.1, key.2.1, key.2.2.2⟩, ?_, key.2.2.1⟩
    rw [key.1]; simp

/-! ### Lays -/
theorem getD_set {α : Type} (l : List α) (d b : α) {i j : Nat} (hi : i < l.length) : (l.set i b).getD j d = if i = j then b else l.getD j d := by
  simp only [List.getD_eq_getElem?_getD, List.getElem?_set]
  split
  · rename_i e; subst e; simp [hi]
  · rfl
theorem beN_low {v : Nat} (h : v < 256) : (beN v 8).take 7 = List.replicate 7 0 := by
  simp only [beN, List.take_succ_cons, List.take_zero, List.replicate]
  rw [Nat.div_eq_of_lt (show v < 256 ^ 7 by omega), Nat.div_eq_of_lt (show v < 256 ^ 6 by omega), Nat.div_eq_of_lt (show v < 256 ^ 5 by omega), Nat.div_eq_of_lt (show v < 256 ^ 4 by omega), Nat.div_eq_of_lt (show v < 256 ^ 3 by omega), Nat.div_eq_of_lt (show v < 256 ^ 2 by omega), Nat.div_eq_of_lt (show v < 256 ^ 1 by omega)]
  rfl
theorem numB_low {v : Nat} (h : v < 256) {t : List UInt8} : (numB v ++ t).take 7 = List.replicate 7 0 := by
  rw [List.take_append_of_le_length (by rw [numB_len]; omega), numB, List.take_append_of_le_length (by rw [beN_len]; omega), beN_low h]
theorem slot_low {size n scan : Nat} {l : List Int} (h : n < 256) : (slotBytes size n scan l).take 7 = List.replicate 7 0 := by
  have : slotBytes size n scan l = numB n ++ (beN l.length 4 ++ (beN scan 8 ++ (numsB l ++ (beN (s32 (bodyB n scan l)) 4 ++ List.replicate (size - (28 + 8 * l.length)) 0)))) := by simp [slotBytes, bodyB]
  rw [this, numB_low h]
theorem mark_low {size n : Nat} (h : n < 256) (hs : 64 ≤ size) : (markBytes size n).take 7 = List.replicate 7 0 := by
  rw [markBytes, List.take_set_of_le (by omega), numB_low h]
/-- A torn write. -/
def torn (p : Nat) (new old : List UInt8) : List UInt8 := new.take p ++ old.drop p
theorem torn_len {p : Nat} {new old : List UInt8} (h : new.length = old.length) : (torn p new old).length = old.length := by
  simp [torn]; omega
theorem torn_few {p : Nat} {new old : List UInt8} (h : new.take 7 = old.take 7) (hp : p ≤ 7) : torn p new old = old := by
  have : new.take p = old.take p := by
    have := congrArg (List.take p) h
    simpa [List.take_take, Nat.min_eq_left hp] using this
  rw [torn, this, List.take_append_drop]
theorem torn_many {p k : Nat} {new old : List UInt8} (hp : k ≤ p) (hn : k ≤ new.length) : (torn p new old).take k = new.take k := by
  rw [torn, List.take_append_of_le_length (by rw [List.length_take]; omega), List.take_take, Nat.min_eq_left hp]
theorem numOf_torn {p n : Nat} {new old : List UInt8} (h : new.take 7 = old.take 7) (hn : new.take 8 = beN n 8) (h8 : n < 2 ^ 64) (hl : 8 ≤ new.length) : numOf (torn p new old) = numOf old ∨ (8 ≤ p ∧ (numOf (torn p new old) = n ∨ numOf (torn p new old) = 0)) := by
  by_cases hp : p ≤ 7
  · left; rw [torn_few h hp]
  · right
    refine ⟨by omega, ?_⟩
    have := numOf_or (torn p new old)
    rw [torn_many (by omega) hl, hn, unbe_beN, Nat.mod_eq_of_lt (by omega)] at this
    exact this
theorem slot_take8 (size n scan : Nat) (l : List Int) : (slotBytes size n scan l).take 8 = beN n 8 := by
  have : slotBytes size n scan l = beN n 8 ++ (beN (s32 (beN n 8)) 4 ++ (beN l.length 4 ++ (beN scan 8 ++ (numsB l ++ (beN (s32 (bodyB n scan l)) 4 ++ List.replicate (size - (28 + 8 * l.length)) 0))))) := by simp [slotBytes, bodyB, numB]
  rw [this, List.take_left' (beN_len _ 8)]
theorem mark_take8 {size n : Nat} (hs : 64 ≤ size) : (markBytes size n).take 8 = beN n 8 := by
  have := congrArg (List.take 8) (mark_take (n := n) hs)
  rw [List.take_take] at this
  rw [show min 8 12 = 8 from rfl] at this
  rw [this, numB, List.take_left' (beN_len _ 8)]

theorem Rdy.at {s : BSt} {j : JSt} {n c : Nat} {o : Option (Nat × Nat × List Int)} (R : Rdy s j n c o) : layAt j ≤ 1 ∧ -1 ≤ j.at_ ∧ j.at_ ≤ 1 ∧ 1 ≤ j.next ∧ numOf (bAt s (2 + (1 - layAt j))) < j.next := by
  obtain ⟨_, _, R⟩ := R
  cases o with
  | none =>
    obtain ⟨E, h1, h2⟩ := R
    have : layAt j = 0 := by unfold layAt; rw [if_pos (by omega)]
    rw [this]
    refine ⟨by omega, by omega, by omega, h2, ?_⟩
    show numOf (bAt s 3) < _
    rw [E.m3]; omega
  | some x =>
    obtain ⟨N, sc, l⟩ := x
    obtain ⟨a, G, h1, h2, h3⟩ := R
    have ha := G.a1
    have : layAt j = 1 - a := by unfold layAt; rw [if_neg (by omega)]; omega
    rw [this, show 1 - (1 - a) = a by omega]
    refine ⟨by omega, by omega, by omega, by omega, ?_⟩
    rw [G.mark]; exact h3
theorem isM_ok {s : BSt} {i : Nat} (hd : s.dead = false) (hi : i < s.bl.length) : isM s i = 0 := by
  unfold isM; rw [if_neg (by simp [hd]), if_neg (by omega)]
theorem writeM_ok {s : BSt} {i : Nat} {b : List UInt8} (hd : s.dead = false) (hi : i < s.bl.length) (hb : b.length = s.size) (hl : s.left ≠ 0) : writeM s i b = ({ s with bl := s.bl.set i b, left := max (s.left - 1) (-1), writes := s.writes + 1 }, 0) := by
  unfold writeM; rw [if_neg (by simp [isM_ok hd hi]), if_neg (by omega), if_neg hl, Int.toNat_natCast]
theorem writeM_torn {s : BSt} {i : Nat} {b : List UInt8} (hd : s.dead = false) (hi : i < s.bl.length) (hb : b.length = s.size) (hl : s.left = 0) : writeM s i b = ({ s with bl := s.bl.set i (torn (min (max s.pre 0) s.size).toNat b (bAt s i)), dead := true }, 82) := by
  unfold writeM; rw [if_neg (by simp [isM_ok hd hi]), if_neg (by omega), if_pos hl, Int.toNat_natCast]; rfl

theorem lay_ok {s : BSt} {j : JSt} {n c scan : Nat} {l : List Int} {o : Option (Nat × Nat × List Int)} (I : Inv s c) (R : Rdy s j n c o) (hl : l.length = n) (hr : 28 + 8 * n ≤ s.size) (hi : ∀ x ∈ l, InI64 x) (hscan : scan < 2 ^ 64) (hc : c < 2 ^ 62) (hd : s.dead = false) (hlf : s.left = -1 ∨ 2 ≤ s.left) :
    ∃ s', layM s j scan l = (s', { j with scan := scan, at_ := layAt j, next := j.next + 1, laid := j.laid + 1 }, 0) ∧ Inv s' (c + 1) ∧ (LowS s → c + 1 < 256 → LowS s') ∧ Rdy s' { j with scan := scan, at_ := layAt j, next := j.next + 1, laid := j.laid + 1 } n (c + 1) (some (j.next, scan, l)) ∧ s'.dead = false ∧ s'.size = s.size ∧ s'.writes = s.writes + 2 ∧ s'.left = max (s.left - 2) (-1) ∧ s'.bl.length = s.bl.length ∧ (bAt s' (layAt j) = slotBytes s.size j.next scan l ∧ bAt s' (2 + layAt j) = markBytes s.size j.next ∧ ∀ i, i ≠ layAt j → i ≠ 2 + layAt j → bAt s' i = bAt s i) := by
  obtain ⟨ha, hat, hat2, hn1, hoth⟩ := R.at
  have hsz := I.sz
  have hbl := I.bl
  have hjn : j.n = n := R.1
  have hnx : j.next ≤ c + 1 := R.2.1
  have hsl := slotBytes_len (n := j.next) (scan := scan) (l := l) (size := s.size) (by omega)
  have hml := markBytes_len (size := s.size) (n := j.next) (by omega)
  have w1 := writeM_ok (b := slotBytes s.size j.next scan l) (i := layAt j) hd (by omega) hsl (by omega)
  generalize hs1 : ({ s with bl := s.bl.set (layAt j) (slotBytes s.size j.next scan l), left := max (s.left - 1) (-1), writes := s.writes + 1 } : BSt) = s1 at w1
  have w2 := writeM_ok (s := s1) (b := markBytes s.size j.next) (i := 2 + layAt j) (by rw [← hs1]; exact hd) (by rw [← hs1]; simp; omega) (by rw [← hs1]; exact hml) (by rw [← hs1]; show max (s.left - 1) (-1) ≠ 0; omega)
  generalize hs2 : ({ s1 with bl := s1.bl.set (2 + layAt j) (markBytes s.size j.next), left := max (s1.left - 1) (-1), writes := s1.writes + 1 } : BSt) = s2 at w2
  have b2 : ∀ i, bAt s2 i = if 2 + layAt j = i then markBytes s.size j.next else if layAt j = i then slotBytes s.size j.next scan l else bAt s i := fun i => by
    rw [← hs2]
    show (s1.bl.set (2 + layAt j) (markBytes s.size j.next)).getD i [] = _
    rw [getD_set _ _ _ (by rw [← hs1]; simp; omega)]
    rw [← hs1]
    show (if 2 + layAt j = i then markBytes s.size j.next else (s.bl.set (layAt j) (slotBytes s.size j.next scan l)).getD i []) = _
    rw [getD_set _ _ _ (by omega)]
  have hsz2 : s2.size = s.size := by rw [← hs2, ← hs1]
  have hm : layM s j scan l = (s2, { j with scan := scan, at_ := layAt j, next := j.next + 1, laid := j.laid + 1 }, 0) := by
    unfold layM
    rw [if_neg (by omega), w1, if_neg (by simp), w2, if_neg (by simp)]
  have nsl := numOf_slot (size := s.size) (n := j.next) (scan := scan) (l := l) (by omega)
  have nml := numOf_mark (size := s.size) (n := j.next) (by omega) (by omega)
  have ssl := slotB_slot (size := s.size) (n := j.next) (scan := scan) (l := l) (by omega) hscan (by omega) hsz.2 hi
  refine ⟨s2, hm, ⟨by rw [← hs2, ← hs1]; simpa using hbl, by rw [hsz2]; exact hsz, fun i h => ?_, fun i => ?_⟩, fun hL hc2 i h => ?_, ?_, by rw [← hs2, ← hs1]; exact hd, hsz2, by rw [← hs2, ← hs1], ?_, by rw [← hs2, ← hs1]; simp, ?_⟩
  · rw [b2, hsz2]; split
    · exact hml
    · split
      · exact hsl
      · exact I.len i h
  · rw [b2]; split
    · omega
    · split
      · omega
      · have := I.nums i; omega
  · rw [b2]; split
    · exact mark_low (by omega) (by omega)
    · split
      · exact slot_low (by omega)
      · exact hL i h
  · refine ⟨hjn, by show j.next + 1 ≤ c + 1 + 1; omega, layAt j, ⟨ha, by omega, ?_, hl, ?_, ?_⟩, rfl, rfl, by show j.next < j.next + 1; omega⟩
    · rw [b2, if_neg (by omega), if_pos rfl, ssl]; simp; omega
    · rw [b2, if_pos rfl, nml]
    · rw [b2, if_neg (by omega), if_neg (by omega)]; exact hoth
  · rw [← hs2, ← hs1]; show max (max (s.left - 1) (-1) - 1) (-1) = _; omega
  · refine ⟨by rw [b2, if_neg (by omega), if_pos rfl], by rw [b2, if_pos rfl], fun i h1 h2 => by rw [b2, if_neg (by omega), if_neg (by omega)]⟩

theorem torn_low {p : Nat} {new old z : List UInt8} (h1 : new.take 7 = z) (h2 : old.take 7 = z) (hl : 7 ≤ new.length) : (torn p new old).take 7 = z := by
  by_cases hp : p ≤ 7
  · rw [torn_few (h1.trans h2.symm) hp, h2]
  · rw [torn_many (by omega) hl, h1]
theorem Rdy.has {s : BSt} {j : JSt} {n c : Nat} {o : Option (Nat × Nat × List Int)} (R : Rdy s j n c o) : Has s n o := by
  obtain ⟨_, _, R⟩ := R
  cases o with
  | none => exact R.1
  | some x => obtain ⟨N, sc, l⟩ := x; obtain ⟨a, G, _⟩ := R; exact ⟨a, G⟩
/-- What is laid besides doesn't matter. -/
theorem Rdy.keep {s s' : BSt} {j : JSt} {n c : Nat} {o : Option (Nat × Nat × List Int)} (R : Rdy s j n c o) (hs : s'.size = s.size) (hb : ∀ i, i ≠ layAt j → i ≠ 2 + layAt j → bAt s' i = bAt s i)
    (hm : numOf (bAt s' (2 + layAt j)) = numOf (bAt s (2 + layAt j)) ∨ numOf (bAt s' (2 + layAt j)) = 0) (hz : (bAt s (2 + layAt j)).getD (s.size - 1) 0 = 0 → (bAt s' (2 + layAt j)).getD (s.size - 1) 0 = 0) : Has s' n o := by
  obtain ⟨_, _, R⟩ := R
  cases o with
  | none =>
    obtain ⟨E, h1, h2⟩ := R
    have e : layAt j = 0 := by unfold layAt; rw [if_pos (by omega)]
    rw [e] at hb hm hz
    refine ⟨?_, ?_, ?_, ?_⟩
    · rcases hm with h | h
      · exact h.trans E.m2
      · exact h
    · rw [hb 3 (by omega) (by omega)]; exact E.m3
    · rw [hs]; exact hz E.z2
    · rw [hs, hb 3 (by omega) (by omega)]; exact E.z3
  | some x =>
    obtain ⟨N, sc, l⟩ := x
    obtain ⟨a, G, h1, h2, h3⟩ := R
    have ha := G.a1
    have e : layAt j = 1 - a := by unfold layAt; rw [if_neg (by omega)]; omega
    rw [e] at hb hm
    refine ⟨a, ha, G.pos, ?_, G.len, ?_, ?_⟩
    · rw [hb a (by omega) (by omega)]; exact G.slot
    · rw [hb (2 + a) (by omega) (by omega)]; exact G.mark
    · rcases hm with h | h
      · rw [h]; exact G.other
      · rw [h]; exact G.pos
theorem lay_cut {s : BSt} {j : JSt} {n c scan : Nat} {l : List Int} {o : Option (Nat × Nat × List Int)} (I : Inv s c) (hL : LowS s) (R : Rdy s j n c o) (hl : l.length = n) (hr : 28 + 8 * n ≤ s.size) (hi : ∀ x ∈ l, InI64 x) (hscan : scan < 2 ^ 64) (hc : c + 1 < 256) (hd : s.dead = false) (hlf : s.left = 0 ∨ s.left = 1) :
    ∃ s', layM s j scan l = (s', j, 82) ∧ Inv s' (c + 1) ∧ LowS s' ∧ (Has s' n (some (j.next, scan, l)) ∨ Has s' n o) ∧ s'.size = s.size ∧ s'.writes ≤ s.writes + 1 := by
  obtain ⟨ha, hat, hat2, hn1, hoth⟩ := R.at
  have hsz := I.sz
  have hbl := I.bl
  have hjn : j.n = n := R.1
  have hnx : j.next ≤ c + 1 := R.2.1
  have hsl := slotBytes_len (n := j.next) (scan := scan) (l := l) (size := s.size) (by omega)
  have hml := markBytes_len (size := s.size) (n := j.next) (by omega)
  have nsl := numOf_slot (size := s.size) (n := j.next) (scan := scan) (l := l) (by omega)
  have nml := numOf_mark (size := s.size) (n := j.next) (by omega) (by omega)
  have ssl := slotB_slot (size := s.size) (n := j.next) (scan := scan) (l := l) (by omega) hscan (by omega) hsz.2 hi
  have lsl := slot_low (size := s.size) (n := j.next) (scan := scan) (l := l) (by omega)
  have lml := mark_low (size := s.size) (n := j.next) (by omega) (by omega)
  have la := hL (layAt j) (by omega)
  have lm := hL (2 + layAt j) (by omega)
  have lena := I.len (layAt j) (by omega)
  have lenm := I.len (2 + layAt j) (by omega)
  rcases hlf with h0 | h1
  · have w1 := writeM_torn (b := slotBytes s.size j.next scan l) (i := layAt j) hd (by omega) hsl h0
    generalize hp : (min (max s.pre 0) (s.size : Int)).toNat = p at w1
    generalize hs1 : ({ s with bl := s.bl.set (layAt j) (torn p (slotBytes s.size j.next scan l) (bAt s (layAt j))), dead := true } : BSt) = s1 at w1
    have b1 : ∀ i, bAt s1 i = if layAt j = i then torn p (slotBytes s.size j.next scan l) (bAt s (layAt j)) else bAt s i := fun i => by
      rw [← hs1]
      show (s.bl.set (layAt j) _).getD i [] = _
      rw [getD_set _ _ _ (by omega)]
    have hsz1 : s1.size = s.size := by rw [← hs1]
    have nt := numOf_torn (p := p) (n := j.next) (lsl.trans la.symm) (slot_take8 _ _ _ _) (by omega) (by omega)
    refine ⟨s1, by unfold layM; rw [if_neg (by omega), w1, if_pos (show (82 : Int) ≠ 0 by decide)], ⟨by rw [← hs1]; simpa using hbl, by rw [hsz1]; exact hsz, fun i h => ?_, fun i => ?_⟩, fun i h => ?_, .inr (R.keep hsz1 (fun i h1 h2 => by rw [b1, if_neg (by omega)]) (.inl (by rw [b1, if_neg (by omega)])) (fun h => by rw [b1, if_neg (by omega)]; exact h)), hsz1, by rw [← hs1]; show s.writes ≤ s.writes + 1; omega⟩
    · rw [b1, hsz1]; split
      · rw [torn_len (by omega)]; exact lena
      · exact I.len i h
    · rw [b1]; split
      · have := I.nums (layAt j)
        rcases nt with h | ⟨_, h | h⟩ <;> omega
      · have := I.nums i; omega
    · rw [b1]; split
      · exact torn_low lsl la (by omega)
      · exact hL i h
  · have w1 := writeM_ok (b := slotBytes s.size j.next scan l) (i := layAt j) hd (by omega) hsl (by omega)
    generalize hs1 : ({ s with bl := s.bl.set (layAt j) (slotBytes s.size j.next scan l), left := max (s.left - 1) (-1), writes := s.writes + 1 } : BSt) = s1 at w1
    have hbl1 : 4 ≤ s1.bl.length := by rw [← hs1]; simpa using hbl
    have w2 := writeM_torn (s := s1) (b := markBytes s.size j.next) (i := 2 + layAt j) (by rw [← hs1]; exact hd) (by omega) (by rw [← hs1]; exact hml) (by rw [← hs1]; show max (s.left - 1) (-1) = 0; omega)
    generalize hp : (min (max s1.pre 0) (s1.size : Int)).toNat = p at w2
    have b1 : ∀ i, bAt s1 i = if layAt j = i then slotBytes s.size j.next scan l else bAt s i := fun i => by
      rw [← hs1]
      show (s.bl.set (layAt j) _).getD i [] = _
      rw [getD_set _ _ _ (by omega)]
    have hm0 : bAt s1 (2 + layAt j) = bAt s (2 + layAt j) := by rw [b1, if_neg (by omega)]
    rw [hm0] at w2
    generalize hs2 : ({ s1 with bl := s1.bl.set (2 + layAt j) (torn p (markBytes s.size j.next) (bAt s (2 + layAt j))), dead := true } : BSt) = s2 at w2
    have b2 : ∀ i, bAt s2 i = if 2 + layAt j = i then torn p (markBytes s.size j.next) (bAt s (2 + layAt j)) else if layAt j = i then slotBytes s.size j.next scan l else bAt s i := fun i => by
      rw [← hs2]
      show (s1.bl.set (2 + layAt j) _).getD i [] = _
      rw [getD_set _ _ _ (by omega)]
      have := b1 i
      unfold bAt at this
      rw [this]
    have hsz2 : s2.size = s.size := by rw [← hs2, ← hs1]
    have nt := numOf_torn (p := p) (n := j.next) (lml.trans lm.symm) (mark_take8 (by omega)) (by omega) (by omega)
    refine ⟨s2, by unfold layM; rw [if_neg (by omega), w1, if_neg (by simp), w2, if_pos (show (82 : Int) ≠ 0 by decide)], ⟨by rw [← hs2, ← hs1]; simpa using hbl, by rw [hsz2]; exact hsz, fun i h => ?_, fun i => ?_⟩, fun i h => ?_, ?_, hsz2, by rw [← hs2, ← hs1]; show s.writes + 1 ≤ s.writes + 1; omega⟩
    · rw [b2, hsz2]; split
      · rw [torn_len (by omega)]; exact lenm
      · split
        · exact hsl
        · exact I.len i h
    · rw [b2]; split
      · have := I.nums (2 + layAt j)
        rcases nt with h | ⟨_, h | h⟩ <;> omega
      · split
        · omega
        · have := I.nums i; omega
    · rw [b2]; split
      · exact torn_low lml lm (by omega)
      · split
        · exact lsl
        · exact hL i h
    · have em : bAt s2 (2 + layAt j) = torn p (markBytes s.size j.next) (bAt s (2 + layAt j)) := by rw [b2, if_pos rfl]
      have eb : ∀ i, i ≠ layAt j → i ≠ 2 + layAt j → bAt s2 i = bAt s i := fun i h1 h2 => by rw [b2, if_neg (by omega), if_neg (by omega)]
      by_cases hnew : numOf (torn p (markBytes s.size j.next) (bAt s (2 + layAt j))) = j.next
      · left
        refine ⟨layAt j, ha, by omega, ?_, hl, ?_, ?_⟩
        · rw [b2, if_neg (by omega), if_pos rfl, ssl]; simp; omega
        · rw [em, hnew]
        · rw [eb _ (by omega) (by omega)]; exact hoth
      · right
        refine R.keep hsz2 eb ?_ ?_
        · rw [em]
          rcases nt with h | ⟨_, h | h⟩
          · exact .inl h
          · exact absurd h hnew
          · exact .inr h
        · intro hz
          rw [em]
          by_cases hp2 : p < s.size
          · rw [torn, List.getD_eq_getElem?_getD, List.getElem?_append_right (by rw [List.length_take]; omega), List.length_take, List.getElem?_drop, ← List.getD_eq_getElem?_getD, show p + (s.size - 1 - min p (markBytes s.size j.next).length) = s.size - 1 by omega]
            exact hz
          · exfalso
            apply hnew
            rw [torn, List.take_of_length_le (by omega), List.drop_of_length_le (by omega), List.append_nil]
            exact nml
end Go.Proofs.Ytbcpmbggidemdaa.AI
