/- Chapter 9, the plain part: numbers as bytes, their sums; slots, markers. -/
import Derived.Test.YtbcpmbggidemdaaAiCrcP
namespace Go.Proofs.Ytbcpmbggidemdaa.AI
open Go
set_option linter.unusedSimpArgs false
set_option linter.unusedVariables false

/-- A number's lowest bytes, the highest first. -/
def beN (v : Nat) : Nat → List UInt8
  | 0 => []
  | k + 1 => UInt8.ofNat (v / 256 ^ k) :: beN v k
/-- The number of bytes. -/
def unbe (l : List UInt8) : Nat := l.foldl (fun n x => n * 256 + x.toNat) 0
theorem beN_len (v : Nat) : ∀ k, (beN v k).length = k
  | 0 => rfl
  | k + 1 => by simp [beN, beN_len v k]
theorem unbe_snoc (l : List UInt8) (x : UInt8) : unbe (l ++ [x]) = unbe l * 256 + x.toNat := by simp [unbe, List.foldl_append]
theorem foldl_unbe (l : List UInt8) : ∀ a, l.foldl (fun n x => n * 256 + x.toNat) a = a * 256 ^ l.length + unbe l := by
  induction l with
  | nil => intro a; simp [unbe]
  | cons x l ih =>
    intro a
    have e : unbe (x :: l) = (0 * 256 + x.toNat) * 256 ^ l.length + unbe l := by
      rw [unbe, List.foldl_cons, ih]
    rw [List.foldl_cons, ih, e, List.length_cons, Nat.pow_succ]
    rw [Nat.zero_mul, Nat.zero_add, Nat.add_mul, Nat.mul_assoc, Nat.mul_comm 256, Nat.add_assoc]
theorem unbe_cons (x : UInt8) (l : List UInt8) : unbe (x :: l) = x.toNat * 256 ^ l.length + unbe l := by
  rw [unbe, List.foldl_cons, foldl_unbe]; simp
theorem unbe_lt : ∀ l : List UInt8, unbe l < 256 ^ l.length
  | [] => by simp [unbe]
  | x :: l => by
      have h1 := unbe_lt l
      have h2 := x.toNat_lt
      rw [unbe_cons, List.length_cons, Nat.pow_succ]
      have : x.toNat * 256 ^ l.length ≤ 255 * 256 ^ l.length := Nat.mul_le_mul_right _ (by omega)
      omega
theorem unbe_beN (v : Nat) : ∀ k, unbe (beN v k) = v % 256 ^ k
  | 0 => by simp [beN, unbe, Nat.mod_one]
  | k + 1 => by
      rw [beN, unbe_cons, unbe_beN v k, beN_len, Nat.pow_succ, Nat.mod_mul]
      have : (UInt8.ofNat (v / 256 ^ k)).toNat = v / 256 ^ k % 256 := by simp
      rw [this, Nat.mul_comm, Nat.add_comm]
theorem unbe_take {l : List UInt8} {i : Nat} (h : i < l.length) : unbe (l.take (i + 1)) = unbe (l.take i) * 256 + gb l i := by
  rw [List.take_succ_eq_append_getElem h, unbe_snoc]
  simp [gb, h]

/-- The sum of bytes. -/
def s32 (l : List UInt8) : Nat := (~~~ crcL32 0xFFFFFFFF#32 l).toNat
theorem s32_lt (l : List UInt8) : s32 l < 4294967296 := (~~~ crcL32 0xFFFFFFFF#32 l).isLt
theorem aUn_not32 (x : BitVec 32) : aUn .xor (.int .u32 (x.toNat : Int)) = some (.int .u32 ((~~~x).toNat : Int)) := by
  have e1 : BitVec.ofInt IntKind.u32.bits (if IntKind.u32.signed = true then -1 else IntKind.u32.max) = BitVec.allOnes 32 := rfl
  have e2 := ofInt32 x
  have h2 := (~~~x).isLt
  have e3 : BitVec.allOnes 32 ^^^ x = ~~~x := BitVec.allOnes_xor
  show some (AVal.int .u32 (IntKind.wrap .u32 (((BitVec.ofInt IntKind.u32.bits (if IntKind.u32.signed = true then -1 else IntKind.u32.max)) ^^^ (BitVec.ofInt IntKind.u32.bits (x.toNat : Int))).toNat : Int))) = _
  rw [e1, e2]
  show some (AVal.int .u32 (IntKind.wrap .u32 ((BitVec.allOnes 32 ^^^ x).toNat : Int))) = _
  rw [e3, wr_u32 (by omega) (by omega)]
/-- A number and its sum. -/
def numB (n : Nat) : List UInt8 := beN n 8 ++ beN (s32 (beN n 8)) 4
theorem numB_len (n : Nat) : (numB n).length = 12 := by simp [numB, beN_len]
def numOf (b : List UInt8) : Nat := if numB (unbe (b.take 8)) = b.take 12 then unbe (b.take 8) else 0
structure Slot where
  num : Nat
  scan : Nat
  l : List Int
  ok : Bool
def cntOf (b : List UInt8) : Nat := unbe ((b.drop 12).take 4)
def atOf (b : List UInt8) (i : Nat) : Int := IntKind.wrap .i64 (unbe ((b.drop (24 + 8 * i)).take 8))
def numsOf (b : List UInt8) (n : Nat) : List Int := (List.range n).map (atOf b)
def slotB (b : List UInt8) : Slot :=
  if (b.length - 28) / 8 < cntOf b then ⟨numOf b, unbe ((b.drop 16).take 8), [], false⟩
  else ⟨numOf b, unbe ((b.drop 16).take 8), numsOf b (cntOf b), decide (0 < numOf b) && decide (s32 (b.take (24 + 8 * cntOf b)) = unbe ((b.drop (24 + 8 * cntOf b)).take 4))⟩
def some0 (l : List UInt8) : Nat := (l.filter (· ≠ 0)).length
theorem some0_take {l : List UInt8} {i : Nat} (h : i < l.length) : some0 (l.take (i + 1)) = some0 (l.take i) + if gb l i ≠ 0 then 1 else 0 := by
  have e : gb l i = (l[i]).toNat := by simp [gb, h]
  have e2 : (gb l i ≠ 0) ↔ l[i] ≠ 0 := by
    rw [e]
    constructor
    · intro a b; rw [b] at a; exact a rfl
    · intro a b; exact a (UInt8.toNat_inj.1 (by simpa using b))
  rw [List.take_succ_eq_append_getElem h, some0, List.filter_append, List.length_append]
  congr 1
  by_cases c : l[i] = 0
  · rw [if_neg (by rw [e2]; simp [c])]; simp [c]
  · rw [if_pos (e2.2 c)]; simp [c]
theorem some0_le (l : List UInt8) : some0 l ≤ l.length := List.length_filter_le _ _
def wasB (b : List UInt8) : Bool := decide (0 < numOf b) || (decide (1 < some0 (b.take 12)) && decide (b.getD (b.length - 1) 0 ≠ 0))

/-! What is laid. -/
def u64 (x : Int) : Nat := (IntKind.wrap .u64 x).toNat
theorem u64_eq (x : Int) : IntKind.wrap .u64 x = (u64 x : Int) := by
  have := IntKind.wrap_u64 x
  unfold u64; rw [this]; omega
theorem u64_lt (x : Int) : u64 x < 2 ^ 64 := by
  have := IntKind.wrap_u64 x
  unfold u64; rw [this]; omega
def numsB (l : List Int) : List UInt8 := (l.map fun x => beN (u64 x) 8).flatten
theorem numsB_append (l m : List Int) : numsB (l ++ m) = numsB l ++ numsB m := by simp [numsB]
theorem numsB_len : ∀ l : List Int, (numsB l).length = 8 * l.length
  | [] => rfl
  | x :: l => by
      have := numsB_len l
      simp only [numsB, List.map_cons, List.flatten_cons, List.length_append, beN_len, List.length_cons] at this ⊢
      omega
theorem numsB_take {l : List Int} {i : Nat} (h : i < l.length) : numsB (l.take (i + 1)) = numsB (l.take i) ++ beN (u64 (l.getD i 0)) 8 := by
  rw [List.take_succ_eq_append_getElem h, numsB_append]
  simp [numsB, h]
/-- A slot, ahead of its sum; a slot; a marker. -/
def bodyB (n scan : Nat) (l : List Int) : List UInt8 := numB n ++ beN l.length 4 ++ beN scan 8 ++ numsB l
theorem bodyB_len (n scan : Nat) (l : List Int) : (bodyB n scan l).length = 24 + 8 * l.length := by simp [bodyB, numB_len, beN_len, numsB_len]; omega
def slotBytes (size n scan : Nat) (l : List Int) : List UInt8 := bodyB n scan l ++ beN (s32 (bodyB n scan l)) 4 ++ List.replicate (size - (28 + 8 * l.length)) 0
theorem slotBytes_len {size n scan : Nat} {l : List Int} (h : 28 + 8 * l.length ≤ size) : (slotBytes size n scan l).length = size := by
  simp [slotBytes, bodyB_len, beN_len]; omega
def markBytes (size n : Nat) : List UInt8 := (numB n ++ List.replicate (size - 12) 0).set (size - 1) 0xA5
theorem markBytes_len {size n : Nat} (h : 12 ≤ size) : (markBytes size n).length = size := by
  simp [markBytes, numB_len]; omega

/-! What is read of what was laid. -/
theorem numOf_of {b : List UInt8} {n : Nat} (h : b.take 12 = numB n) (hn : n < 2 ^ 64) : numOf b = n := by
  have h8 : b.take 8 = beN n 8 := by
    have := congrArg (List.take 8) h
    rw [List.take_take] at this
    simpa [numB, beN_len] using this
  have hu : unbe (b.take 8) = n := by rw [h8, unbe_beN]; exact Nat.mod_eq_of_lt hn
  unfold numOf
  rw [hu, if_pos h.symm]
theorem numOf_same {b c : List UInt8} (h : b.take 12 = c.take 12) : numOf b = numOf c := by
  have h8 : b.take 8 = c.take 8 := by
    have := congrArg (List.take 8) h
    simpa [List.take_take] using this
  unfold numOf; rw [h, h8]
theorem numOf_le (b : List UInt8) : numOf b ≤ unbe (b.take 8) := by unfold numOf; split <;> omega
theorem numOf_or (b : List UInt8) : numOf b = unbe (b.take 8) ∨ numOf b = 0 := by unfold numOf; split <;> simp
theorem numOf_slot {size n scan : Nat} {l : List Int} (hn : n < 2 ^ 64) : numOf (slotBytes size n scan l) = n :=
  numOf_of (by simp [slotBytes, bodyB, numB_len]) hn
theorem mark_take {size n : Nat} (hs : 64 ≤ size) : (markBytes size n).take 12 = numB n := by
  rw [markBytes, List.take_set_of_le (by omega)]
  simp [numB_len]
theorem numOf_mark {size n : Nat} (hn : n < 2 ^ 64) (hs : 64 ≤ size) : numOf (markBytes size n) = n := numOf_of (mark_take hs) hn
def InI64 (x : Int) : Prop := -9223372036854775808 ≤ x ∧ x < 9223372036854775808
theorem back64 {x : Int} (h : InI64 x) : IntKind.wrap .i64 (unbe (beN (u64 x) 8) : Int) = x := by
  have hu := u64_lt x
  rw [unbe_beN, Nat.mod_eq_of_lt (by omega), ← u64_eq, IntKind.wrap_u64, IntKind.wrap_i64]
  unfold InI64 at h
  omega
theorem numsB_at : ∀ {l : List Int} {i : Nat} (t : List UInt8), i < l.length → ((numsB l ++ t).drop (8 * i)).take 8 = beN (u64 (l.getD i 0)) 8
  | x :: l, 0, t, _ => by
      simp only [numsB, List.map_cons, List.flatten_cons]
      simp [beN_len]
  | x :: l, i + 1, t, h => by
      have := numsB_at (l := l) (i := i) t (by simpa using h)
      simp only [numsB, List.map_cons, List.flatten_cons, List.append_assoc] at this ⊢
      rw [show 8 * (i + 1) = 8 * i + 8 by omega, Nat.add_comm (8 * i) 8, ← List.drop_drop]
      rw [List.drop_left' (beN_len _ 8)]
      simpa using this
/-- A slot with anything behind it. -/
def slotG (n scan : Nat) (l : List Int) (t : List UInt8) : List UInt8 := bodyB n scan l ++ beN (s32 (bodyB n scan l)) 4 ++ t
theorem slotG_len (n scan : Nat) (l : List Int) (t : List UInt8) : (slotG n scan l t).length = 28 + 8 * l.length + t.length := by simp [slotG, bodyB_len, beN_len]; omega
theorem slotB_gen {n scan : Nat} {l : List Int} {t : List UInt8} (hn : n < 2 ^ 64) (hscan : scan < 2 ^ 64) (hsz : 28 + 8 * l.length + t.length ≤ 4096) (hi : ∀ x ∈ l, InI64 x) : slotB (slotG n scan l t) = ⟨n, scan, l, decide (0 < n)⟩ := by
  have hlen := slotG_len n scan l t
  have hno : numOf (slotG n scan l t) = n := numOf_of (by simp [slotG, bodyB, numB_len]) hn
  have e : slotG n scan l t = numB n ++ (beN l.length 4 ++ (beN scan 8 ++ (numsB l ++ (beN (s32 (bodyB n scan l)) 4 ++ t)))) := by
    simp [slotG, bodyB]
  have d12 : (slotG n scan l t).drop 12 = beN l.length 4 ++ (beN scan 8 ++ (numsB l ++ (beN (s32 (bodyB n scan l)) 4 ++ t))) := by
    rw [e, List.drop_left' (numB_len n)]
  have d16 : (slotG n scan l t).drop 16 = beN scan 8 ++ (numsB l ++ (beN (s32 (bodyB n scan l)) 4 ++ t)) := by
    rw [show 16 = 12 + 4 from rfl, ← List.drop_drop, d12, List.drop_left' (beN_len _ 4)]
  have d24 : (slotG n scan l t).drop 24 = numsB l ++ (beN (s32 (bodyB n scan l)) 4 ++ t) := by
    rw [show 24 = 16 + 8 from rfl, ← List.drop_drop, d16, List.drop_left' (beN_len _ 8)]
  have hc : cntOf (slotG n scan l t) = l.length := by
    rw [cntOf, d12, List.take_left' (beN_len _ 4), unbe_beN, Nat.mod_eq_of_lt (by omega)]
  have hs : unbe (((slotG n scan l t).drop 16).take 8) = scan := by
    rw [d16, List.take_left' (beN_len _ 8), unbe_beN, Nat.mod_eq_of_lt (by omega)]
  have hnums : numsOf (slotG n scan l t) l.length = l := by
    apply List.ext_getElem
    · simp [numsOf]
    · intro i h1 h2
      simp only [numsOf, List.getElem_map, List.getElem_range, atOf]
      rw [← List.drop_drop, d24, numsB_at _ h2]
      have : l.getD i 0 = l[i] := by simp [h2]
      rw [this]
      exact back64 (hi _ (List.getElem_mem h2))
  have hb := bodyB_len n scan l
  have ht : (slotG n scan l t).take (24 + 8 * l.length) = bodyB n scan l := by
    rw [slotG, List.append_assoc, List.take_left' hb]
  have hd : ((slotG n scan l t).drop (24 + 8 * l.length)).take 4 = beN (s32 (bodyB n scan l)) 4 := by
    rw [slotG, List.append_assoc, List.drop_left' hb, List.take_left' (beN_len _ 4)]
  have hlt := s32_lt (bodyB n scan l)
  unfold slotB
  rw [hc, hlen, if_neg (by omega), hno, hs, hnums, ht, hd, unbe_beN, Nat.mod_eq_of_lt (by omega)]
  simp
theorem slotB_slot {size n scan : Nat} {l : List Int} (hn : n < 2 ^ 64) (hscan : scan < 2 ^ 64) (hl : 28 + 8 * l.length ≤ size) (hsz : size ≤ 4096) (hi : ∀ x ∈ l, InI64 x) : slotB (slotBytes size n scan l) = ⟨n, scan, l, decide (0 < n)⟩ :=
  slotB_gen (t := List.replicate (size - (28 + 8 * l.length)) 0) hn hscan (by rw [List.length_replicate]; omega) hi
end Go.Proofs.Ytbcpmbggidemdaa.AI
