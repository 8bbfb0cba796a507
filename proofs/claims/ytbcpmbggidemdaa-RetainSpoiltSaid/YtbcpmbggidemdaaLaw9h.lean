/- Chapter 9: one byte spoilt; RetainSpoilt. -/
import Derived.Test.YtbcpmbggidemdaaLaw9
namespace Go.Proofs.Ytbcpmbggidemdaa.AI
open Go
set_option linter.unusedSimpArgs false
set_option linter.unusedVariables false
section

theorem stepB32_lin (a b : BitVec 32) : stepB32 (a ^^^ b) = stepB32 a ^^^ stepB32 b := by
  unfold stepB32
  rw [BitVec.ushiftRight_xor_distrib, BitVec.getLsbD_xor]
  generalize a >>> 1 = x
  generalize b >>> 1 = y
  have hz : 0xEDB88320#32 ^^^ 0xEDB88320#32 = 0#32 := BitVec.xor_self
  cases a.getLsbD 0 <;> cases b.getLsbD 0 <;> simp only [Bool.xor_false, Bool.false_xor, Bool.xor_true, Bool.true_xor, Bool.not_true, Bool.not_false, Bool.false_eq_true, if_true, if_false, BitVec.xor_zero]
  · rw [BitVec.xor_assoc]
  · rw [BitVec.xor_assoc, BitVec.xor_comm y, ← BitVec.xor_assoc]
  · rw [BitVec.xor_assoc, ← BitVec.xor_assoc 0xEDB88320#32, BitVec.xor_comm 0xEDB88320#32 y, BitVec.xor_assoc y, hz, BitVec.xor_zero]
theorem stepB32_inj {s : BitVec 32} (h : stepB32 s = 0#32) : s = 0#32 := by
  unfold stepB32 at h
  cases h0 : s.getLsbD 0 with
  | true =>
    rw [h0] at h
    have := congrArg (fun x => x.getLsbD 31) h
    simp at this
  | false =>
    rw [h0] at h
    simp only [Bool.false_eq_true, if_false, BitVec.xor_zero] at h
    apply BitVec.eq_of_getLsbD_eq
    intro i hi
    rcases i with _ | i
    · rw [h0]; simp
    · have := congrArg (fun x => x.getLsbD i) h
      simp only [BitVec.getLsbD_ushiftRight, BitVec.getLsbD_zero, Nat.add_comm 1 i] at this
      rw [this]; simp
theorem stepN32_lin (n : Nat) (a b : BitVec 32) : stepN32 n (a ^^^ b) = stepN32 n a ^^^ stepN32 n b := by
  induction n with
  | zero => rfl
  | succ n ih => simp only [stepN32, ih, stepB32_lin]
theorem stepN32_inj {s : BitVec 32} : ∀ n, stepN32 n s = 0#32 → s = 0#32
  | 0, h => h
  | n + 1, h => stepN32_inj n (stepB32_inj h)
theorem stepN32_add (n m : Nat) (s : BitVec 32) : stepN32 (n + m) s = stepN32 m (stepN32 n s) := by
  induction m with
  | zero => rfl
  | succ m ih => rw [← Nat.add_assoc]; simp only [stepN32, ih]
theorem stepN32_eq {a b : BitVec 32} {n : Nat} (h : stepN32 n a = stepN32 n b) : a = b := by
  have : stepN32 n (a ^^^ b) = 0#32 := by rw [stepN32_lin, h, BitVec.xor_self]
  have := stepN32_inj n this
  have h2 : a ^^^ b ^^^ b = 0#32 ^^^ b := by rw [this]
  rwa [BitVec.xor_assoc, BitVec.xor_self, BitVec.xor_zero, BitVec.zero_xor] at h2
theorem zx32_xor (a b : UInt8) : zx32 (a ^^^ b) = zx32 a ^^^ zx32 b := by
  unfold zx32
  rw [UInt8.toBitVec_xor]
  simp [BitVec.zeroExtend, BitVec.setWidth_xor]
theorem zx32_zero {d : UInt8} (h : zx32 d = 0#32) : d = 0 := by
  have h1 := zx32_toNat d
  rw [h] at h1
  apply UInt8.toNat_inj.1
  simp at h1
  simp; omega
/-- A byte is changed. -/
def spB (b : List UInt8) (at_ : Nat) (x : UInt8) : List UInt8 := b.set at_ (b.getD at_ 0 ^^^ x)
theorem spB_len (b : List UInt8) (at_ : Nat) (x : UInt8) : (spB b at_ x).length = b.length := by simp [spB]
theorem spB_take {b : List UInt8} {at_ : Nat} {x : UInt8} {k : Nat} (h : k ≤ at_) : (spB b at_ x).take k = b.take k := by
  rw [spB, List.take_set_of_le h]
theorem spB_take' {b : List UInt8} {at_ : Nat} {x : UInt8} {k : Nat} (h : at_ < k) : (spB b at_ x).take k = spB (b.take k) at_ x := by
  unfold spB
  rw [List.take_set]
  congr 2
  simp only [List.getD_eq_getElem?_getD, List.getElem?_take, if_pos h]
theorem spB_drop {b : List UInt8} {at_ : Nat} {x : UInt8} {k : Nat} (h : at_ < k) : (spB b at_ x).drop k = b.drop k := by
  rw [spB, List.drop_set_of_lt h]
theorem spB_drop' {b : List UInt8} {at_ : Nat} {x : UInt8} {k : Nat} (h : k ≤ at_) : (spB b at_ x).drop k = spB (b.drop k) (at_ - k) x := by
  unfold spB
  rw [List.drop_set, if_neg (by omega)]
  congr 2
  simp only [List.getD_eq_getElem?_getD, List.getElem?_drop]
  rw [show k + (at_ - k) = at_ by omega]
theorem crcL32_lin (s t : BitVec 32) : ∀ l : List UInt8, crcL32 (s ^^^ t) l = crcL32 s l ^^^ stepN32 (8 * l.length) t
  | [] => rfl
  | x :: l => by
      have ih := crcL32_lin (stepN32 8 (s ^^^ zx32 x)) (stepN32 8 t) l
      have e : stepN32 8 ((s ^^^ t) ^^^ zx32 x) = stepN32 8 (s ^^^ zx32 x) ^^^ stepN32 8 t := by
        rw [← stepN32_lin]; congr 1
        rw [BitVec.xor_assoc, BitVec.xor_comm t, ← BitVec.xor_assoc]
      show crcL32 (stepN32 8 ((s ^^^ t) ^^^ zx32 x)) l = crcL32 (stepN32 8 (s ^^^ zx32 x)) l ^^^ _
      rw [e, ih, ← stepN32_add]
      congr 2
      simp only [List.length_cons]; omega
theorem crcL32_sp : ∀ {b : List UInt8} {at_ : Nat} (s : BitVec 32) (x : UInt8), at_ < b.length → crcL32 s (spB b at_ x) = crcL32 s b ^^^ stepN32 (8 * (b.length - at_)) (zx32 x)
  | y :: b, 0, s, x, _ => by
      show crcL32 (stepN32 8 (s ^^^ zx32 (y ^^^ x))) b = crcL32 (stepN32 8 (s ^^^ zx32 y)) b ^^^ _
      rw [zx32_xor, ← BitVec.xor_assoc, stepN32_lin, crcL32_lin, ← stepN32_add]
      congr 2
      simp only [List.length_cons]; omega
  | y :: b, k + 1, s, x, h => by
      have ih := crcL32_sp (b := b) (at_ := k) (stepN32 8 (s ^^^ zx32 y)) x (by simpa using h)
      have e : spB (y :: b) (k + 1) x = y :: spB b k x := by simp [spB]
      rw [e]
      show crcL32 (stepN32 8 (s ^^^ zx32 y)) (spB b k x) = crcL32 (stepN32 8 (s ^^^ zx32 y)) b ^^^ _
      rw [ih]
      congr 3
      simp only [List.length_cons]; omega
theorem s32_sp {b : List UInt8} {at_ : Nat} {x : UInt8} (hx : x ≠ 0) (h : at_ < b.length) : s32 (spB b at_ x) ≠ s32 b := by
  intro e
  unfold s32 at e
  have e1 : ~~~ crcL32 0xFFFFFFFF#32 (spB b at_ x) = ~~~ crcL32 0xFFFFFFFF#32 b := BitVec.eq_of_toNat_eq e
  have e2 : crcL32 0xFFFFFFFF#32 (spB b at_ x) = crcL32 0xFFFFFFFF#32 b := by
    have := congrArg (fun z => ~~~ z) e1
    simpa using this
  rw [crcL32_sp _ _ h] at e2
  have e3 : stepN32 (8 * (b.length - at_)) (zx32 x) = 0#32 := by
    have := congrArg (fun z => crcL32 0xFFFFFFFF#32 b ^^^ z) e2
    simpa [← BitVec.xor_assoc] using this
  exact hx (zx32_zero (stepN32_inj _ e3))
/-- Zeros of which one is changed have a sum. -/
theorem s32_zeros {at_ : Nat} {x : UInt8} (h : at_ < 8) : s32 (spB (List.replicate 8 0) at_ x) ≠ 0 := by
  intro e
  unfold s32 at e
  have e1 : ~~~ crcL32 0xFFFFFFFF#32 (spB (List.replicate 8 0) at_ x) = 0#32 := BitVec.eq_of_toNat_eq e
  rw [crcL32_sp _ _ (by simpa using h)] at e1
  have e0 : crcL32 0xFFFFFFFF#32 (List.replicate 8 0) = 0x6522df69#32 ^^^ 0xFFFFFFFF#32 := by decide +kernel
  rw [e0] at e1
  have e2 : stepN32 (8 * ((List.replicate 8 (0 : UInt8)).length - at_)) (zx32 x) = 0x6522df69#32 := by
    generalize stepN32 (8 * ((List.replicate 8 (0 : UInt8)).length - at_)) (zx32 x) = z at e1
    have := congrArg (fun y => ~~~ y) e1
    simp only [BitVec.not_not] at this
    have h2 : 0x6522df69#32 ^^^ 0xFFFFFFFF#32 ^^^ (0x6522df69#32 ^^^ 0xFFFFFFFF#32 ^^^ z) = 0x6522df69#32 ^^^ 0xFFFFFFFF#32 ^^^ ~~~ 0#32 := by rw [this]
    rw [← BitVec.xor_assoc, BitVec.xor_self, BitVec.zero_xor] at h2
    rw [h2]; decide
  have hz : ∀ D : BitVec 32, 256 ≤ D.toNat → zx32 x ≠ D := fun D hD hh => by
    have h1 := zx32_toNat x
    rw [hh] at h1
    have := x.toNat_lt
    omega
  have key : ∀ (m : Nat) (D : BitVec 32), stepN32 m D = 0x6522df69#32 → 256 ≤ D.toNat → stepN32 m (zx32 x) ≠ 0x6522df69#32 := fun m D h1 h2 h3 => hz D h2 (stepN32_eq (h3.trans h1.symm))
  simp only [List.length_replicate] at e2
  rcases (by omega : at_ = 0 ∨ at_ = 1 ∨ at_ = 2 ∨ at_ = 3 ∨ at_ = 4 ∨ at_ = 5 ∨ at_ = 6 ∨ at_ = 7) with rfl | rfl | rfl | rfl | rfl | rfl | rfl | rfl
  · exact key 64 0x101b2f50#32 (by decide +kernel) (by decide +kernel) e2
  · exact key 56 0x6b7b4adb#32 (by decide +kernel) (by decide +kernel) e2
  · exact key 48 0x116a7016#32 (by decide +kernel) (by decide +kernel) e2
  · exact key 40 0xf4c5df21#32 (by decide +kernel) (by decide +kernel) e2
  · exact key 32 0x4c9dd581#32 (by decide +kernel) (by decide +kernel) e2
  · exact key 24 0x9af32e63#32 (by decide +kernel) (by decide +kernel) e2
  · exact key 16 0xd421c3cc#32 (by decide +kernel) (by decide +kernel) e2
  · exact key 8 0x9206af58#32 (by decide +kernel) (by decide +kernel) e2

/-! ### Slots and markers of which one byte is changed -/
theorem beN_add (a u k : Nat) : ∀ j, j ≤ k → beN (a * 256 ^ k + u) j = beN u j
  | 0, _ => rfl
  | j + 1, h => by
      rw [beN, beN, beN_add a u k j (by omega)]
      congr 1
      have e : a * 256 ^ k = a * 256 ^ (k - j - 1) * 256 * 256 ^ j := by
        rw [Nat.mul_assoc, Nat.mul_assoc, ← Nat.pow_succ', ← Nat.pow_add, show k - j - 1 + (j + 1) = k by omega]
      rw [e, Nat.add_comm, Nat.add_mul_div_right _ _ (Nat.pow_pos (by omega))]
      apply UInt8.toNat_inj.1
      simp
theorem beN_unbe : ∀ l : List UInt8, beN (unbe l) l.length = l
  | [] => rfl
  | x :: l => by
      rw [unbe_cons, List.length_cons, beN, beN_add _ _ _ _ (Nat.le_refl _), beN_unbe l]
      congr 1
      have h := unbe_lt l
      rw [Nat.add_comm, Nat.add_mul_div_right _ _ (Nat.pow_pos (by omega)), Nat.div_eq_of_lt h, Nat.zero_add]
      simp
theorem unbe_inj {a b : List UInt8} (hl : a.length = b.length) (h : unbe a = unbe b) : a = b := by
  rw [← beN_unbe a, ← beN_unbe b, h, hl]
theorem spB_ne {b : List UInt8} {at_ : Nat} {x : UInt8} (hx : x ≠ 0) (h : at_ < b.length) : spB b at_ x ≠ b := by
  intro e
  have := congrArg (fun l => l[at_]?) e
  simp only [spB, List.getElem?_set_self h, List.getElem?_eq_getElem h, Option.some.injEq] at this
  have e2 : b.getD at_ 0 = b[at_] := by simp [h]
  rw [e2] at this
  apply hx
  have h2 : b[at_] ^^^ (b[at_] ^^^ x) = b[at_] ^^^ b[at_] := by rw [this]
  rw [← UInt8.xor_assoc, UInt8.xor_self, UInt8.zero_xor] at h2
  exact h2
theorem numB_drop (n : Nat) : (numB n).drop 8 = beN (s32 (beN n 8)) 4 := by rw [numB, List.drop_left' (beN_len _ 8)]
theorem numB_take (n : Nat) : (numB n).take 8 = beN n 8 := by rw [numB, List.take_left' (beN_len _ 8)]
theorem s32_be {a b : List UInt8} (h : beN (s32 a) 4 = beN (s32 b) 4) : s32 a = s32 b := by
  have := congrArg unbe h
  rw [unbe_beN, unbe_beN, Nat.mod_eq_of_lt (s32_lt a), Nat.mod_eq_of_lt (s32_lt b)] at this
  exact this
theorem take_take8 (b : List UInt8) : (b.take 12).take 8 = b.take 8 := by rw [List.take_take]; rfl
/-- A number with a byte changed is none. -/
theorem numOf_sp {b : List UInt8} {N at_ : Nat} {x : UInt8} (hx : x ≠ 0) (hb : b.take 12 = numB N) (hN : N < 2 ^ 64) (h : at_ < 12) : numOf (spB b at_ x) = 0 := by
  have h12 : (spB b at_ x).take 12 = spB (numB N) at_ x := by rw [spB_take' h, hb]
  have h8 : (spB b at_ x).take 8 = (spB (numB N) at_ x).take 8 := by rw [← take_take8, h12]
  unfold numOf
  rw [h12]
  apply if_neg
  intro e
  by_cases h' : at_ < 8
  · have e8 : (spB b at_ x).take 8 = spB (beN N 8) at_ x := by rw [h8, spB_take' h', numB_take]
    rw [e8] at e
    have hl : (spB (beN N 8) at_ x).length = 8 := by rw [spB_len, beN_len]
    have e2 := congrArg (List.drop 8) e
    rw [numB_drop, spB_drop h', numB_drop] at e2
    have e3 : beN (unbe (spB (beN N 8) at_ x)) 8 = spB (beN N 8) at_ x := by
      have := beN_unbe (spB (beN N 8) at_ x)
      rw [hl] at this; exact this
    rw [e3] at e2
    exact s32_sp hx (by rw [beN_len]; exact h') (s32_be e2)
  · have e8 : (spB b at_ x).take 8 = beN N 8 := by rw [h8, spB_take (by omega), numB_take]
    rw [e8, unbe_beN, Nat.mod_eq_of_lt (by omega)] at e
    exact spB_ne hx (by rw [numB_len]; exact h) e.symm
theorem unbe_zeros (k : Nat) : unbe (List.replicate k 0) = 0 := by
  induction k with
  | zero => rfl
  | succ k ih => rw [List.replicate_succ, unbe_cons, ih]; simp
/-- Zeros of which one byte is changed are no number. -/
theorem numOf_zeros {S at_ : Nat} {x : UInt8} (hS : 12 ≤ S) : numOf (spB (List.replicate S 0) at_ x) = 0 := by
  by_cases h : at_ < 8
  · have e12 : (spB (List.replicate S 0) at_ x).take 12 = spB (List.replicate 12 0) at_ x := by
      rw [spB_take' (by omega), List.take_replicate, Nat.min_eq_left hS]
    have e8 : (spB (List.replicate S 0) at_ x).take 8 = spB (List.replicate 8 0) at_ x := by
      rw [spB_take' h, List.take_replicate, Nat.min_eq_left (by omega)]
    unfold numOf
    rw [e12, e8]
    apply if_neg
    intro e
    have hl : (spB (List.replicate 8 0) at_ x).length = 8 := by rw [spB_len]; simp
    have e2 := congrArg (List.drop 8) e
    rw [numB_drop, spB_drop h] at e2
    have e3 : beN (unbe (spB (List.replicate 8 0) at_ x)) 8 = spB (List.replicate 8 0) at_ x := by
      have := beN_unbe (spB (List.replicate 8 0) at_ x)
      rw [hl] at this; exact this
    rw [e3] at e2
    have e4 := congrArg unbe e2
    rw [unbe_beN, Nat.mod_eq_of_lt (s32_lt _), List.drop_replicate, unbe_zeros] at e4
    exact s32_zeros h e4
  · have h1 := numOf_or (spB (List.replicate S 0) at_ x)
    have h2 : unbe ((spB (List.replicate S 0) at_ x).take 8) = 0 := by
      rw [spB_take (by omega), List.take_replicate, unbe_zeros]
    omega
theorem slotB_okS {b : List UInt8} (h : (slotB b).ok = true) : 0 < numOf b := by
  unfold slotB at h
  split at h
  · cases h
  · simp at h; exact h.1
theorem slotB_okC {b : List UInt8} (h : (slotB b).ok = true) : (slotB b).l.length = cntOf b ∧ s32 (b.take (24 + 8 * cntOf b)) = unbe ((b.drop (24 + 8 * cntOf b)).take 4) := by
  unfold slotB at h ⊢
  split at h
  · cases h
  · rename_i c
    rw [if_neg c]
    simp at h
    exact ⟨by simp [numsOf], h.2⟩
theorem slotG_take12 (n scan : Nat) (l : List Int) (t : List UInt8) : (slotG n scan l t).take 12 = numB n := by simp [slotG, bodyB, numB_len]
theorem slot_sp {n scan : Nat} {l : List Int} {t : List UInt8} {at_ : Nat} {x : UInt8} (hn : n < 2 ^ 64) (hscan : scan < 2 ^ 64) (hsz : 28 + 8 * l.length + t.length ≤ 4096) (hi : ∀ x ∈ l, InI64 x) (hx : x ≠ 0) (ha : at_ < 28 + 8 * l.length + t.length) :
    slotB (spB (slotG n scan l t) at_ x) = slotB (slotG n scan l t) ∨ ¬ ((slotB (spB (slotG n scan l t) at_ x)).ok = true ∧ (slotB (spB (slotG n scan l t) at_ x)).l.length = l.length) := by
  have hlen := slotG_len n scan l t
  have hb := bodyB_len n scan l
  have hlb := beN_len (s32 (bodyB n scan l)) 4
  have hcn : ∀ b : List UInt8, (b.drop 12).take 4 = beN l.length 4 → cntOf b = l.length := fun b hb => by
    rw [cntOf, hb, unbe_beN, Nat.mod_eq_of_lt (by omega)]
  have d12 : ((slotG n scan l t).drop 12).take 4 = beN l.length 4 := by
    have e : slotG n scan l t = numB n ++ (beN l.length 4 ++ (beN scan 8 ++ (numsB l ++ (beN (s32 (bodyB n scan l)) 4 ++ t)))) := by simp [slotG, bodyB]
    rw [e, List.drop_left' (numB_len n), List.take_left' (beN_len _ 4)]
  have tk : (slotG n scan l t).take (24 + 8 * l.length) = bodyB n scan l := by
    rw [slotG, List.append_assoc, List.take_left' hb]
  have dr : ((slotG n scan l t).drop (24 + 8 * l.length)).take 4 = beN (s32 (bodyB n scan l)) 4 := by
    rw [slotG, List.append_assoc, List.drop_left' hb, List.take_left' hlb]
  by_cases h1 : at_ < 12
  · right; rintro ⟨hk, _⟩
    have := slotB_okS hk
    rw [numOf_sp hx (slotG_take12 n scan l t) hn h1] at this
    omega
  by_cases h2 : at_ < 16
  · right; rintro ⟨hk, hl⟩
    obtain ⟨hc, _⟩ := slotB_okC hk
    rw [hc] at hl
    have e : cntOf (spB (slotG n scan l t) at_ x) = unbe (spB (beN l.length 4) (at_ - 12) x) := by
      rw [cntOf, spB_drop' (by omega), spB_take' (by omega), d12]
    rw [e] at hl
    have e3 : unbe (beN l.length 4) = l.length := by rw [unbe_beN, Nat.mod_eq_of_lt (by omega)]
    exact spB_ne hx (by rw [beN_len]; omega) (unbe_inj (by rw [spB_len]) (hl.trans e3.symm))
  have hcnt : cntOf (spB (slotG n scan l t) at_ x) = l.length := hcn _ (by rw [spB_drop' (by omega), spB_take (by omega), d12])
  by_cases h3 : at_ < 24 + 8 * l.length
  · right; rintro ⟨hk, hl⟩
    obtain ⟨_, hs⟩ := slotB_okC hk
    rw [hcnt, spB_take' h3, tk, spB_drop h3, dr, unbe_beN, Nat.mod_eq_of_lt (s32_lt _)] at hs
    exact s32_sp hx (by omega) hs
  by_cases h4 : at_ < 28 + 8 * l.length
  · right; rintro ⟨hk, hl⟩
    obtain ⟨_, hs⟩ := slotB_okC hk
    rw [hcnt, spB_take (by omega), tk, spB_drop' (by omega), spB_take' (by omega), dr] at hs
    have e3 : unbe (beN (s32 (bodyB n scan l)) 4) = s32 (bodyB n scan l) := by rw [unbe_beN, Nat.mod_eq_of_lt (s32_lt _)]
    exact spB_ne hx (by omega) (unbe_inj (by rw [spB_len]) (hs.symm.trans e3.symm))
  · left
    have e : spB (slotG n scan l t) at_ x = slotG n scan l (spB t (at_ - (28 + 8 * l.length)) x) := by
      have hl28 : (bodyB n scan l ++ beN (s32 (bodyB n scan l)) 4).length = 28 + 8 * l.length := by rw [List.length_append]; omega
      unfold slotG
      rw [← List.take_append_drop (28 + 8 * l.length) (spB (bodyB n scan l ++ beN (s32 (bodyB n scan l)) 4 ++ t) at_ x), spB_take (by omega), spB_drop' (by omega), List.take_left' hl28, List.drop_left' hl28]
    rw [e, slotB_gen hn hscan (by rw [spB_len]; omega) hi, slotB_gen hn hscan hsz hi]
theorem some0_append (a b : List UInt8) : some0 (a ++ b) = some0 a + some0 b := by simp [some0]
theorem some0_sp {c : List UInt8} {at_ : Nat} {x : UInt8} (h : at_ < c.length) : some0 c ≤ some0 (spB c at_ x) + 1 := by
  have e1 : c = c.take at_ ++ (c[at_] :: c.drop (at_ + 1)) := by rw [List.getElem_cons_drop, List.take_append_drop]
  have e2 : spB c at_ x = c.take at_ ++ ((c.getD at_ 0 ^^^ x) :: c.drop (at_ + 1)) := by
    rw [spB, List.set_eq_take_append_cons_drop, if_pos h]
  rw [e2, some0_append]
  have h1 : some0 c = some0 (c.take at_) + some0 (c[at_] :: c.drop (at_ + 1)) := by
    rw [← some0_append, ← e1]
  have h2 : some0 (c[at_] :: c.drop (at_ + 1)) ≤ 1 + some0 (c.drop (at_ + 1)) := by
    unfold some0; rw [List.filter_cons]; split <;> simp <;> omega
  have h3 : some0 (c.drop (at_ + 1)) ≤ some0 ((c.getD at_ 0 ^^^ x) :: c.drop (at_ + 1)) := by
    unfold some0; rw [List.filter_cons]; split <;> simp
  omega
theorem some0_numB : ∀ N, N < 13 → 1 ≤ N → 3 ≤ some0 (numB N) := by decide +kernel
theorem was_sp {size N at_ : Nat} {x : UInt8} (hs : 64 ≤ size) (h1 : 1 ≤ N) (h2 : N < 13) : wasB (spB (markBytes size N) at_ x) = true := by
  have hml := markBytes_len (size := size) (n := N) (by omega)
  have ht := mark_take (size := size) (n := N) hs
  by_cases h : at_ < 12
  · have e1 : 1 < some0 ((spB (markBytes size N) at_ x).take 12) := by
      rw [spB_take' h, ht]
      have := some0_numB N h2 h1
      have := some0_sp (c := numB N) (at_ := at_) (x := x) (by rw [numB_len]; exact h)
      omega
    have e2 : (spB (markBytes size N) at_ x).getD ((spB (markBytes size N) at_ x).length - 1) 0 = 0xA5 := by
      rw [spB_len, hml, spB, List.getD_eq_getElem?_getD, List.getElem?_set_ne (by omega), markBytes, List.getElem?_set_self (by simp [numB_len]; omega)]
      rfl
    unfold wasB
    rw [decide_eq_true e1, e2]
    simp
  · have : numOf (spB (markBytes size N) at_ x) = N := numOf_of (by rw [spB_take (by omega), ht]) (by omega)
    unfold wasB
    rw [this, decide_eq_true (by omega)]
    rfl

/-- What was laid last, and ahead of it. -/
structure Two (s : BSt) (t : Nat) (f : Nat → List Int) : Prop where
  cur : bAt s ((t - 1) % 2) = slotBytes s.size t t (f t)
  mrk : bAt s (2 + (t - 1) % 2) = markBytes s.size t
  old : 2 ≤ t → bAt s (1 - (t - 1) % 2) = slotBytes s.size (t - 1) (t - 1) (f (t - 1)) ∧ bAt s (2 + (1 - (t - 1) % 2)) = markBytes s.size (t - 1)
  none : t = 1 → bAt s (1 - (t - 1) % 2) = List.replicate s.size 0 ∧ bAt s (2 + (1 - (t - 1) % 2)) = List.replicate s.size 0
  rest : ∀ i, 4 ≤ i → i < 8 → bAt s i = List.replicate s.size 0
def Acc (s : BSt) (k i : Nat) : Prop := (slotB (bAt s i)).ok = true ∧ numOf (bAt s (2 + i)) = (slotB (bAt s i)).num ∧ (slotB (bAt s i)).l.length = k
theorem open_cases (s : BSt) (k : Nat) : (∃ i, i ≤ 1 ∧ (openM s k).at_ = (i : Nat) ∧ (openM s k).best = slotB (bAt s i) ∧ Acc s k i) ∨
    ((openM s k).at_ = -1 ∧ (openM s k).best.l = [] ∧ ¬ Acc s k 0 ∧ ¬ Acc s k 1 ∧ (wasB (bAt s 2) = true ∨ wasB (bAt s 3) = true → (openM s k).found = 2)) := by
  have em : openM s k = openStep k 1 (bAt s 1) (bAt s 3) (openStep k 0 (bAt s 0) (bAt s 2) open0) := rfl
  have ht : ∀ i (o : OSt), takes k (bAt s i) (bAt s (2 + i)) o ↔ Acc s k i ∧ o.best.num < (slotB (bAt s i)).num := fun i o => by
    unfold takes Acc; constructor
    · rintro ⟨h1, h2, h3, h4⟩; exact ⟨⟨h1, h2, h3⟩, h4⟩
    · rintro ⟨⟨h1, h2, h3⟩, h4⟩; exact ⟨h1, h2, h3, h4⟩
  have hp : ∀ i, Acc s k i → 0 < (slotB (bAt s i)).num := fun i h => slotB_ok h.1
  have ht0 := ht 0 open0
  by_cases a0 : Acc s k 0
  · have e0 : openStep k 0 (bAt s 0) (bAt s 2) open0 = ⟨if wasB (bAt s 2) then 2 else open0.found, slotB (bAt s 0), ((0 : Nat) : Int), (slotB (bAt s 0)).scan, max (max open0.next ((slotB (bAt s 0)).num + 1)) (numOf (bAt s 2) + 1)⟩ := by
      unfold openStep; rw [if_pos (ht0.2 ⟨a0, hp 0 a0⟩)]
    rw [em, e0]
    generalize hO : (⟨if wasB (bAt s 2) then 2 else open0.found, slotB (bAt s 0), ((0 : Nat) : Int), (slotB (bAt s 0)).scan, max (max open0.next ((slotB (bAt s 0)).num + 1)) (numOf (bAt s 2) + 1)⟩ : OSt) = O
    left
    by_cases t1 : takes k (bAt s 1) (bAt s 3) O
    · unfold openStep; rw [if_pos t1]
      exact ⟨1, by omega, rfl, rfl, ((ht 1 O).1 t1).1⟩
    · unfold openStep; rw [if_neg t1]
      exact ⟨0, by omega, by rw [← hO], by rw [← hO], a0⟩
  · have e0 : openStep k 0 (bAt s 0) (bAt s 2) open0 = ⟨if wasB (bAt s 2) then 2 else open0.found, open0.best, open0.at_, open0.scan, max (max open0.next ((slotB (bAt s 0)).num + 1)) (numOf (bAt s 2) + 1)⟩ := by
      unfold openStep; rw [if_neg fun h => a0 (ht0.1 h).1]
    rw [em, e0]
    generalize hO : (⟨if wasB (bAt s 2) then 2 else open0.found, open0.best, open0.at_, open0.scan, max (max open0.next ((slotB (bAt s 0)).num + 1)) (numOf (bAt s 2) + 1)⟩ : OSt) = O
    by_cases a1 : Acc s k 1
    · left
      have t1 : takes k (bAt s 1) (bAt s 3) O := (ht 1 O).2 ⟨a1, by rw [← hO]; exact hp 1 a1⟩
      unfold openStep; rw [if_pos t1]
      exact ⟨1, by omega, rfl, rfl, a1⟩
    · right
      have t1 : ¬ takes k (bAt s 1) (bAt s 3) O := fun h => a1 ((ht 1 O).1 h).1
      unfold openStep; rw [if_neg t1]
      refine ⟨by rw [← hO]; rfl, by rw [← hO]; rfl, a0, a1, fun hw => ?_⟩
      show (if wasB (bAt s 3) then 2 else O.found) = 2
      rw [← hO]
      show (if wasB (bAt s 3) then 2 else if wasB (bAt s 2) then 2 else open0.found) = 2
      rcases hw with hw | hw <;> rw [hw] <;> simp
theorem numOf_zero {S : Nat} : numOf (List.replicate S 0) = 0 := by
  have h1 := numOf_or (List.replicate S 0)
  have h2 : unbe ((List.replicate S (0 : UInt8)).take 8) = 0 := by rw [List.take_replicate, unbe_zeros]
  omega
/-- With bytes spoilt. -/
theorem spoilt {s s' : BSt} {k t at_ : Nat} {f : Nat → List Int} {x : UInt8} {P : Nat → Prop} [DecidablePred P] (T : Two s t f) (hsz : 128 ≤ s.size ∧ s.size ≤ 4096) (h1 : 1 ≤ t) (h2 : t ≤ 12) (hf : ∀ i, (f i).length = k) (hi : ∀ i, ∀ y ∈ f i, InI64 y) (hk : 28 + 8 * k ≤ s.size)
    (hx : x ≠ 0) (ha : at_ < s.size) (hs : ∀ i, i < 8 → bAt s' i = if P i then spB (bAt s i) at_ x else bAt s i) (hs8 : ∀ i, 8 ≤ i → bAt s' i = []) :
    (∀ i, numOf (bAt s' i) ≤ 12) ∧
      ((0 ≤ (openM s' k).at_ ∧ ((openM s' k).best.l = f t ∨ (2 ≤ t ∧ (openM s' k).best.l = f (t - 1)))) ∨
        ((openM s' k).at_ < 0 ∧ (openM s' k).best.l = [] ∧ (openM s' k).found = 2 ∧ ¬ ∃ w, (∀ i, P i → i = w) ∧ t ≠ 1)) := by
  generalize haa : (t - 1) % 2 = a at *
  have ha1 : a ≤ 1 := by omega
  have Tc := T.cur; have Tm := T.mrk; have To := T.old; have Tn := T.none
  rw [haa] at Tc Tm To Tn
  have gs : ∀ n, n < 2 ^ 63 → 0 < n → ∀ l : List Int, l.length = k → (∀ y ∈ l, InI64 y) → ∀ b, (b = slotBytes s.size n n l ∨ b = spB (slotBytes s.size n n l) at_ x) → slotB b = ⟨n, n, l, true⟩ ∨ ¬ ((slotB b).ok = true ∧ (slotB b).l.length = k) := by
    intro n hn h0 l hl hil b hb
    have e := slotB_slot (size := s.size) (n := n) (scan := n) (l := l) (by omega) (by omega) (by omega) hsz.2 hil
    rw [decide_eq_true h0] at e
    rcases hb with rfl | rfl
    · exact .inl e
    · have hsp := slot_sp (n := n) (scan := n) (l := l) (t := List.replicate (s.size - (28 + 8 * l.length)) 0) (at_ := at_) (x := x) (by omega) (by omega) (by rw [List.length_replicate]; omega) hil hx (by rw [List.length_replicate]; omega)
      rcases hsp with h | h
      · left; exact h.trans e
      · right; rintro ⟨h1, h2⟩; exact h ⟨h1, h2.trans hl.symm⟩
  have pick : ∀ i, i < 8 → bAt s' i = bAt s i ∨ bAt s' i = spB (bAt s i) at_ x := fun i h => by
    rw [hs i h]; split
    · exact .inr rfl
    · exact .inl rfl
  have ns : ∀ b, ∀ n, n ≤ 12 → ∀ c : List UInt8, c.take 12 = numB n → (b = c ∨ b = spB c at_ x) → numOf b ≤ 12 := by
    intro b n hn c hc hb
    rcases hb with rfl | rfl
    · rw [numOf_of hc (by omega)]; exact hn
    · by_cases h : at_ < 12
      · rw [numOf_sp hx hc (by omega) h]; omega
      · rw [numOf_of (n := n) (by rw [spB_take (by omega), hc]) (by omega)]; exact hn
  have nz : ∀ b, (b = List.replicate s.size 0 ∨ b = spB (List.replicate s.size 0) at_ x) → numOf b = 0 := by
    intro b hb
    rcases hb with rfl | rfl
    · exact numOf_zero
    · exact numOf_zeros (by omega)
  have s12 : ∀ n l, (slotBytes s.size n n l).take 12 = numB n := fun n l => slotG_take12 n n l _
  have m12 : ∀ n, (markBytes s.size n).take 12 = numB n := fun n => mark_take (by omega)
  -- the numbers
  have N : ∀ i, numOf (bAt s' i) ≤ 12 := by
    intro i
    by_cases h8 : 8 ≤ i
    · rw [hs8 i h8]
      have h1 := numOf_or []
      have h2 : unbe (([] : List UInt8).take 8) = 0 := by decide
      omega
    by_cases h4 : 4 ≤ i
    · have hp := pick i (by omega)
      rw [T.rest i h4 (by omega)] at hp
      rw [nz _ hp]; omega
    have hp := pick i (by omega)
    rcases (by omega : i = a ∨ i = 2 + a ∨ i = 1 - a ∨ i = 2 + (1 - a)) with rfl | rfl | rfl | rfl
    · rw [Tc] at hp; exact ns _ t h2 _ (s12 _ _) hp
    · rw [Tm] at hp; exact ns _ t h2 _ (m12 _) hp
    · by_cases ht : 2 ≤ t
      · rw [(To ht).1] at hp; exact ns _ (t - 1) (by omega) _ (s12 _ _) hp
      · rw [(Tn (by omega)).1] at hp; rw [nz _ hp]; omega
    · by_cases ht : 2 ≤ t
      · rw [(To ht).2] at hp; exact ns _ (t - 1) (by omega) _ (m12 _) hp
      · rw [(Tn (by omega)).2] at hp; rw [nz _ hp]; omega
  refine ⟨N, ?_⟩
  have A1 : Acc s' k a → (slotB (bAt s' a)).l = f t := fun h => by
    have hp := pick a (by omega)
    rw [Tc] at hp
    rcases gs t (by omega) (by omega) (f t) (hf t) (hi t) _ hp with e | e
    · rw [e]
    · exact absurd ⟨h.1, h.2.2⟩ e
  have A2 : Acc s' k (1 - a) → 2 ≤ t ∧ (slotB (bAt s' (1 - a))).l = f (t - 1) := fun h => by
    have hp := pick (1 - a) (by omega)
    by_cases ht : 2 ≤ t
    · rw [(To ht).1] at hp
      rcases gs (t - 1) (by omega) (by omega) (f (t - 1)) (hf _) (hi _) _ hp with e | e
      · exact ⟨ht, by rw [e]⟩
      · exact absurd ⟨h.1, h.2.2⟩ e
    · rw [(Tn (by omega)).1] at hp
      have h3 := slotB_okS h.1
      rw [nz _ hp] at h3; omega
  rcases open_cases s' k with ⟨i, hi1, e1, e2, hA⟩ | ⟨e1, e2, n0, n1, hw⟩
  · left
    refine ⟨by omega, ?_⟩
    rw [e2]
    rcases (by omega : i = a ∨ i = 1 - a) with rfl | rfl
    · exact .inl (A1 hA)
    · exact .inr (A2 hA)
  · right
    have na : ¬ Acc s' k a ∧ ¬ Acc s' k (1 - a) := by
      rcases (by omega : a = 0 ∨ a = 1) with h | h <;> subst h
      · exact ⟨n0, n1⟩
      · exact ⟨n1, n0⟩
    refine ⟨by omega, e2, hw ?_, ?_⟩
    · have w : wasB (bAt s' (2 + a)) = true := by
        have hp := pick (2 + a) (by omega)
        rw [Tm] at hp
        rcases hp with hp | hp
        · have : numOf (bAt s' (2 + a)) = t := by rw [hp]; exact numOf_mark (by omega) (by omega)
          unfold wasB; rw [this, decide_eq_true (by omega)]; rfl
        · rw [hp]; exact was_sp (by omega) h1 (by omega)
      rcases (by omega : a = 0 ∨ a = 1) with h | h <;> subst h
      · exact .inl w
      · exact .inr w
    · rintro ⟨wh, hP, ht1⟩
      have un : ∀ i, i < 8 → i ≠ wh → bAt s' i = bAt s i := fun i hi hne => by
        rw [hs i hi, if_neg fun h => hne (hP i h)]
      by_cases hwa : wh = a ∨ wh = 2 + a
      · apply na.2
        have ht : 2 ≤ t := by omega
        have u1 := un (1 - a) (by omega) (by omega)
        have u2 := un (2 + (1 - a)) (by omega) (by omega)
        rw [(To ht).1] at u1
        rw [(To ht).2] at u2
        have e := slotB_slot (size := s.size) (n := t - 1) (scan := t - 1) (l := f (t - 1)) (by omega) (by omega) (by rw [hf]; omega) hsz.2 (hi _)
        rw [decide_eq_true (by omega)] at e
        refine ⟨by rw [u1, e], by rw [u1, u2, e]; exact numOf_mark (by omega) (by omega), by rw [u1, e]; exact hf _⟩
      · apply na.1
        have u1 := un a (by omega) (by omega)
        have u2 := un (2 + a) (by omega) (by omega)
        rw [Tc] at u1
        rw [Tm] at u2
        have e := slotB_slot (size := s.size) (n := t) (scan := t) (l := f t) (by omega) (by omega) (by rw [hf]; omega) hsz.2 (hi _)
        rw [decide_eq_true (by omega)] at e
        refine ⟨by rw [u1, e], by rw [u1, u2, e]; exact numOf_mark (by omega) (by omega), by rw [u1, e]; exact hf _⟩
end
variable {ov : AOver} {h : AH} {v a b : AVal} {md md' : AMode} {p q : Nat} {s : BSt} {lv : AVal} {vs : List AVal}

theorem storeZ_spec (H : Plain ov) (n : Nat) (w : Wf h) {size : Int} (hs : -9223372036854775808 ≤ size ∧ size < 9223372036854775808) :
    Wp (kc ov (n + 2) N_runglaw9_store [.int .i64 size] h) fun r h' => Kp h h' ∧ ∃ p s lv vs, r = .ptr (some (p, 0)) ∧ On9 h' p s lv vs 0 ∧ (∀ i, Mine p lv vs i → h.n ≤ i) ∧ Empty s ∧ s.left = -1 ∧ s.size ≤ 427 ∧ 128 ≤ s.size ∧ s.bl.length = 8 ∧ ∀ i, i < 8 → bAt s i = List.replicate s.size 0 := by
  rw [C_runglaw9_store H]; unfold F_runglaw9_store
  obtain ⟨i, hi, e, -⟩ := place_spec (h := h) H n hs (m := 300) (by omega) (by omega)
  have e' : kc ov (n + 1) N_runghelp_Place [.int .i64 size, .int .i64 300] h = some (.int .i64 i, h) := e
  (try simp -dsimp (disch := omega) only [↓pre, sp, sp2, wp_some, Int.cast_ofNat_Int, Nat.reduceAdd, Nat.reduceMul, Nat.reduceSub, Nat.reduceLeDiff, Nat.reduceEqDiff, Nat.reducePow, Int.reduceToNat, Int.reducePow, Int.reduceAdd, Int.reduceSub, Int.reduceMul, Int.reduceLT, Int.reduceLE, Int.reduceEq, Int.reduceNeg, e'])
  refine Wp.bind (new_spec H n w 8 (128 + i)) fun v1 h1 ⟨k1, p, lv, vs, e1, t1, f1⟩ => ?_
  subst e1
  (try simp -dsimp (disch := omega) only [↓pre, sp, sp2, wp_some, Int.cast_ofNat_Int, Nat.reduceAdd, Nat.reduceMul, Nat.reduceSub, Nat.reduceLeDiff, Nat.reduceEqDiff, Nat.reducePow, Int.reduceToNat, Int.reducePow, Int.reduceAdd, Int.reduceSub, Int.reduceMul, Int.reduceLT, Int.reduceLE, Int.reduceEq, Int.reduceNeg])
  obtain ⟨n1, n2, n3, n4, n5, n6, n7, n8⟩ := new_inv 8 (128 + i) (by omega) (by omega)
  refine ⟨k1, p, _, lv, vs, rfl, ⟨k1.w', t1, n1, n5, by omega, by omega⟩, f1, n3, n6, by rw [n4]; omega, by rw [n4]; omega, by rw [n8]; rfl, fun b hb => ?_⟩
  show (List.replicate (min (max (8 : Int) 1) 64).toNat (List.replicate (min (max (128 + (i : Int)) 16) 4096).toNat 0)).getD b [] = List.replicate (min (max (128 + (i : Int)) 16) 4096).toNat 0
  rw [List.getD_eq_getElem?_getD, List.getElem?_replicate, if_pos (by have : (min (max (8 : Int) 1) 64).toNat = 8 := rfl; omega)]; rfl
theorem Two.next {s s' : BSt} {i : Nat} {f : Nat → List Int} (hz : i = 0 → ∀ b, b < 8 → bAt s b = List.replicate s.size 0) (T : 0 < i → Two s i f) (hs : s'.size = s.size)
    (h1 : bAt s' (i % 2) = slotBytes s.size (i + 1) (i + 1) (f (i + 1))) (h2 : bAt s' (2 + i % 2) = markBytes s.size (i + 1)) (h3 : ∀ b, b ≠ i % 2 → b ≠ 2 + i % 2 → bAt s' b = bAt s b) : Two s' (i + 1) f := by
  refine ⟨?_, ?_, fun ht => ?_, fun ht => ?_, fun b h4 h8 => ?_⟩
  · rw [Nat.add_sub_cancel, hs]; exact h1
  · rw [Nat.add_sub_cancel, hs]; exact h2
  · have T' := T (by omega)
    have e : (i - 1) % 2 = 1 - i % 2 := by omega
    rw [Nat.add_sub_cancel, hs, h3 _ (by omega) (by omega), h3 _ (by omega) (by omega)]
    have c1 := T'.cur; have c2 := T'.mrk
    rw [e] at c1 c2
    exact ⟨c1, c2⟩
  · have i0 : i = 0 := by omega
    subst i0
    rw [hs, h3 _ (by decide) (by decide), h3 _ (by decide) (by decide)]
    exact ⟨hz rfl _ (by decide), hz rfl _ (by decide)⟩
  · rw [hs, h3 _ (by omega) (by omega)]
    by_cases h0 : i = 0
    · exact hz h0 b h8
    · exact (T (by omega)).rest b h4 h8
theorem retainSpoilt (X : Xs ov) (K : ov N_runglaw9_known = some knownYes) (n : Nat) (w : Wf h) {size n0 at0 wh0 : Int} {x : UInt8} {all : Bool} {seeds : List Int} {cs : List AVal} (hs : IsI size) (hn : IsI n0) (hat : IsI at0) (hwh : IsI wh0) (sa : Sz h a 1 seeds.length cs .ro)
    (st : ∀ i, i < seeds.length → cs[i]? = some (.int .i64 (seeds.getD i 0))) :
    Wp (kc ov (n + 6) N_runglaw9_RetainSpoilt [.int .i64 size, .int .i64 n0, a, .int .i64 at0, .int .i64 wh0, .int .u8 x.toNat, .bool all] h) fun r h' => r = .bool true := by
  have H := X.p
  rw [C_runglaw9_RetainSpoilt H]; unfold F_runglaw9_RetainSpoilt
  (try simp -dsimp (disch := omega) only [↓pre, sp, sp2, wp_some, Int.cast_ofNat_Int, Nat.reduceAdd, Nat.reduceMul, Nat.reduceSub, Nat.reduceLeDiff, Nat.reduceEqDiff, Nat.reducePow, Int.reduceToNat, Int.reducePow, Int.reduceAdd, Int.reduceSub, Int.reduceMul, Int.reduceLT, Int.reduceLE, Int.reduceEq, Int.reduceNeg, known_spec K (n + 4), sa.len])
  refine wp_kT (.bool (decide (12 < seeds.length ∨ seeds.length = 0 ∨ x = 0))) (fun jj hjj => ?_) ?_
  · by_cases c1 : (seeds.length : Int) > 12
    · have c1' : 12 < seeds.length := by omega
      (try simp -dsimp (disch := omega) only [↓pre, sp, sp2, wp_some, Int.cast_ofNat_Int, Nat.reduceAdd, Nat.reduceMul, Nat.reduceSub, Nat.reduceLeDiff, Nat.reduceEqDiff, Nat.reducePow, Int.reduceToNat, Int.reducePow, Int.reduceAdd, Int.reduceSub, Int.reduceMul, Int.reduceLT, Int.reduceLE, Int.reduceEq, Int.reduceNeg, c1, decide_true])
      simpa [c1'] using hjj
    · have c1' : ¬ 12 < seeds.length := by omega
      by_cases c2 : (seeds.length : Int) = 0
      · have c2' : seeds.length = 0 := by omega
        have c2e : ((seeds.length : Int) = 0) = True := eq_true c2
        (try simp -dsimp (disch := omega) only [↓pre, sp, sp2, wp_some, Int.cast_ofNat_Int, Nat.reduceAdd, Nat.reduceMul, Nat.reduceSub, Nat.reduceLeDiff, Nat.reduceEqDiff, Nat.reducePow, Int.reduceToNat, Int.reducePow, Int.reduceAdd, Int.reduceSub, Int.reduceMul, Int.reduceLT, Int.reduceLE, Int.reduceEq, Int.reduceNeg, c1, decide_false, sa.len, c2e, decide_true])
        simpa [c1', c2'] using hjj
      · have c2' : ¬ seeds.length = 0 := by omega
        have ex : (((x.toNat : Nat) : Int) = 0) = (x = 0) := by
          apply propext; constructor
          · intro e; apply UInt8.toNat_inj.1; simp; omega
          · rintro rfl; rfl
        (try simp -dsimp (disch := omega) only [↓pre, sp, sp2, wp_some, Int.cast_ofNat_Int, Nat.reduceAdd, Nat.reduceMul, Nat.reduceSub, Nat.reduceLeDiff, Nat.reduceEqDiff, Nat.reducePow, Int.reduceToNat, Int.reducePow, Int.reduceAdd, Int.reduceSub, Int.reduceMul, Int.reduceLT, Int.reduceLE, Int.reduceEq, Int.reduceNeg, c1, decide_false, sa.len, c2, ex])
        simpa [c1', c2'] using hjj
  (try simp -dsimp (disch := omega) only [↓pre, sp, sp2, wp_some, Int.cast_ofNat_Int, Nat.reduceAdd, Nat.reduceMul, Nat.reduceSub, Nat.reduceLeDiff, Nat.reduceEqDiff, Nat.reducePow, Int.reduceToNat, Int.reducePow, Int.reduceAdd, Int.reduceSub, Int.reduceMul, Int.reduceLT, Int.reduceLE, Int.reduceEq, Int.reduceNeg])
  refine wp_ite (fun c => ?_) (fun c => ?_)
  · (try simp -dsimp (disch := omega) only [↓pre, sp, sp2, wp_some, Int.cast_ofNat_Int, Nat.reduceAdd, Nat.reduceMul, Nat.reduceSub, Nat.reduceLeDiff, Nat.reduceEqDiff, Nat.reducePow, Int.reduceToNat, Int.reducePow, Int.reduceAdd, Int.reduceSub, Int.reduceMul, Int.reduceLT, Int.reduceLE, Int.reduceEq, Int.reduceNeg])
  obtain ⟨hl12, hl0, hx⟩ : seeds.length ≤ 12 ∧ 0 < seeds.length ∧ x ≠ 0 := by
    refine ⟨by omega, by omega, fun e => c (.inr (.inr e))⟩
  (try simp -dsimp (disch := omega) only [↓pre, sp, sp2, wp_some, Int.cast_ofNat_Int, Nat.reduceAdd, Nat.reduceMul, Nat.reduceSub, Nat.reduceLeDiff, Nat.reduceEqDiff, Nat.reducePow, Int.reduceToNat, Int.reducePow, Int.reduceAdd, Int.reduceSub, Int.reduceMul, Int.reduceLT, Int.reduceLE, Int.reduceEq, Int.reduceNeg])
  refine Wp.bind (storeZ_spec H (n + 3) w hs) fun v1 h1 ⟨k1, p, s, lv, vs, e1, L1, f1, E, lf, sz, sz2, b8, hz⟩ => ?_
  subst e1
  have hrm := L1.room
  have hsz := L1.I.sz
  have er := room_spec H (n + 3) L1.t
  have em : 1 + min (roomM s : Int) 30 = ((1 + min (roomM s) 30 : Nat) : Int) := by omega
  (try simp -dsimp (disch := omega) only [↓pre, sp, sp2, wp_some, Int.cast_ofNat_Int, Nat.reduceAdd, Nat.reduceMul, Nat.reduceSub, Nat.reduceLeDiff, Nat.reduceEqDiff, Nat.reducePow, Int.reduceToNat, Int.reducePow, Int.reduceAdd, Int.reduceSub, Int.reduceMul, Int.reduceLT, Int.reduceLE, Int.reduceEq, Int.reduceNeg, er, em])
  obtain ⟨k, hk, ek, -⟩ := place_spec (h := h1) H (n + 4) hn (m := 1 + min (roomM s) 30) (by omega) (by omega)
  (try simp -dsimp (disch := omega) only [↓pre, sp, sp2, wp_some, Int.cast_ofNat_Int, Nat.reduceAdd, Nat.reduceMul, Nat.reduceSub, Nat.reduceLeDiff, Nat.reduceEqDiff, Nat.reducePow, Int.reduceToNat, Int.reducePow, Int.reduceAdd, Int.reduceSub, Int.reduceMul, Int.reduceLT, Int.reduceLE, Int.reduceEq, Int.reduceNeg, ek])
  refine Wp.bind (openE H n L1 (k := k) (by omega) E) fun v2 h2 ⟨k2, q, l2, j, e2, g2, hq2, o2, R2, hj2⟩ => ?_
  subst e2
  have L2 := L1.kp k2
  have hqm : ¬ Mine p lv vs q := fun hm => by have := L1.t.lt L1.w hm; omega
  (try simp -dsimp (disch := omega) only [↓pre, sp, sp2, wp_some, Int.cast_ofNat_Int, Nat.reduceAdd, Nat.reduceMul, Nat.reduceSub, Nat.reduceLeDiff, Nat.reduceEqDiff, Nat.reducePow, Int.reduceToNat, Int.reducePow, Int.reduceAdd, Int.reduceSub, Int.reduceMul, Int.reduceLT, Int.reduceLE, Int.reduceEq, Int.reduceNeg])
  refine wp_kT (.bool false) (fun jj hjj => ?_) ?_
  · (try simp -dsimp (disch := omega) only [↓pre, sp, sp2, wp_some, Int.cast_ofNat_Int, Nat.reduceAdd, Nat.reduceMul, Nat.reduceSub, Nat.reduceLeDiff, Nat.reduceEqDiff, Nat.reducePow, Int.reduceToNat, Int.reducePow, Int.reduceAdd, Int.reduceSub, Int.reduceMul, Int.reduceLT, Int.reduceLE, Int.reduceEq, Int.reduceNeg])
    exact hjj
  (try simp -dsimp (disch := omega) only [↓pre, sp, sp2, wp_some, Int.cast_ofNat_Int, Nat.reduceAdd, Nat.reduceMul, Nat.reduceSub, Nat.reduceLeDiff, Nat.reduceEqDiff, Nat.reducePow, Int.reduceToNat, Int.reducePow, Int.reduceAdd, Int.reduceSub, Int.reduceMul, Int.reduceLT, Int.reduceLE, Int.reduceEq, Int.reduceNeg])
  refine wp_loop (fun m y h3 => ∃ (i : Nat) (s3 : BSt) (j3 : JSt) (o3 : Option (Nat × Nat × List Int)), y = [.int .i64 i] ∧ i + m = seeds.length ∧ On9 h3 p s3 lv vs i ∧ roomM s3 = roomM s ∧ s3.left = -1 ∧ s3.size = s.size ∧ Rdy s3 j3 k i o3 ∧ Jr h3 q p j3 ∧ j3.laid ≤ i ∧ j3.next = i + 1 ∧ layAt j3 = i % 2 ∧ (i = 0 → ∀ b, b < 8 → bAt s3 b = List.replicate s3.size 0) ∧ (0 < i → Two s3 i (fun t => nums9 (seeds.getD (t - 1) 0) k)) ∧ Sz h3 a 1 seeds.length cs .ro) seeds.length (by omega)
    ⟨0, s, j, none, rfl, by omega, L2, rfl, lf, rfl, R2, g2, by omega, by have := R2.2.1; have := R2.2.2.2.2; omega, by have := R2.2.2.2.1; unfold layAt; rw [if_pos (by omega)], fun _ => hz, fun h => by omega, (sa.kp (k1.trans k2))⟩ ?_
  rintro m _ h3 jl ⟨i, s3, j3, o3, rfl, him, L3, hr3, lf3, hs3, R3, g3, hl3, hn3, hla3, hz3, T3, sa3⟩ hj
  unfold L_runglaw9_RetainSpoilt_1
  (try simp -dsimp (disch := omega) only [↓pre, sp, sp2, wp_some, Int.cast_ofNat_Int, Nat.reduceAdd, Nat.reduceMul, Nat.reduceSub, Nat.reduceLeDiff, Nat.reduceEqDiff, Nat.reducePow, Int.reduceToNat, Int.reducePow, Int.reduceAdd, Int.reduceSub, Int.reduceMul, Int.reduceLT, Int.reduceLE, Int.reduceEq, Int.reduceNeg, sa3.len])
  refine wp_ite (fun c4 => ?_) (fun c4 => ?_)
  · have hi : i < seeds.length := by omega
    have hld : rLoad (ea a i) h3 = some (.int .i64 (seeds.getD i 0)) := by
      rw [sa3.ld (by rw [sa3.clen]; omega)]; exact st i hi
    have ei : ((i : Int) + 1) = ((i + 1 : Nat) : Int) := by omega
    (try simp -dsimp (disch := omega) only [↓pre, sp, sp2, wp_some, Int.cast_ofNat_Int, Nat.reduceAdd, Nat.reduceMul, Nat.reduceSub, Nat.reduceLeDiff, Nat.reduceEqDiff, Nat.reducePow, Int.reduceToNat, Int.reducePow, Int.reduceAdd, Int.reduceSub, Int.reduceMul, Int.reduceLT, Int.reduceLE, Int.reduceEq, Int.reduceNeg, sa3.at, hld, ei])
    refine Wp.bind (numbers_spec H (n + 4) L3.w (s := seeds.getD i 0) (k := k) (by omega)) fun v4 h4 ⟨k4, o4, f4⟩ => ?_
    refine Wp.bind (lay9 X (n + 1) (L3.kp k4) (k := k) (by omega) R3 (g3.kp k4) hqm (by omega) (Ow.rd o4) (nums9_len _ _) (nums9_in _ _) (scan := i + 1) (by omega) (.inl lf3) (by omega)) fun v5 h5 ⟨e5, k5, s5, L5, _, hs5, lf5, hr5, R5, g5, hb5⟩ => ?_
    subst e5
    (try simp -dsimp (disch := omega) only [↓pre, sp, sp2, wp_some, Int.cast_ofNat_Int, Nat.reduceAdd, Nat.reduceMul, Nat.reduceSub, Nat.reduceLeDiff, Nat.reduceEqDiff, Nat.reducePow, Int.reduceToNat, Int.reducePow, Int.reduceAdd, Int.reduceSub, Int.reduceMul, Int.reduceLT, Int.reduceLE, Int.reduceEq, Int.reduceNeg])
    rw [hn3, hla3] at hb5
    have T5 : Two s5 (i + 1) (fun t => nums9 (seeds.getD (t - 1) 0) k) := Two.next hz3 T3 hs5 (by rw [hb5.1]; rfl) hb5.2.1 hb5.2.2
    refine hj (m - 1) _ _ (by omega) ⟨i + 1, s5, _, _, rfl, by omega, L5, by omega, by rw [lf5, lf3]; decide, by omega, R5, g5, by show j3.laid + 1 ≤ _; omega, by show j3.next + 1 = _; omega, ?_, fun h => by omega, fun _ => T5, (sa3.kp k4).ro k5⟩
    show layAt { j3 with scan := i + 1, at_ := layAt j3, next := j3.next + 1, laid := j3.laid + 1 } = (i + 1) % 2
    unfold layAt
    show (if ((layAt j3 : Nat) : Int) < 0 then 0 else (1 - ((layAt j3 : Nat) : Int)).toNat) = (i + 1) % 2
    rw [if_neg (by omega), hla3]; omega
  · obtain rfl : i = seeds.length := by omega
    have T := T3 hl0
    have es := size_spec H (n + 4) L3.t
    have eb := blocks_spec H (n + 4) L3.t
    have hbl : s3.bl.length = 8 := by
      have h1 := L3.t.n; have h2 := L1.t.n; omega
    rw [hbl] at eb
    have eb' : kc ov (n + 5) N_block_Store_Blocks [.ptr (some (p, 0))] h3 = some (.int .i64 8, h3) := eb
    obtain ⟨ai, hai, eai, -⟩ := place_spec (h := h3) H (n + 4) hat (m := s3.size) (by omega) (by omega)
    obtain ⟨wi, hwi, ewi, -⟩ := place_spec (h := h3) H (n + 4) hwh (m := 8) (by omega) (by omega)
    have ewi' : kc ov (n + 5) N_runghelp_Place [.int .i64 wh0, .int .i64 8] h3 = some (.int .i64 wi, h3) := ewi
    (try simp -dsimp (disch := omega) only [↓pre, sp, sp2, wp_some, Int.cast_ofNat_Int, Nat.reduceAdd, Nat.reduceMul, Nat.reduceSub, Nat.reduceLeDiff, Nat.reduceEqDiff, Nat.reducePow, Int.reduceToNat, Int.reducePow, Int.reduceAdd, Int.reduceSub, Int.reduceMul, Int.reduceLT, Int.reduceLE, Int.reduceEq, Int.reduceNeg, es, eai, eb', ewi'])
    refine wp_loop (fun m y h4 => ∃ (i : Nat) (s4 : BSt), y = [.int .i64 i] ∧ i + m = 8 ∧ Wf h4 ∧ Sto h4 p s4 lv vs ∧ s4.size = s3.size ∧ s4.dead = false ∧ (∀ b, b < 8 → bAt s4 b = if b < i ∧ (all = true ∨ b = wi) then spB (bAt s3 b) ai x else bAt s3 b) ∧ Sz h4 a 1 seeds.length cs .ro) 8 (by omega)
      ⟨0, s3, rfl, by omega, L3.w, L3.t, rfl, L3.d, fun b hb => by rw [if_neg (by omega)], sa3⟩ ?_
    rintro m _ h4 jk ⟨i, s4, rfl, him4, w4, t4, sz4, d4, hb4, sa4⟩ hjk
    have hbl4 : s4.bl.length = 8 := by
      have h1 := L3.t.n; have h2 := t4.n; omega
    have eb4 := blocks_spec H (n + 4) t4
    rw [hbl4] at eb4
    have eb4' : kc ov (n + 5) N_block_Store_Blocks [.ptr (some (p, 0))] h4 = some (.int .i64 8, h4) := eb4
    unfold L_runglaw9_RetainSpoilt_0
    (try simp -dsimp (disch := omega) only [↓pre, sp, sp2, wp_some, Int.cast_ofNat_Int, Nat.reduceAdd, Nat.reduceMul, Nat.reduceSub, Nat.reduceLeDiff, Nat.reduceEqDiff, Nat.reducePow, Int.reduceToNat, Int.reducePow, Int.reduceAdd, Int.reduceSub, Int.reduceMul, Int.reduceLT, Int.reduceLE, Int.reduceEq, Int.reduceNeg, eb4'])
    refine wp_ite (fun c5 => ?_) (fun c5 => ?_)
    · have hi8 : i < 8 := by omega
      have ei : IntKind.wrap .i64 ((i : Int) + 1) = ((i + 1 : Nat) : Int) := by rw [wr_i64 (by omega) (by omega)]; omega
      (try simp -dsimp (disch := omega) only [↓pre, sp, sp2, wp_some, Int.cast_ofNat_Int, Nat.reduceAdd, Nat.reduceMul, Nat.reduceSub, Nat.reduceLeDiff, Nat.reduceEqDiff, Nat.reducePow, Int.reduceToNat, Int.reducePow, Int.reduceAdd, Int.reduceSub, Int.reduceMul, Int.reduceLT, Int.reduceLE, Int.reduceEq, Int.reduceNeg])
      refine wp_kT (.bool (decide (all = true ∨ i = wi))) (fun jj hjj => ?_) ?_
      · cases all with
        | true => (try simp -dsimp (disch := omega) only [↓pre, sp, sp2, wp_some, Int.cast_ofNat_Int, Nat.reduceAdd, Nat.reduceMul, Nat.reduceSub, Nat.reduceLeDiff, Nat.reduceEqDiff, Nat.reducePow, Int.reduceToNat, Int.reducePow, Int.reduceAdd, Int.reduceSub, Int.reduceMul, Int.reduceLT, Int.reduceLE, Int.reduceEq, Int.reduceNeg]); simpa using hjj
        | false =>
          have e : ((i : Int) = (wi : Int)) = (i = wi) := propext (by omega)
          (try simp -dsimp (disch := omega) only [↓pre, sp, sp2, wp_some, Int.cast_ofNat_Int, Nat.reduceAdd, Nat.reduceMul, Nat.reduceSub, Nat.reduceLeDiff, Nat.reduceEqDiff, Nat.reducePow, Int.reduceToNat, Int.reducePow, Int.reduceAdd, Int.reduceSub, Int.reduceMul, Int.reduceLT, Int.reduceLE, Int.reduceEq, Int.reduceNeg, e])
          simpa using hjj
      refine wp_kJ (fun _ h' => ∃ s5, Wf h' ∧ Sto h' p s5 lv vs ∧ s5.size = s3.size ∧ s5.dead = false ∧ (∀ b, b < 8 → bAt s5 b = if b < i + 1 ∧ (all = true ∨ b = wi) then spB (bAt s3 b) ai x else bAt s3 b) ∧ Sz h' a 1 seeds.length cs .ro) (fun jj hjj => ?_) ?_
      · (try simp -dsimp (disch := omega) only [↓pre, sp, sp2, wp_some, Int.cast_ofNat_Int, Nat.reduceAdd, Nat.reduceMul, Nat.reduceSub, Nat.reduceLeDiff, Nat.reduceEqDiff, Nat.reducePow, Int.reduceToNat, Int.reducePow, Int.reduceAdd, Int.reduceSub, Int.reduceMul, Int.reduceLT, Int.reduceLE, Int.reduceEq, Int.reduceNeg])
        refine wp_ite (fun c6 => ?_) (fun c6 => ?_)
        · (try simp -dsimp (disch := omega) only [↓pre, sp, sp2, wp_some, Int.cast_ofNat_Int, Nat.reduceAdd, Nat.reduceMul, Nat.reduceSub, Nat.reduceLeDiff, Nat.reduceEqDiff, Nat.reducePow, Int.reduceToNat, Int.reducePow, Int.reduceAdd, Int.reduceSub, Int.reduceMul, Int.reduceLT, Int.reduceLE, Int.reduceEq, Int.reduceNeg])
          refine Wp.bind (spoil_spec H (n + 3) w4 t4 i ai x) fun v6 h6 ⟨e6, t6, k6⟩ => ?_
          subst e6
          have em : isM s4 i = 0 := isM_ok d4 (by omega)
          have es6 : spoilM s4 i ai x = { s4 with bl := s4.bl.set i (spB (bAt s4 i) ai x) } := by
            unfold spoilM; rw [if_pos ⟨em, by omega, by omega⟩, Int.toNat_natCast, Int.toNat_natCast]; rfl
          rw [es6] at t6
          refine hjj _ _ ⟨_, k6.w', t6, sz4, d4, fun b hb => ?_, sa4.ro k6⟩
          show (s4.bl.set i (spB (bAt s4 i) ai x)).getD b [] = _
          rw [getD_set _ _ _ (by omega)]
          by_cases eb : i = b
          · subst eb
            rw [if_pos rfl, if_pos ⟨by omega, c6⟩, hb4 i hb, if_neg (by omega)]
          · rw [if_neg eb]
            show bAt s4 b = _
            rw [hb4 b hb]
            by_cases c7 : b < i ∧ (all = true ∨ b = wi)
            · rw [if_pos c7, if_pos ⟨by omega, c7.2⟩]
            · rw [if_neg c7, if_neg fun h => c7 ⟨by omega, h.2⟩]
        · refine hjj _ _ ⟨s4, w4, t4, sz4, d4, fun b hb => ?_, sa4⟩
          rw [hb4 b hb]
          by_cases c7 : b < i ∧ (all = true ∨ b = wi)
          · rw [if_pos c7, if_pos ⟨by omega, c7.2⟩]
          · rw [if_neg c7, if_neg fun h => ?_]
            by_cases e : b = i
            · subst e; exact c6 h.2
            · exact c7 ⟨by omega, h.2⟩
      · rintro y h7 ⟨s5, w5, t5, sz5, d5, hb5, sa5⟩
        (try simp -dsimp (disch := omega) only [↓pre, sp, sp2, wp_some, Int.cast_ofNat_Int, Nat.reduceAdd, Nat.reduceMul, Nat.reduceSub, Nat.reduceLeDiff, Nat.reduceEqDiff, Nat.reducePow, Int.reduceToNat, Int.reducePow, Int.reduceAdd, Int.reduceSub, Int.reduceMul, Int.reduceLT, Int.reduceLE, Int.reduceEq, Int.reduceNeg, ei])
        exact hjk (m - 1) _ _ (by omega) ⟨i + 1, s5, rfl, by omega, w5, t5, sz5, d5, hb5, sa5⟩
    · obtain rfl : i = 8 := by omega
      have hb4' : ∀ b, b < 8 → bAt s4 b = if (all = true ∨ b = wi) then spB (bAt s3 b) ai x else bAt s3 b := fun b hb => by
        rw [hb4 b hb]
        by_cases c : all = true ∨ b = wi
        · rw [if_pos ⟨hb, c⟩, if_pos c]
        · rw [if_neg fun h => c h.2, if_neg c]
      have hb8 : ∀ b, 8 ≤ b → bAt s4 b = [] := fun b hb => by
        show s4.bl.getD b [] = []
        rw [List.getD_eq_getElem?_getD, List.getElem?_eq_none (by omega)]; rfl
      obtain ⟨hN, hO⟩ := spoilt (s := s3) (s' := s4) (k := k) (t := seeds.length) (at_ := ai) (x := x) (P := fun b => all = true ∨ b = wi) T (by omega) (by omega) hl12 (fun _ => nums9_len _ _) (fun _ => nums9_in _ _) (by omega) hx hai hb4' hb8
      have hbls : s4.bl.length = 8 := hbl4
      have hr4 : roomM s4 = roomM s := by
        rw [hrm]; unfold roomM; rw [if_neg (by omega), sz4, hs3]
      have hlt : (seeds.length : Int) - 1 = ((seeds.length - 1 : Nat) : Int) := by omega
      have hld1 : rLoad (ea a (seeds.length - 1)) h4 = some (.int .i64 (seeds.getD (seeds.length - 1) 0)) := by
        rw [sa4.ld (by rw [sa4.clen]; omega)]; exact st _ (by omega)
      (try simp -dsimp (disch := omega) only [↓pre, sp, sp2, wp_some, Int.cast_ofNat_Int, Nat.reduceAdd, Nat.reduceMul, Nat.reduceSub, Nat.reduceLeDiff, Nat.reduceEqDiff, Nat.reducePow, Int.reduceToNat, Int.reducePow, Int.reduceAdd, Int.reduceSub, Int.reduceMul, Int.reduceLT, Int.reduceLE, Int.reduceEq, Int.reduceNeg])
      refine Wp.bind (open_spec H n w4 t4 d4 (by omega) k (fun i => by have := hN i; unfold bAt at this; omega)) ?_
      rintro r9 h9 ⟨k9, ⟨hbad, _⟩ | ⟨_, q9, l9, e9, g9, hq9, o9, _, _⟩⟩
      · unfold openBad at hbad; omega
      rw [Int.toNat_natCast] at e9 o9
      subst e9
      have sa9 := sa4.kp k9
      have hld9 : rLoad (ea a (seeds.length - 1)) h9 = some (.int .i64 (seeds.getD (seeds.length - 1) 0)) := by
        rw [sa9.ld (by rw [sa9.clen]; omega)]; exact st _ (by omega)
      rcases hO with ⟨hat9, hG⟩ | ⟨hat9, hG, hF, hno⟩
      · rw [if_pos hat9]
        have z1 : ((1 : Nat) : Int) = 1 := rfl
        rw [z1]
        (try simp -dsimp (disch := omega) only [↓pre, sp, sp2, wp_some, Int.cast_ofNat_Int, Nat.reduceAdd, Nat.reduceMul, Nat.reduceSub, Nat.reduceLeDiff, Nat.reduceEqDiff, Nat.reducePow, Int.reduceToNat, Int.reducePow, Int.reduceAdd, Int.reduceSub, Int.reduceMul, Int.reduceLT, Int.reduceLE, Int.reduceEq, Int.reduceNeg, sa9.len, hlt, decide_true])
        refine wp_kTh (fun r h' => r = .bool true) (fun jj hjj => ?_) ?_
        · (try simp -dsimp (disch := omega) only [↓pre, sp, sp2, wp_some, Int.cast_ofNat_Int, Nat.reduceAdd, Nat.reduceMul, Nat.reduceSub, Nat.reduceLeDiff, Nat.reduceEqDiff, Nat.reducePow, Int.reduceToNat, Int.reducePow, Int.reduceAdd, Int.reduceSub, Int.reduceMul, Int.reduceLT, Int.reduceLE, Int.reduceEq, Int.reduceNeg, decide_true, sa9.at, hld9])
          refine Wp.bind (numbers_spec H (n + 4) k9.w' (s := seeds.getD (seeds.length - 1) 0) (k := k) (by omega)) fun v10 h10 ⟨k10, o10, f10⟩ => ?_
          have hlb : (openM s4 k).best.l.length = k := by
            rcases hG with e | ⟨_, e⟩ <;> rw [e] <;> exact nums9_len _ _
          have en := nums_spec H (n + 4) ((Ow.rd o9).kp k10) (Ow.rd o10) (by omega)
          (try simp -dsimp (disch := omega) only [↓pre, sp, sp2, wp_some, Int.cast_ofNat_Int, Nat.reduceAdd, Nat.reduceMul, Nat.reduceSub, Nat.reduceLeDiff, Nat.reduceEqDiff, Nat.reducePow, Int.reduceToNat, Int.reducePow, Int.reduceAdd, Int.reduceSub, Int.reduceMul, Int.reduceLT, Int.reduceLE, Int.reduceEq, Int.reduceNeg, en])
          by_cases hd : (openM s4 k).best.l = nums9 (seeds.getD (seeds.length - 1) 0) k
          · (try simp -dsimp (disch := omega) only [↓pre, sp, sp2, wp_some, Int.cast_ofNat_Int, Nat.reduceAdd, Nat.reduceMul, Nat.reduceSub, Nat.reduceLeDiff, Nat.reduceEqDiff, Nat.reducePow, Int.reduceToNat, Int.reducePow, Int.reduceAdd, Int.reduceSub, Int.reduceMul, Int.reduceLT, Int.reduceLE, Int.reduceEq, Int.reduceNeg, hd, decide_true])
            exact hjj _ _ rfl
          · obtain ⟨ht2, hG2⟩ : 2 ≤ seeds.length ∧ (openM s4 k).best.l = nums9 (seeds.getD (seeds.length - 1 - 1) 0) k := by
              rcases hG with e | e
              · exact absurd e hd
              · exact e
            have hdf : decide ((openM s4 k).best.l = nums9 (seeds.getD (seeds.length - 1) 0) k) = false := decide_eq_false hd
            have sa10 := sa9.kp k10
            have hld10 : rLoad (ea a (seeds.length - 1 - 1)) h10 = some (.int .i64 (seeds.getD (seeds.length - 1 - 1) 0)) := by
              rw [sa10.ld (by rw [sa10.clen]; omega)]; exact st _ (by omega)
            have e12 : ((seeds.length - 1 : Nat) : Int) - 1 = ((seeds.length - 1 - 1 : Nat) : Int) := by omega
            have ge : (((seeds.length - 1 : Nat) : Int) > 0) = True := eq_true (by omega)
            rw [hdf]
            (try simp -dsimp (disch := omega) only [↓pre, sp, sp2, wp_some, Int.cast_ofNat_Int, Nat.reduceAdd, Nat.reduceMul, Nat.reduceSub, Nat.reduceLeDiff, Nat.reduceEqDiff, Nat.reducePow, Int.reduceToNat, Int.reducePow, Int.reduceAdd, Int.reduceSub, Int.reduceMul, Int.reduceLT, Int.reduceLE, Int.reduceEq, Int.reduceNeg, ge, decide_true, e12, sa10.at, hld10])
            refine Wp.bind (numbers_spec H (n + 4) k10.w' (s := seeds.getD (seeds.length - 1 - 1) 0) (k := k) (by omega)) fun v11 h11 ⟨k11, o11, f11⟩ => ?_
            have en2 := nums_spec H (n + 4) ((Ow.rd o9).kp (k10.trans k11)) (Ow.rd o11) (by omega)
            (try simp -dsimp (disch := omega) only [↓pre, sp, sp2, wp_some, Int.cast_ofNat_Int, Nat.reduceAdd, Nat.reduceMul, Nat.reduceSub, Nat.reduceLeDiff, Nat.reduceEqDiff, Nat.reducePow, Int.reduceToNat, Int.reducePow, Int.reduceAdd, Int.reduceSub, Int.reduceMul, Int.reduceLT, Int.reduceLE, Int.reduceEq, Int.reduceNeg, en2, hG2, decide_true])
            exact hjj _ _ rfl
        · rintro _ h10 rfl
          (try simp -dsimp (disch := omega) only [↓pre, sp, sp2, wp_some, Int.cast_ofNat_Int, Nat.reduceAdd, Nat.reduceMul, Nat.reduceSub, Nat.reduceLeDiff, Nat.reduceEqDiff, Nat.reducePow, Int.reduceToNat, Int.reducePow, Int.reduceAdd, Int.reduceSub, Int.reduceMul, Int.reduceLT, Int.reduceLE, Int.reduceEq, Int.reduceNeg])
          cases all with
          | true =>
            (try simp -dsimp (disch := omega) only [↓pre, sp, sp2, wp_some, Int.cast_ofNat_Int, Nat.reduceAdd, Nat.reduceMul, Nat.reduceSub, Nat.reduceLeDiff, Nat.reduceEqDiff, Nat.reducePow, Int.reduceToNat, Int.reducePow, Int.reduceAdd, Int.reduceSub, Int.reduceMul, Int.reduceLT, Int.reduceLE, Int.reduceEq, Int.reduceNeg])
            refine wp_kT (.bool true) (fun jj hjj => ?_) ?_
            · (try simp -dsimp (disch := omega) only [↓pre, sp, sp2, wp_some, Int.cast_ofNat_Int, Nat.reduceAdd, Nat.reduceMul, Nat.reduceSub, Nat.reduceLeDiff, Nat.reduceEqDiff, Nat.reducePow, Int.reduceToNat, Int.reducePow, Int.reduceAdd, Int.reduceSub, Int.reduceMul, Int.reduceLT, Int.reduceLE, Int.reduceEq, Int.reduceNeg])
              exact hjj
            (try simp -dsimp (disch := omega) only [↓pre, sp, sp2, wp_some, Int.cast_ofNat_Int, Nat.reduceAdd, Nat.reduceMul, Nat.reduceSub, Nat.reduceLeDiff, Nat.reduceEqDiff, Nat.reducePow, Int.reduceToNat, Int.reducePow, Int.reduceAdd, Int.reduceSub, Int.reduceMul, Int.reduceLT, Int.reduceLE, Int.reduceEq, Int.reduceNeg])
          | false =>
            (try simp -dsimp (disch := omega) only [↓pre, sp, sp2, wp_some, Int.cast_ofNat_Int, Nat.reduceAdd, Nat.reduceMul, Nat.reduceSub, Nat.reduceLeDiff, Nat.reduceEqDiff, Nat.reducePow, Int.reduceToNat, Int.reducePow, Int.reduceAdd, Int.reduceSub, Int.reduceMul, Int.reduceLT, Int.reduceLE, Int.reduceEq, Int.reduceNeg])
            refine wp_kT (.bool true) (fun jj hjj => ?_) ?_
            · (try simp -dsimp (disch := omega) only [↓pre, sp, sp2, wp_some, Int.cast_ofNat_Int, Nat.reduceAdd, Nat.reduceMul, Nat.reduceSub, Nat.reduceLeDiff, Nat.reduceEqDiff, Nat.reducePow, Int.reduceToNat, Int.reducePow, Int.reduceAdd, Int.reduceSub, Int.reduceMul, Int.reduceLT, Int.reduceLE, Int.reduceEq, Int.reduceNeg])
              exact hjj
            (try simp -dsimp (disch := omega) only [↓pre, sp, sp2, wp_some, Int.cast_ofNat_Int, Nat.reduceAdd, Nat.reduceMul, Nat.reduceSub, Nat.reduceLeDiff, Nat.reduceEqDiff, Nat.reducePow, Int.reduceToNat, Int.reducePow, Int.reduceAdd, Int.reduceSub, Int.reduceMul, Int.reduceLT, Int.reduceLE, Int.reduceEq, Int.reduceNeg])
      · rw [if_neg (by omega), hF]
        have z2 : ((2 : Nat) : Int) = 2 := rfl
        have z21 : ((2 : Int) = 1) = False := by simp
        rw [z2]
        rw [hG] at o9
        have hlast : all = true ∨ seeds.length = 1 := by
          cases all with
          | true => exact .inl rfl
          | false =>
            right
            refine Classical.byContradiction fun h => hno ⟨wi, fun i hi => ?_, h⟩
            rcases hi with hi | hi
            · cases hi
            · exact hi
        have z00 : ((([] : List Int).length : Nat) : Int) = 0 := rfl
        (try simp -dsimp (disch := omega) only [↓pre, sp, sp2, wp_some, Int.cast_ofNat_Int, Nat.reduceAdd, Nat.reduceMul, Nat.reduceSub, Nat.reduceLeDiff, Nat.reduceEqDiff, Nat.reducePow, Int.reduceToNat, Int.reducePow, Int.reduceAdd, Int.reduceSub, Int.reduceMul, Int.reduceLT, Int.reduceLE, Int.reduceEq, Int.reduceNeg, sa9.len, hlt, z21, decide_false])
        refine wp_kTh (fun r h' => r = .bool false ∧ h9 = h') (fun jj hjj => ?_) ?_
        · by_cases ge : ((seeds.length - 1 : Nat) : Int) > 0
          · (try simp -dsimp (disch := omega) only [↓pre, sp, sp2, wp_some, Int.cast_ofNat_Int, Nat.reduceAdd, Nat.reduceMul, Nat.reduceSub, Nat.reduceLeDiff, Nat.reduceEqDiff, Nat.reducePow, Int.reduceToNat, Int.reducePow, Int.reduceAdd, Int.reduceSub, Int.reduceMul, Int.reduceLT, Int.reduceLE, Int.reduceEq, Int.reduceNeg, ge, decide_true, z21, decide_false])
            exact hjj _ _ ⟨rfl, rfl⟩
          · (try simp -dsimp (disch := omega) only [↓pre, sp, sp2, wp_some, Int.cast_ofNat_Int, Nat.reduceAdd, Nat.reduceMul, Nat.reduceSub, Nat.reduceLeDiff, Nat.reduceEqDiff, Nat.reducePow, Int.reduceToNat, Int.reducePow, Int.reduceAdd, Int.reduceSub, Int.reduceMul, Int.reduceLT, Int.reduceLE, Int.reduceEq, Int.reduceNeg, ge, decide_false])
            exact hjj _ _ ⟨rfl, rfl⟩
        rintro _ _ ⟨rfl, rfl⟩
        (try simp -dsimp (disch := omega) only [↓pre, sp, sp2, wp_some, Int.cast_ofNat_Int, Nat.reduceAdd, Nat.reduceMul, Nat.reduceSub, Nat.reduceLeDiff, Nat.reduceEqDiff, Nat.reducePow, Int.reduceToNat, Int.reducePow, Int.reduceAdd, Int.reduceSub, Int.reduceMul, Int.reduceLT, Int.reduceLE, Int.reduceEq, Int.reduceNeg])
        cases all with
        | true =>
          (try simp -dsimp (disch := omega) only [↓pre, sp, sp2, wp_some, Int.cast_ofNat_Int, Nat.reduceAdd, Nat.reduceMul, Nat.reduceSub, Nat.reduceLeDiff, Nat.reduceEqDiff, Nat.reducePow, Int.reduceToNat, Int.reducePow, Int.reduceAdd, Int.reduceSub, Int.reduceMul, Int.reduceLT, Int.reduceLE, Int.reduceEq, Int.reduceNeg])
          refine wp_kT (.bool true) (fun jj hjj => ?_) ?_
          · (try simp -dsimp (disch := omega) only [↓pre, sp, sp2, wp_some, Int.cast_ofNat_Int, Nat.reduceAdd, Nat.reduceMul, Nat.reduceSub, Nat.reduceLeDiff, Nat.reduceEqDiff, Nat.reducePow, Int.reduceToNat, Int.reducePow, Int.reduceAdd, Int.reduceSub, Int.reduceMul, Int.reduceLT, Int.reduceLE, Int.reduceEq, Int.reduceNeg, decide_true, (Ow.rd o9).len, z00])
            exact hjj
          (try simp -dsimp (disch := omega) only [↓pre, sp, sp2, wp_some, Int.cast_ofNat_Int, Nat.reduceAdd, Nat.reduceMul, Nat.reduceSub, Nat.reduceLeDiff, Nat.reduceEqDiff, Nat.reducePow, Int.reduceToNat, Int.reducePow, Int.reduceAdd, Int.reduceSub, Int.reduceMul, Int.reduceLT, Int.reduceLE, Int.reduceEq, Int.reduceNeg])
        | false =>
          have h1 : seeds.length = 1 := by
            rcases hlast with h | h
            · cases h
            · exact h
          have ez : (((seeds.length - 1 : Nat) : Int) = 0) = True := eq_true (by omega)
          (try simp -dsimp (disch := omega) only [↓pre, sp, sp2, wp_some, Int.cast_ofNat_Int, Nat.reduceAdd, Nat.reduceMul, Nat.reduceSub, Nat.reduceLeDiff, Nat.reduceEqDiff, Nat.reducePow, Int.reduceToNat, Int.reducePow, Int.reduceAdd, Int.reduceSub, Int.reduceMul, Int.reduceLT, Int.reduceLE, Int.reduceEq, Int.reduceNeg])
          refine wp_kT (.bool true) (fun jj hjj => ?_) ?_
          · (try simp -dsimp (disch := omega) only [↓pre, sp, sp2, wp_some, Int.cast_ofNat_Int, Nat.reduceAdd, Nat.reduceMul, Nat.reduceSub, Nat.reduceLeDiff, Nat.reduceEqDiff, Nat.reducePow, Int.reduceToNat, Int.reducePow, Int.reduceAdd, Int.reduceSub, Int.reduceMul, Int.reduceLT, Int.reduceLE, Int.reduceEq, Int.reduceNeg, ez, decide_true, (Ow.rd o9).len, z00])
            exact hjj
          (try simp -dsimp (disch := omega) only [↓pre, sp, sp2, wp_some, Int.cast_ofNat_Int, Nat.reduceAdd, Nat.reduceMul, Nat.reduceSub, Nat.reduceLeDiff, Nat.reduceEqDiff, Nat.reducePow, Int.reduceToNat, Int.reducePow, Int.reduceAdd, Int.reduceSub, Int.reduceMul, Int.reduceLT, Int.reduceLE, Int.reduceEq, Int.reduceNeg])
end Go.Proofs.Ytbcpmbggidemdaa.AI
