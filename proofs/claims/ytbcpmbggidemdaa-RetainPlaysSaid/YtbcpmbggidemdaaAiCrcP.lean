/- Check sums of 16 bits: plain facts of them. -/
import Derived.Test.YtbcpmbggidemdaaAiLib3
namespace Go.Proofs.Ytbcpmbggidemdaa.AI
open Go
set_option linter.unusedSimpArgs false
set_option linter.unusedVariables false

/-- One bit. -/
def stepB (s : BitVec 16) : BitVec 16 := (s >>> 1) ^^^ (if s.getLsbD 0 then 0xA001#16 else 0#16)
theorem stepB_lin (a b : BitVec 16) : stepB (a ^^^ b) = stepB a ^^^ stepB b := by
  unfold stepB
  rw [BitVec.ushiftRight_xor_distrib, BitVec.getLsbD_xor]
  generalize a >>> 1 = x
  generalize b >>> 1 = y
  have hz : 0xA001#16 ^^^ 0xA001#16 = 0#16 := BitVec.xor_self
  cases a.getLsbD 0 <;> cases b.getLsbD 0 <;> simp only [Bool.xor_false, Bool.false_xor, Bool.xor_true, Bool.true_xor, Bool.not_true, Bool.not_false, Bool.false_eq_true, if_true, if_false, BitVec.xor_zero]
  · rw [BitVec.xor_assoc]
  · rw [BitVec.xor_assoc, BitVec.xor_comm y, ← BitVec.xor_assoc]
  · rw [BitVec.xor_assoc, ← BitVec.xor_assoc 0xA001#16, BitVec.xor_comm 0xA001#16 y, BitVec.xor_assoc y, hz, BitVec.xor_zero]
theorem stepB_zero : stepB 0#16 = 0#16 := by decide
theorem stepB_inj {s : BitVec 16} (h : stepB s = 0#16) : s = 0#16 := by
  unfold stepB at h
  cases h0 : s.getLsbD 0 with
  | true =>
    rw [h0] at h
    have := congrArg (fun x => x.getLsbD 15) h
    simp at this
  | false =>
    rw [h0] at h
    simp only [Bool.false_eq_true, if_false, BitVec.xor_zero] at h
    apply BitVec.eq_of_getLsbD_eq
    intro i hi
    rcases i with _ | i
    · rw [h0]; simp
    · have := congrArg (fun x => x.getLsbD i) h
      simp only [BitVec.getLsbD_ushiftRight, BitVec.getLsbD_zero, Nat.add_comm 1 i] at this
      rw [this]; simp
/-- So many bits. -/
def stepN : Nat → BitVec 16 → BitVec 16
  | 0, s => s
  | n + 1, s => stepB (stepN n s)
theorem stepN_lin (n : Nat) (a b : BitVec 16) : stepN n (a ^^^ b) = stepN n a ^^^ stepN n b := by
  induction n with
  | zero => rfl
  | succ n ih => simp only [stepN, ih, stepB_lin]
theorem stepN_zero (n : Nat) : stepN n 0#16 = 0#16 := by
  induction n with
  | zero => rfl
  | succ n ih => simp only [stepN, ih, stepB_zero]
theorem stepN_inj {s : BitVec 16} : ∀ n, stepN n s = 0#16 → s = 0#16
  | 0, h => h
  | n + 1, h => stepN_inj n (stepB_inj h)
theorem stepN_add (n m : Nat) (s : BitVec 16) : stepN (n + m) s = stepN m (stepN n s) := by
  induction m with
  | zero => rfl
  | succ m ih => rw [← Nat.add_assoc]; simp only [stepN, ih]
def bv (b : Bool) : BitVec 16 := if b then 1#16 else 0#16
/-- Bits f, one behind the other. -/
def crcN (f : Nat → Bool) (s : BitVec 16) : Nat → BitVec 16
  | 0 => s
  | n + 1 => stepB (crcN f s n ^^^ bv (f n))
theorem bv_xor (a b : Bool) : bv a ^^^ bv b = bv (a ^^ b) := by cases a <;> cases b <;> decide
theorem crcN_lin (f g : Nat → Bool) (s t : BitVec 16) (n : Nat) : crcN f s n ^^^ crcN g t n = crcN (fun m => f m ^^ g m) (s ^^^ t) n := by
  induction n with
  | zero => rfl
  | succ n ih =>
    simp only [crcN]
    rw [← stepB_lin, ← ih, ← bv_xor]
    congr 1
    ac_rfl
theorem crcN_congr {f g : Nat → Bool} {s : BitVec 16} : ∀ {n : Nat}, (∀ m, m < n → f m = g m) → crcN f s n = crcN g s n
  | 0, _ => rfl
  | n + 1, h => by simp only [crcN]; rw [crcN_congr fun m hm => h m (by omega), h n (by omega)]
theorem crcN_add (f : Nat → Bool) (s : BitVec 16) (n m : Nat) : crcN f s (n + m) = crcN (fun k => f (n + k)) (crcN f s n) m := by
  induction m with
  | zero => rfl
  | succ m ih => rw [← Nat.add_assoc]; simp only [crcN, ih]
theorem crcN_none (s : BitVec 16) (n : Nat) : crcN (fun _ => false) s n = stepN n s := by
  induction n with
  | zero => rfl
  | succ n ih => simp [crcN, stepN, ih, bv]
/-- The lowest bit taken away, a step is a shift. -/
theorem stepB_even (y : BitVec 16) : stepB (y ^^^ bv (y.getLsbD 0)) = y >>> 1 := by
  unfold stepB
  rw [BitVec.getLsbD_xor]
  have h0 : (bv (y.getLsbD 0)).getLsbD 0 = y.getLsbD 0 := by cases y.getLsbD 0 <;> decide
  rw [h0, Bool.xor_self]
  simp only [Bool.false_eq_true, if_false, BitVec.xor_zero]
  rw [BitVec.ushiftRight_xor_distrib]
  have : bv (y.getLsbD 0) >>> 1 = 0#16 := by cases y.getLsbD 0 <;> decide
  rw [this, BitVec.xor_zero]
/-- Bits laid into the register at once, or one by one. -/
theorem stepN_bits (s x : BitVec 16) (n : Nat) : stepN n (s ^^^ x) = crcN (fun k => x.getLsbD k) s n ^^^ (x >>> n) := by
  induction n with
  | zero => simp [stepN, crcN]
  | succ n ih =>
    simp only [stepN, crcN]
    rw [ih]
    have e0 : (x >>> n).getLsbD 0 = x.getLsbD n := by simp [BitVec.getLsbD_ushiftRight]
    have : crcN (fun k => x.getLsbD k) s n ^^^ x >>> n = (crcN (fun k => x.getLsbD k) s n ^^^ bv (x.getLsbD n)) ^^^ (x >>> n ^^^ bv ((x >>> n).getLsbD 0)) := by
      rw [e0]
      generalize crcN (fun k => x.getLsbD k) s n = A
      generalize bv (x.getLsbD n) = B
      generalize x >>> n = C
      rw [BitVec.xor_assoc, ← BitVec.xor_assoc B, BitVec.xor_comm B C, BitVec.xor_assoc C, BitVec.xor_self, BitVec.xor_zero]
    rw [this, stepB_lin, stepB_even, BitVec.shiftRight_add]
theorem stepN_bits16 (s x : BitVec 16) : stepN 16 (s ^^^ x) = crcN (fun k => x.getLsbD k) s 16 := by
  rw [stepN_bits, show x >>> 16 = 0#16 by apply BitVec.eq_of_getLsbD_eq; intro i hi; simp [BitVec.getLsbD_ushiftRight], BitVec.xor_zero]
/-- A burst is told. -/
theorem burst {f g : Nat → Bool} {s x : BitVec 16} {at_ n : Nat} (hx : x ≠ 0#16) (hn : at_ + 16 ≤ n) (hd : ∀ m, m < n → (f m ^^ g m) = (decide (at_ ≤ m) && decide (m < at_ + 16) && x.getLsbD (m - at_))) : crcN f s n ≠ crcN g s n := by
  intro he
  have h1 : crcN f s n ^^^ crcN g s n = 0#16 := by rw [he, BitVec.xor_self]
  rw [crcN_lin, BitVec.xor_self, crcN_congr hd] at h1
  rw [show n = at_ + (16 + (n - at_ - 16)) by omega, crcN_add, crcN_add] at h1
  have e1 : crcN (fun m => decide (at_ ≤ m) && decide (m < at_ + 16) && x.getLsbD (m - at_)) 0#16 at_ = 0#16 := by
    rw [crcN_congr (g := fun _ => false) fun m hm => by simp; omega, crcN_none, stepN_zero]
  have e2 : crcN (fun k => decide (at_ ≤ at_ + k) && decide (at_ + k < at_ + 16) && x.getLsbD (at_ + k - at_)) 0#16 16 = stepN 16 x := by
    have := stepN_bits16 0#16 x
    rw [BitVec.zero_xor] at this
    rw [this]
    exact crcN_congr fun m hm => by simp [show m < 16 from hm]
  have e3 : ∀ t : BitVec 16, crcN (fun k => decide (at_ ≤ at_ + (16 + k)) && decide (at_ + (16 + k) < at_ + 16) && x.getLsbD (at_ + (16 + k) - at_)) t (n - at_ - 16) = stepN (n - at_ - 16) t := fun t => by
    rw [← crcN_none]
    exact crcN_congr fun m hm => by simp
  rw [e1, e2, e3] at h1
  exact hx (stepN_inj _ (stepN_inj _ h1))

/-! Bytes. -/
def bitAt (l : List UInt8) (m : Nat) : Bool := (l.getD (m / 8) 0).toBitVec.getLsbD (m % 8)
def zx (x : UInt8) : BitVec 16 := x.toBitVec.zeroExtend 16
/-- The sum, begun with s. -/
def crcL (s : BitVec 16) (l : List UInt8) : BitVec 16 := l.foldl (fun s x => stepN 8 (s ^^^ zx x)) s
def crc16 (l : List UInt8) : BitVec 16 := crcL 0xFFFF#16 l
theorem zx_bit (x : UInt8) {k : Nat} (hk : k < 8) : (zx x).getLsbD k = x.toBitVec.getLsbD k := by
  unfold zx
  simp; omega
theorem zx_shift (x : UInt8) : zx x >>> 8 = 0#16 := by
  apply BitVec.eq_of_getLsbD_eq
  intro i hi
  simp [zx, BitVec.getLsbD_ushiftRight]
theorem byte_bits (s : BitVec 16) (x : UInt8) : stepN 8 (s ^^^ zx x) = crcN (fun k => x.toBitVec.getLsbD k) s 8 := by
  rw [stepN_bits, zx_shift, BitVec.xor_zero]
  exact crcN_congr fun m hm => zx_bit x hm
theorem crcL_bits (s : BitVec 16) (l : List UInt8) : crcL s l = crcN (bitAt l) s (8 * l.length) := by
  induction l generalizing s with
  | nil => rfl
  | cons x l ih =>
    unfold crcL at ih ⊢
    rw [List.foldl_cons, ih, byte_bits, List.length_cons, show 8 * (l.length + 1) = 8 + 8 * l.length by omega, crcN_add]
    congr 1
    · funext k
      unfold bitAt
      rw [show (8 + k) / 8 = k / 8 + 1 by omega, show (8 + k) % 8 = k % 8 by omega, List.getD_cons_succ]
/-- Two bytes more: the sum's own. -/
theorem crcL_append (s : BitVec 16) (l m : List UInt8) : crcL s (l ++ m) = crcL (crcL s l) m := by unfold crcL; rw [List.foldl_append]
def lo8' (s : BitVec 16) : UInt8 := ⟨s.truncate 8⟩
def hi8' (s : BitVec 16) : UInt8 := ⟨(s >>> 8).truncate 8⟩
theorem crc_own (s : BitVec 16) : crcL s [lo8' s, hi8' s] = 0#16 := by
  rw [crcL_bits]
  have := stepN_bits16 s s
  rw [BitVec.xor_self, stepN_zero] at this
  rw [this]
  refine crcN_congr fun m hm => ?_
  simp only [List.length_cons, List.length_nil] at hm
  unfold bitAt
  by_cases h8 : m < 8
  · rw [show m / 8 = 0 by omega, Nat.mod_eq_of_lt h8]
    simp [lo8', h8]
  · rw [show m / 8 = 1 by omega]
    simp [hi8', BitVec.getLsbD_ushiftRight]
    try (rw [show 8 + m % 8 = m by omega])
    try (simp; omega)

/-! What the machine makes of it. -/
theorem wr_u16' {n : Int} (h0 : 0 ≤ n) (h1 : n < 65536) : IntKind.wrap .u16 n = n := num.2.2.2.2.2.1 n h0 h1
theorem ofInt16 (x : BitVec 16) : BitVec.ofInt IntKind.u16.bits (x.toNat : Int) = x := by
  apply BitVec.eq_of_toNat_eq
  rw [ofInt_toNat (by exact x.isLt)]
  rfl
theorem ofInt16' {n : Int} {x : BitVec 16} (h : n = x.toNat) : BitVec.ofInt IntKind.u16.bits n = x := by rw [h, ofInt16]
theorem iXor16 {a b : Int} {x y : BitVec 16} (ha : a = x.toNat) (hb : b = y.toNat) : iXor .u16 a b = ((x ^^^ y).toNat : Nat) := by
  unfold iXor
  rw [ofInt16' ha, ofInt16' hb]
  exact wr_u16' (by omega) (by exact Int.ofNat_lt.2 (x ^^^ y).isLt)
theorem iAnd16 {a b : Int} {x y : BitVec 16} (ha : a = x.toNat) (hb : b = y.toNat) : iAnd .u16 a b = ((x &&& y).toNat : Nat) := by
  unfold iAnd
  rw [ofInt16' ha, ofInt16' hb]
  exact wr_u16' (by omega) (by exact Int.ofNat_lt.2 (x &&& y).isLt)
theorem and_one16 (s : BitVec 16) : s &&& 1#16 = bv (s.getLsbD 0) := by
  apply BitVec.eq_of_getLsbD_eq
  intro i hi
  rcases i with _ | i
  · cases h : s.getLsbD 0 <;> simp [bv] <;> simpa using h
  · cases h : s.getLsbD 0 <;> simp [bv, h]
theorem bit_and (s : BitVec 16) : iAnd .u16 (s.toNat : Int) 1 = ((bv (s.getLsbD 0)).toNat : Int) := by
  have := iAnd16 (a := (s.toNat : Int)) (b := 1) (x := s) (y := 1#16) rfl rfl
  rw [this, and_one16]
theorem shr1_16 (s : BitVec 16) : (s.toNat : Int) / (2 : Int) = ((s >>> 1).toNat : Int) := by
  rw [BitVec.toNat_ushiftRight, Nat.shiftRight_eq_div_pow]; omega
/-- A bit, by a product. -/
theorem bit_mul (s : BitVec 16) : iXor .u16 ((s.toNat : Int) / (2 : Int)) (IntKind.wrap .u16 (40961 * iAnd .u16 (s.toNat : Int) 1)) = ((stepB s).toNat : Int) := by
  rw [bit_and, shr1_16]
  have : IntKind.wrap .u16 (40961 * ((bv (s.getLsbD 0)).toNat : Int)) = (((if s.getLsbD 0 then 0xA001#16 else 0#16) : BitVec 16).toNat : Int) := by
    cases s.getLsbD 0 <;> decide
  rw [this, iXor16 rfl rfl]
  rfl
/-- A bit, by its ways. -/
theorem bit_one (s : BitVec 16) (h : s.getLsbD 0 = true) : iXor .u16 ((s.toNat : Int) / (2 : Int)) 40961 = ((stepB s).toNat : Int) := by
  have := iXor16 (a := ((s >>> 1).toNat : Int)) (b := 40961) (x := s >>> 1) (y := 0xA001#16) rfl rfl
  rw [shr1_16, this]
  unfold stepB; rw [h]; rfl
theorem bit_none (s : BitVec 16) (h : s.getLsbD 0 = false) : (s.toNat : Int) / (2 : Int) = ((stepB s).toNat : Int) := by
  rw [shr1_16]
  unfold stepB; rw [h]; simp
theorem zx_toNat (x : UInt8) : ((zx x).toNat : Int) = (x.toNat : Int) := by
  unfold zx
  have := x.toNat_lt
  simp
theorem byte_xor (s : BitVec 16) (l : List UInt8) (i : Nat) : iXor .u16 (s.toNat : Int) (gb l i : Nat) = ((s ^^^ zx (l.getD i 0)).toNat : Int) := iXor16 rfl (zx_toNat _).symm
theorem crcL_take (s : BitVec 16) {l : List UInt8} {i : Nat} (h : i < l.length) : crcL s (l.take (i + 1)) = stepN 8 (crcL s (l.take i) ^^^ zx (l.getD i 0)) := by
  rw [List.take_succ_eq_append_getElem h, crcL_append]
  unfold crcL
  simp [List.getD, h]
theorem bv_toNat (b : Bool) : ((bv b).toNat : Int) = if b then 1 else 0 := by cases b <;> rfl
theorem lo8_eq (s : BitVec 16) : IntKind.wrap .u8 (s.toNat : Int) = ((lo8' s).toNat : Int) := by
  rw [IntKind.wrap_u8]
  have := s.isLt
  simp only [lo8', UInt8.toNat, BitVec.truncate_eq_setWidth, BitVec.toNat_setWidth]
  omega
theorem hi8_eq (s : BitVec 16) : IntKind.wrap .u8 ((s.toNat : Int) / (256 : Int)) = ((hi8' s).toNat : Int) := by
  rw [IntKind.wrap_u8]
  have := s.isLt
  simp only [hi8', UInt8.toNat, BitVec.truncate_eq_setWidth, BitVec.toNat_setWidth, BitVec.toNat_ushiftRight, Nat.shiftRight_eq_div_pow]
  omega
/-- The sum's bytes, the lower first. -/
def sumB (l : List UInt8) : List UInt8 := [lo8' (crc16 l), hi8' (crc16 l)]
theorem sumB_len (l : List UInt8) : (sumB l).length = 2 := rfl
theorem lohi_toNat (s : BitVec 16) : (lo8' s).toNat = s.toNat % 256 ∧ (hi8' s).toNat = s.toNat / 256 := by
  have := s.isLt
  refine ⟨?_, ?_⟩
  · show (BitVec.setWidth 8 s).toNat = _
    rw [BitVec.toNat_setWidth]
  · show (BitVec.setWidth 8 (s >>> 8)).toNat = _
    rw [BitVec.toNat_setWidth, BitVec.toNat_ushiftRight, Nat.shiftRight_eq_div_pow]
    omega
theorem iOr_comm (k : IntKind) (a b : Int) : iOr k a b = iOr k b a := by unfold iOr; rw [BitVec.or_comm]
/-- Is that the sum of what stands ahead of it? -/
theorem sum_at (l : List UInt8) (h : 2 ≤ l.length) : ((crc16 (l.take (l.length - 2))).toNat = gb l (l.length - 2) + gb l (l.length - 2 + 1) * 256) ↔ l.take (l.length - 2) ++ sumB (l.take (l.length - 2)) = l := by
  have hd : l.drop (l.length - 2) = [l.getD (l.length - 2) 0, l.getD (l.length - 2 + 1) 0] := by
    rw [List.drop_eq_getElem_cons (by omega), List.drop_eq_getElem_cons (by omega), List.drop_of_length_le (by omega)]
    simp [List.getD, show l.length - 2 < l.length by omega, show l.length - 2 + 1 < l.length by omega]
  have hc := lohi_toNat (crc16 (l.take (l.length - 2)))
  have h0 := gb_lt l (l.length - 2); have h1 := gb_lt l (l.length - 2 + 1)
  have e1 : (l.take (l.length - 2) ++ sumB (l.take (l.length - 2)) = l) ↔ sumB (l.take (l.length - 2)) = l.drop (l.length - 2) := by
    constructor
    · intro e
      have := congrArg (List.drop (l.length - 2)) e
      rw [List.drop_left' (by rw [List.length_take]; omega)] at this
      exact this
    · intro e
      rw [e, List.take_append_drop]
  rw [e1, hd]
  unfold sumB
  generalize crc16 (l.take (l.length - 2)) = s at *
  unfold gb at *
  constructor
  · intro e
    congr 1
    · apply UInt8.toNat_inj.1; omega
    · congr 1
      apply UInt8.toNat_inj.1; omega
  · intro e
    simp only [List.cons.injEq, and_true] at e
    rw [← e.1, ← e.2]
    omega

/-! Bits that are turned. -/
def bit8 (k : Nat) : UInt8 := ⟨1#8 <<< k⟩
theorem shl_bit8 {k : Nat} (h : k < 8) : IntKind.wrap .u8 (1 * (2 : Int) ^ k) = ((bit8 k).toNat : Int) := by
  rcases (by omega : k = 0 ∨ k = 1 ∨ k = 2 ∨ k = 3 ∨ k = 4 ∨ k = 5 ∨ k = 6 ∨ k = 7) with rfl | rfl | rfl | rfl | rfl | rfl | rfl | rfl <;> decide
theorem bit8_get {k j : Nat} (h : k < 8) (hj : j < 8) : (bit8 k).toBitVec.getLsbD j = decide (j = k) := by
  simp only [bit8, BitVec.getLsbD_shiftLeft, hj, decide_true, Bool.true_and]
  by_cases c : j < k
  · simp [c]; omega
  · simp [c]
    by_cases c2 : j = k
    · simp [c2]
    · simp [c2]; omega
theorem shr_bit (e : BitVec 16) (i : Nat) : iAnd .u16 ((e.toNat : Int) / (2 : Int) ^ i) 1 = ((bv (e.getLsbD i)).toNat : Int) := by
  have := bit_and (e >>> i)
  rw [BitVec.toNat_ushiftRight, Nat.shiftRight_eq_div_pow, BitVec.getLsbD_ushiftRight, Nat.add_zero] at this
  rw [← this]
  congr 1
theorem byte_ext {x y : UInt8} (h : ∀ k, k < 8 → x.toBitVec.getLsbD k = y.toBitVec.getLsbD k) : x = y := by
  cases x; cases y
  congr 1
  exact BitVec.eq_of_getLsbD_eq h
theorem bytes_ext {l m : List UInt8} (hl : l.length = m.length) (h : ∀ k, k < 8 * l.length → bitAt l k = bitAt m k) : l = m := by
  apply List.ext_getElem hl
  intro i h1 h2
  apply byte_ext
  intro k hk
  have := h (8 * i + k) (by omega)
  unfold bitAt at this
  rw [show (8 * i + k) / 8 = i by omega, show (8 * i + k) % 8 = k by omega] at this
  simpa [List.getD, h1, h2] using this
theorem bitAt_take {l : List UInt8} {n k : Nat} (h : k < 8 * n) : bitAt (l.take n) k = bitAt l k := by
  unfold bitAt
  rw [List.getD_eq_getElem?_getD, List.getElem?_take_of_lt (by omega), ← List.getD_eq_getElem?_getD]
theorem bitAt_drop {l : List UInt8} {n k : Nat} : bitAt (l.drop n) k = bitAt l (8 * n + k) := by
  unfold bitAt
  rw [List.getD_eq_getElem?_getD, List.getElem?_drop, ← List.getD_eq_getElem?_getD, show (8 * n + k) / 8 = n + k / 8 by omega, show (8 * n + k) % 8 = k % 8 by omega]
/-- One bit is turned. -/
theorem bitAt_flip {l : List UInt8} {m k : Nat} (hm : m / 8 < l.length) : bitAt (l.set (m / 8) (l.getD (m / 8) 0 ^^^ bit8 (m % 8))) k = (bitAt l k ^^ decide (k = m)) := by
  unfold bitAt
  rw [List.getD_eq_getElem?_getD (l := l.set _ _), List.getElem?_set]
  by_cases c : m / 8 = k / 8
  · rw [if_pos c, if_pos hm]
    simp only [Option.getD_some, UInt8.toBitVec_xor, BitVec.getLsbD_xor]
    rw [bit8_get (by omega) (by omega), c]
    congr 1
    by_cases c2 : k = m
    · simp [c2]
    · simp [c2]; omega
  · rw [if_neg c, ← List.getD_eq_getElem?_getD]
    have : ¬ k = m := fun e => c (by rw [e])
    simp [this]
/-- So many bits of e are turned, from at on. -/
def Turned (l c : List UInt8) (at_ i : Nat) (e : BitVec 16) : Prop := c.length = l.length ∧ ∀ k, bitAt c k = (bitAt l k ^^ (decide (at_ ≤ k) && decide (k < at_ + i) && e.getLsbD (k - at_)))
theorem Turned.zero (l : List UInt8) (at_ : Nat) (e : BitVec 16) : Turned l l at_ 0 e := ⟨rfl, fun k => by
  by_cases c : at_ ≤ k
  · simp [show ¬ k < at_ by omega]
  · simp [c]⟩
theorem Turned.on {l c : List UInt8} {at_ i : Nat} {e : BitVec 16} (t : Turned l c at_ i e) (h : e.getLsbD i = true) (hi : (at_ + i) / 8 < l.length) :
    Turned l (c.set ((at_ + i) / 8) (c.getD ((at_ + i) / 8) 0 ^^^ bit8 ((at_ + i) % 8))) at_ (i + 1) e := by
  refine ⟨by rw [List.length_set]; exact t.1, fun k => ?_⟩
  rw [bitAt_flip (by rw [t.1]; exact hi), t.2]
  by_cases c1 : k = at_ + i
  · subst c1
    simp [show at_ + i - at_ = i by omega, h]
  · by_cases c2 : at_ ≤ k
    · by_cases c3 : k < at_ + i
      · simp [c1, c2, c3, show k < at_ + (i + 1) by omega]
      · simp [c1, c2, c3, show ¬ k < at_ + (i + 1) by omega]
    · simp [c1, c2]
theorem Turned.off {l c : List UInt8} {at_ i : Nat} {e : BitVec 16} (t : Turned l c at_ i e) (h : e.getLsbD i = false) : Turned l c at_ (i + 1) e := by
  refine ⟨t.1, fun k => ?_⟩
  rw [t.2]
  by_cases c1 : k = at_ + i
  · subst c1
    simp [show at_ + i - at_ = i by omega, h]
  · by_cases c2 : at_ ≤ k
    · by_cases c3 : k < at_ + i
      · simp [c2, c3, show k < at_ + (i + 1) by omega]
      · simp [c2, c3, show ¬ k < at_ + (i + 1) by omega]
    · simp [c2]
/-- The sum tells it. -/
theorem Turned.told {l c : List UInt8} {at_ : Nat} {e : BitVec 16} (t : Turned l c at_ 16 e) (he : e ≠ 0#16) (h : at_ + 16 ≤ 8 * l.length) : crc16 l ≠ crc16 c := by
  unfold crc16
  rw [crcL_bits, crcL_bits, t.1]
  refine burst he h fun m hm => ?_
  rw [t.2]
  generalize (decide (at_ ≤ m) && decide (m < at_ + 16) && e.getLsbD (m - at_)) = b
  cases bitAt l m <;> cases b <;> rfl
theorem sumB_inj {a b : List UInt8} (h : sumB a = sumB b) : crc16 a = crc16 b := by
  unfold sumB at h
  simp only [List.cons.injEq, and_true] at h
  have h1 := lohi_toNat (crc16 a)
  have h2 := lohi_toNat (crc16 b)
  rw [← h.1, ← h.2] at h2
  apply BitVec.eq_of_toNat_eq
  have := (crc16 a).isLt; have := (crc16 b).isLt
  omega
/-- A frame with bits turned ahead of its sum is no frame. -/
theorem Turned.frame {l c : List UInt8} {at_ : Nat} {e : BitVec 16} (t : Turned (l ++ sumB l) c at_ 16 e) (he : e ≠ 0#16) (h : at_ + 16 ≤ 8 * l.length) : ¬ c.take (c.length - 2) ++ sumB (c.take (c.length - 2)) = c := by
  intro hc
  have hl : c.length = l.length + 2 := by rw [t.1, List.length_append, sumB_len]
  have hn : c.length - 2 = l.length := by omega
  rw [hn] at hc
  have t1 : Turned l (c.take l.length) at_ 16 e := by
    refine ⟨by rw [List.length_take]; omega, fun k => ?_⟩
    by_cases ck : k < 8 * l.length
    · rw [bitAt_take ck, t.2]
      have : bitAt (l ++ sumB l) k = bitAt l k := by
        rw [← bitAt_take (n := l.length) ck, List.take_left]
      rw [this]
    · have e1 : ∀ x : List UInt8, x.length = l.length → bitAt x k = false := fun x hx => by
        unfold bitAt
        rw [List.getD_eq_getElem?_getD, List.getElem?_eq_none (by omega)]
        simp
      rw [e1 l rfl, e1 (c.take l.length) (by rw [List.length_take]; omega)]
      simp [show ¬ k < at_ + 16 by omega]
  have e2 : c.drop l.length = sumB l := by
    apply bytes_ext
    · rw [List.length_drop, sumB_len]; omega
    · intro k hk
      rw [bitAt_drop, t.2]
      have : bitAt (l ++ sumB l) (8 * l.length + k) = bitAt (sumB l) k := by
        rw [← bitAt_drop, List.drop_left]
      rw [this]
      simp [show ¬ 8 * l.length + k < at_ + 16 by omega]
  have e3 : c.drop l.length = sumB (c.take l.length) := by
    have := congrArg (List.drop l.length) hc
    rw [List.drop_left' (by rw [List.length_take]; omega)] at this
    exact this.symm
  exact t1.told he h (sumB_inj (e2.symm.trans e3))

/-! A table. -/
theorem table_step (s : BitVec 16) (x : UInt8) : stepN 8 (s ^^^ zx x) = (s >>> 8) ^^^ stepN 8 (zx (lo8' s ^^^ x)) := by
  have hb : ∀ k, k < 8 → (s ^^^ zx (lo8' s)).getLsbD k = false := fun k hk => by
    rw [BitVec.getLsbD_xor, zx_bit _ hk]
    simp [lo8', hk]
  have hz : zx (lo8' s ^^^ x) = zx (lo8' s) ^^^ zx x := by
    apply BitVec.eq_of_getLsbD_eq
    intro i hi
    simp [zx]
  have e1 : s ^^^ zx x = zx (lo8' s ^^^ x) ^^^ (s ^^^ zx (lo8' s)) := by
    rw [hz, BitVec.xor_comm s (zx (lo8' s)), BitVec.xor_comm (zx (lo8' s)) (zx x), BitVec.xor_assoc, ← BitVec.xor_assoc (zx (lo8' s)), BitVec.xor_self, BitVec.zero_xor, BitVec.xor_comm]
  rw [e1, stepN_bits, crcN_congr (g := fun _ => false) hb, crcN_none, BitVec.xor_comm]
  congr 1
  rw [BitVec.ushiftRight_xor_distrib, zx_shift, BitVec.xor_zero]
def tab16 : List AVal := (List.range 256).map fun i => AVal.int .u16 ((stepN 8 (BitVec.ofNat 16 i)).toNat : Int)
theorem tab16_len : tab16.length = 256 := by simp [tab16]
theorem tab16_at {k : Nat} (h : k < 256) : tab16[k]? = some (.int .u16 ((stepN 8 (BitVec.ofNat 16 k)).toNat : Int)) := by
  simp [tab16, h]
theorem tab16_zx (x : UInt8) : tab16[x.toNat]? = some (.int .u16 ((stepN 8 (zx x)).toNat : Int)) := by
  have e : BitVec.ofNat 16 x.toNat = zx x := by
    apply BitVec.eq_of_toNat_eq
    have := zx_toNat x
    have := x.toNat_lt
    rw [BitVec.toNat_ofNat]
    omega
  rw [tab16_at x.toNat_lt, e]
theorem shr8_16 (s : BitVec 16) : (s.toNat : Int) / (256 : Int) = ((s >>> 8).toNat : Int) := by
  rw [BitVec.toNat_ushiftRight, Nat.shiftRight_eq_div_pow]; omega
/-- A byte, by the table. -/
theorem table_byte (s : BitVec 16) (x : UInt8) : iXor .u16 ((s.toNat : Int) / (256 : Int)) ((stepN 8 (zx (lo8' s ^^^ x))).toNat : Int) = ((stepN 8 (s ^^^ zx x)).toNat : Int) := by
  rw [shr8_16, iXor16 rfl rfl, table_step]

/-! Sums of 32 bits: both texts come to one. -/
def stepB32 (s : BitVec 32) : BitVec 32 := (s >>> 1) ^^^ (if s.getLsbD 0 then 0xEDB88320#32 else 0#32)
def stepN32 : Nat → BitVec 32 → BitVec 32
  | 0, s => s
  | n + 1, s => stepB32 (stepN32 n s)
def zx32 (x : UInt8) : BitVec 32 := x.toBitVec.zeroExtend 32
def crcL32 (s : BitVec 32) (l : List UInt8) : BitVec 32 := l.foldl (fun s x => stepN32 8 (s ^^^ zx32 x)) s
theorem ofInt32 (x : BitVec 32) : BitVec.ofInt IntKind.u32.bits (x.toNat : Int) = x := by
  apply BitVec.eq_of_toNat_eq
  rw [ofInt_toNat (by exact x.isLt)]
  rfl
theorem ofInt32' {n : Int} {x : BitVec 32} (h : n = x.toNat) : BitVec.ofInt IntKind.u32.bits n = x := by rw [h, ofInt32]
theorem wr_u32' {n : Int} (h0 : 0 ≤ n) (h1 : n < 4294967296) : IntKind.wrap .u32 n = n := num.2.2.2.2.2.2.1 n h0 h1
theorem iXor32 {a b : Int} {x y : BitVec 32} (ha : a = x.toNat) (hb : b = y.toNat) : iXor .u32 a b = ((x ^^^ y).toNat : Nat) := by
  unfold iXor
  rw [ofInt32' ha, ofInt32' hb]
  exact wr_u32' (by omega) (by exact Int.ofNat_lt.2 (x ^^^ y).isLt)
theorem iAnd32 {a b : Int} {x y : BitVec 32} (ha : a = x.toNat) (hb : b = y.toNat) : iAnd .u32 a b = ((x &&& y).toNat : Nat) := by
  unfold iAnd
  rw [ofInt32' ha, ofInt32' hb]
  exact wr_u32' (by omega) (by exact Int.ofNat_lt.2 (x &&& y).isLt)
theorem and_one32 (s : BitVec 32) : s &&& 1#32 = if s.getLsbD 0 then 1#32 else 0#32 := by
  apply BitVec.eq_of_getLsbD_eq
  intro i hi
  rcases i with _ | i
  · cases h : s.getLsbD 0 <;> simp <;> simpa using h
  · cases h : s.getLsbD 0 <;> simp
theorem bit_and32 (s : BitVec 32) : iAnd .u32 (s.toNat : Int) 1 = if s.getLsbD 0 then 1 else 0 := by
  have := iAnd32 (a := (s.toNat : Int)) (b := 1) (x := s) (y := 1#32) rfl rfl
  rw [this, and_one32]
  cases s.getLsbD 0 <;> rfl
theorem shr1_32 (s : BitVec 32) : (s.toNat : Int) / (2 : Int) = ((s >>> 1).toNat : Int) := by
  rw [BitVec.toNat_ushiftRight, Nat.shiftRight_eq_div_pow]; omega
theorem bit_mul32 (s : BitVec 32) : iXor .u32 ((s.toNat : Int) / (2 : Int)) (IntKind.wrap .u32 (3988292384 * iAnd .u32 (s.toNat : Int) 1)) = ((stepB32 s).toNat : Int) := by
  rw [bit_and32, shr1_32]
  have : IntKind.wrap .u32 (3988292384 * (if s.getLsbD 0 then 1 else 0)) = (((if s.getLsbD 0 then 0xEDB88320#32 else 0#32) : BitVec 32).toNat : Int) := by
    cases s.getLsbD 0 <;> decide
  rw [this, iXor32 rfl rfl]
  rfl
theorem bit_one32 (s : BitVec 32) (h : s.getLsbD 0 = true) : iXor .u32 ((s.toNat : Int) / (2 : Int)) 3988292384 = ((stepB32 s).toNat : Int) := by
  have := iXor32 (a := ((s >>> 1).toNat : Int)) (b := 3988292384) (x := s >>> 1) (y := 0xEDB88320#32) rfl rfl
  rw [shr1_32, this]
  unfold stepB32; rw [h]; rfl
theorem bit_none32 (s : BitVec 32) (h : s.getLsbD 0 = false) : (s.toNat : Int) / (2 : Int) = ((stepB32 s).toNat : Int) := by
  rw [shr1_32]
  unfold stepB32; rw [h]; simp
theorem zx32_toNat (x : UInt8) : ((zx32 x).toNat : Int) = (x.toNat : Int) := by
  unfold zx32
  have := x.toNat_lt
  simp
theorem byte_xor32 (s : BitVec 32) (l : List UInt8) (i : Nat) : iXor .u32 (s.toNat : Int) (gb l i : Nat) = ((s ^^^ zx32 (l.getD i 0)).toNat : Int) := iXor32 rfl (zx32_toNat _).symm
theorem crcL32_take (s : BitVec 32) {l : List UInt8} {i : Nat} (h : i < l.length) : crcL32 s (l.take (i + 1)) = stepN32 8 (crcL32 s (l.take i) ^^^ zx32 (l.getD i 0)) := by
  rw [List.take_succ_eq_append_getElem h]
  unfold crcL32
  rw [List.foldl_append]
  simp [List.getD, h]
end Go.Proofs.Ytbcpmbggidemdaa.AI
