/- Bits that are turned round. -/
import Derived.Test.YtijdkjngbogegaaAiNumQ
namespace Go.Proofs.Ytijdkjngbogegaa.AI
open Go
set_option linter.unusedSimpArgs false
set_option linter.unusedVariables false
theorem rot_back {W : Nat} (X : BitVec W) (r : Nat) (hr : r < W) : (X <<< r ||| X >>> (W - r)) >>> r ||| (X <<< r ||| X >>> (W - r)) <<< (W - r) = X := by
  apply BitVec.eq_of_getLsbD_eq
  intro i hi
  simp only [BitVec.getLsbD_or, BitVec.getLsbD_ushiftRight, BitVec.getLsbD_shiftLeft]
  by_cases c : i < W - r
  · have e1 : decide (r + i < W) = true := decide_eq_true (by omega)
    have e2 : decide (r + i < r) = false := decide_eq_false (by omega)
    have e3 : decide (i < W - r) = true := decide_eq_true c
    have e4 : X.getLsbD (W - r + (r + i)) = false := BitVec.getLsbD_of_ge _ _ (by omega)
    rw [e1, e2, e3, e4, show r + i - r = i by omega]
    simp
  · have e1 : decide (r + i < W) = false := decide_eq_false (by omega)
    have e3 : decide (i < W - r) = false := decide_eq_false c
    have e4 : X.getLsbD (W - r + (r + i)) = false := BitVec.getLsbD_of_ge _ _ (by omega)
    have e5 : decide (i < W) = true := decide_eq_true hi
    have e6 : decide (i - (W - r) < r) = true := decide_eq_true (by omega)
    rw [e1, e3, e4, e5, e6, show W - r + (i - (W - r)) = i by omega]
    simp
theorem ofInt_shl {W : Nat} (hW : W ≤ 64) (X : BitVec W) (r : Nat) : BitVec.ofInt W (IntKind.wrap .i64 ((X.toNat : Int) * 2 ^ r)) = X <<< r := by
  apply BitVec.eq_of_toNat_eq
  rw [BitVec.toNat_ofInt, BitVec.toNat_shiftLeft, Nat.shiftLeft_eq]
  have hd : ((2 ^ W : Nat) : Int) ∣ 18446744073709551616 := by
    refine ⟨((2 ^ (64 - W) : Nat) : Int), ?_⟩
    rw [← Int.natCast_mul, ← Nat.pow_add, show W + (64 - W) = 64 by omega]; rfl
  obtain ⟨c, hc⟩ := hd
  have e : IntKind.wrap .i64 ((X.toNat : Int) * 2 ^ r) % ((2 ^ W : Nat) : Int) = ((X.toNat : Int) * 2 ^ r) % ((2 ^ W : Nat) : Int) := by
    generalize (X.toNat : Int) * 2 ^ r = x
    generalize ((2 ^ W : Nat) : Int) = m at hc
    rw [IntKind.wrap_i64, hc, Int.emod_def (x + 9223372036854775808) (m * c)]
    generalize (x + 9223372036854775808) / (m * c) = q
    rw [show x + 9223372036854775808 - m * c * q - 9223372036854775808 = x - m * (c * q) by rw [Int.mul_assoc]; omega]
    exact Int.sub_mul_emod_self_left _ _ _
  rw [e]
  have : (X.toNat : Int) * 2 ^ r = ((X.toNat * 2 ^ r : Nat) : Int) := by rw [Int.natCast_mul, Int.natCast_pow]; rfl
  rw [this, ← Int.natCast_emod, Int.toNat_natCast]
theorem ofInt_shr {W : Nat} (X : BitVec W) (s : Nat) : BitVec.ofInt W ((X.toNat : Int) / 2 ^ s) = X >>> s := by
  apply BitVec.eq_of_toNat_eq
  rw [BitVec.toNat_ofInt, BitVec.toNat_ushiftRight, Nat.shiftRight_eq_div_pow]
  have : (X.toNat : Int) / 2 ^ s = ((X.toNat / 2 ^ s : Nat) : Int) := by rw [Int.natCast_ediv, Int.natCast_pow]; rfl
  rw [this, ← Int.natCast_emod, Int.toNat_natCast, Nat.mod_eq_of_lt]
  exact Nat.lt_of_le_of_lt (Nat.div_le_self _ _) X.isLt
theorem or_any8 (x y : Int) : iOr .i64 x y % 256 = ((BitVec.ofInt 8 x ||| BitVec.ofInt 8 y).toNat : Int) := by
  show IntKind.wrap .i64 ((BitVec.ofInt 64 _ ||| BitVec.ofInt 64 _ : BitVec 64).toNat : Int) % 256 = _
  rw [wv8, BitVec.setWidth_or, setW8, setW8]
theorem or_any16 (x y : Int) : iOr .i64 x y % 65536 = ((BitVec.ofInt 16 x ||| BitVec.ofInt 16 y).toNat : Int) := by
  show IntKind.wrap .i64 ((BitVec.ofInt 64 _ ||| BitVec.ofInt 64 _ : BitVec 64).toNat : Int) % 65536 = _
  rw [wv16, BitVec.setWidth_or, setW16, setW16]
theorem or_any32 (x y : Int) : iOr .i64 x y % 4294967296 = ((BitVec.ofInt 32 x ||| BitVec.ofInt 32 y).toNat : Int) := by
  show IntKind.wrap .i64 ((BitVec.ofInt 64 _ ||| BitVec.ofInt 64 _ : BitVec 64).toNat : Int) % 4294967296 = _
  rw [wv32, BitVec.setWidth_or, setW32, setW32]
end Go.Proofs.Ytijdkjngbogegaa.AI
