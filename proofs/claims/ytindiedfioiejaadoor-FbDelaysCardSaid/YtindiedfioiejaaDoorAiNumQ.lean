/- Bits of the kinds of bits. -/
import Derived.Test.YtindiedfioiejaaDoorAiNumP
namespace Go.Proofs.YtindiedfioiejaaDoor.AI
open Go
set_option linter.unusedSimpArgs false
set_option linter.unusedVariables false
theorem BitVec.ofNat_toNat_self' (v : BitVec 1) : BitVec.ofNat 1 v.toNat = v := by simp
def K4 (k : Int) : Prop := k = 1 ∨ k = 8 ∨ k = 9 ∨ k = 10
def bvk (k x : Int) : BitVec (kdM k).w := BitVec.ofInt _ (wrapM k x)
theorem K4.r {k : Int} (h : K4 k) : 1 ≤ k ∧ k ≤ 11 := by unfold K4 at h; omega
theorem setW8 (x : Int) : (BitVec.ofInt 64 x).setWidth 8 = BitVec.ofInt 8 x := by
  apply BitVec.eq_of_toNat_eq
  rw [BitVec.toNat_setWidth, BitVec.toNat_ofInt, BitVec.toNat_ofInt]
  simp only [Nat.reducePow]
  omega
theorem ofIm8 (x : Int) : BitVec.ofInt 8 (x % 256) = BitVec.ofInt 8 x := by
  apply BitVec.eq_of_toNat_eq
  rw [BitVec.toNat_ofInt, BitVec.toNat_ofInt]
  simp only [Nat.reducePow]
  omega
theorem wv8 (v : BitVec 64) : IntKind.wrap .i64 (v.toNat : Int) % 256 = ((v.setWidth 8).toNat : Int) := by
  rw [BitVec.toNat_setWidth, IntKind.wrap_i64]
  simp only [Nat.reducePow]
  omega
theorem ov8 (x : Int) : x % 256 = ((BitVec.ofInt 8 x).toNat : Int) := by
  rw [BitVec.toNat_ofInt]
  simp only [Nat.reducePow]
  omega
theorem vo8 (v : BitVec 8) : BitVec.ofInt 8 ((v.toNat : Int) % 256) = v := by
  rw [ofIm8, BitVec.ofInt_natCast, BitVec.ofNat_toNat, BitVec.setWidth_eq]
theorem band8 (x y : Int) : iAnd .i64 (x % 256) (y % 256) % 256 = ((BitVec.ofInt 8 x &&& BitVec.ofInt 8 y).toNat : Int) := by
  show IntKind.wrap .i64 ((BitVec.ofInt 64 _ &&& BitVec.ofInt 64 _ : BitVec 64).toNat : Int) % 256 = _
  rw [wv8, BitVec.setWidth_and, setW8, setW8, ofIm8, ofIm8]
theorem bor8 (x y : Int) : iOr .i64 (x % 256) (y % 256) % 256 = ((BitVec.ofInt 8 x ||| BitVec.ofInt 8 y).toNat : Int) := by
  show IntKind.wrap .i64 ((BitVec.ofInt 64 _ ||| BitVec.ofInt 64 _ : BitVec 64).toNat : Int) % 256 = _
  rw [wv8, BitVec.setWidth_or, setW8, setW8, ofIm8, ofIm8]
theorem bxor8 (x y : Int) : iXor .i64 (x % 256) (y % 256) % 256 = ((BitVec.ofInt 8 x ^^^ BitVec.ofInt 8 y).toNat : Int) := by
  show IntKind.wrap .i64 ((BitVec.ofInt 64 _ ^^^ BitVec.ofInt 64 _ : BitVec 64).toNat : Int) % 256 = _
  rw [wv8, BitVec.setWidth_xor, setW8, setW8, ofIm8, ofIm8]
theorem bnot8 (x : Int) : iXor .i64 (-1) x % 256 = ((~~~ BitVec.ofInt 8 x).toNat : Int) := by
  show IntKind.wrap .i64 ((BitVec.ofInt 64 _ ^^^ BitVec.ofInt 64 _ : BitVec 64).toNat : Int) % 256 = _
  rw [wv8, BitVec.setWidth_xor, setW8, setW8]
  congr 2
theorem setW16 (x : Int) : (BitVec.ofInt 64 x).setWidth 16 = BitVec.ofInt 16 x := by
  apply BitVec.eq_of_toNat_eq
  rw [BitVec.toNat_setWidth, BitVec.toNat_ofInt, BitVec.toNat_ofInt]
  simp only [Nat.reducePow]
  omega
theorem ofIm16 (x : Int) : BitVec.ofInt 16 (x % 65536) = BitVec.ofInt 16 x := by
  apply BitVec.eq_of_toNat_eq
  rw [BitVec.toNat_ofInt, BitVec.toNat_ofInt]
  simp only [Nat.reducePow]
  omega
theorem wv16 (v : BitVec 64) : IntKind.wrap .i64 (v.toNat : Int) % 65536 = ((v.setWidth 16).toNat : Int) := by
  rw [BitVec.toNat_setWidth, IntKind.wrap_i64]
  simp only [Nat.reducePow]
  omega
theorem ov16 (x : Int) : x % 65536 = ((BitVec.ofInt 16 x).toNat : Int) := by
  rw [BitVec.toNat_ofInt]
  simp only [Nat.reducePow]
  omega
theorem vo16 (v : BitVec 16) : BitVec.ofInt 16 ((v.toNat : Int) % 65536) = v := by
  rw [ofIm16, BitVec.ofInt_natCast, BitVec.ofNat_toNat, BitVec.setWidth_eq]
theorem band16 (x y : Int) : iAnd .i64 (x % 65536) (y % 65536) % 65536 = ((BitVec.ofInt 16 x &&& BitVec.ofInt 16 y).toNat : Int) := by
  show IntKind.wrap .i64 ((BitVec.ofInt 64 _ &&& BitVec.ofInt 64 _ : BitVec 64).toNat : Int) % 65536 = _
  rw [wv16, BitVec.setWidth_and, setW16, setW16, ofIm16, ofIm16]
theorem bor16 (x y : Int) : iOr .i64 (x % 65536) (y % 65536) % 65536 = ((BitVec.ofInt 16 x ||| BitVec.ofInt 16 y).toNat : Int) := by
  show IntKind.wrap .i64 ((BitVec.ofInt 64 _ ||| BitVec.ofInt 64 _ : BitVec 64).toNat : Int) % 65536 = _
  rw [wv16, BitVec.setWidth_or, setW16, setW16, ofIm16, ofIm16]
theorem bxor16 (x y : Int) : iXor .i64 (x % 65536) (y % 65536) % 65536 = ((BitVec.ofInt 16 x ^^^ BitVec.ofInt 16 y).toNat : Int) := by
  show IntKind.wrap .i64 ((BitVec.ofInt 64 _ ^^^ BitVec.ofInt 64 _ : BitVec 64).toNat : Int) % 65536 = _
  rw [wv16, BitVec.setWidth_xor, setW16, setW16, ofIm16, ofIm16]
theorem bnot16 (x : Int) : iXor .i64 (-1) x % 65536 = ((~~~ BitVec.ofInt 16 x).toNat : Int) := by
  show IntKind.wrap .i64 ((BitVec.ofInt 64 _ ^^^ BitVec.ofInt 64 _ : BitVec 64).toNat : Int) % 65536 = _
  rw [wv16, BitVec.setWidth_xor, setW16, setW16]
  congr 2
theorem setW32 (x : Int) : (BitVec.ofInt 64 x).setWidth 32 = BitVec.ofInt 32 x := by
  apply BitVec.eq_of_toNat_eq
  rw [BitVec.toNat_setWidth, BitVec.toNat_ofInt, BitVec.toNat_ofInt]
  simp only [Nat.reducePow]
  omega
theorem ofIm32 (x : Int) : BitVec.ofInt 32 (x % 4294967296) = BitVec.ofInt 32 x := by
  apply BitVec.eq_of_toNat_eq
  rw [BitVec.toNat_ofInt, BitVec.toNat_ofInt]
  simp only [Nat.reducePow]
  omega
theorem wv32 (v : BitVec 64) : IntKind.wrap .i64 (v.toNat : Int) % 4294967296 = ((v.setWidth 32).toNat : Int) := by
  rw [BitVec.toNat_setWidth, IntKind.wrap_i64]
  simp only [Nat.reducePow]
  omega
theorem ov32 (x : Int) : x % 4294967296 = ((BitVec.ofInt 32 x).toNat : Int) := by
  rw [BitVec.toNat_ofInt]
  simp only [Nat.reducePow]
  omega
theorem vo32 (v : BitVec 32) : BitVec.ofInt 32 ((v.toNat : Int) % 4294967296) = v := by
  rw [ofIm32, BitVec.ofInt_natCast, BitVec.ofNat_toNat, BitVec.setWidth_eq]
theorem band32 (x y : Int) : iAnd .i64 (x % 4294967296) (y % 4294967296) % 4294967296 = ((BitVec.ofInt 32 x &&& BitVec.ofInt 32 y).toNat : Int) := by
  show IntKind.wrap .i64 ((BitVec.ofInt 64 _ &&& BitVec.ofInt 64 _ : BitVec 64).toNat : Int) % 4294967296 = _
  rw [wv32, BitVec.setWidth_and, setW32, setW32, ofIm32, ofIm32]
theorem bor32 (x y : Int) : iOr .i64 (x % 4294967296) (y % 4294967296) % 4294967296 = ((BitVec.ofInt 32 x ||| BitVec.ofInt 32 y).toNat : Int) := by
  show IntKind.wrap .i64 ((BitVec.ofInt 64 _ ||| BitVec.ofInt 64 _ : BitVec 64).toNat : Int) % 4294967296 = _
  rw [wv32, BitVec.setWidth_or, setW32, setW32, ofIm32, ofIm32]
theorem bxor32 (x y : Int) : iXor .i64 (x % 4294967296) (y % 4294967296) % 4294967296 = ((BitVec.ofInt 32 x ^^^ BitVec.ofInt 32 y).toNat : Int) := by
  show IntKind.wrap .i64 ((BitVec.ofInt 64 _ ^^^ BitVec.ofInt 64 _ : BitVec 64).toNat : Int) % 4294967296 = _
  rw [wv32, BitVec.setWidth_xor, setW32, setW32, ofIm32, ofIm32]
theorem bnot32 (x : Int) : iXor .i64 (-1) x % 4294967296 = ((~~~ BitVec.ofInt 32 x).toNat : Int) := by
  show IntKind.wrap .i64 ((BitVec.ofInt 64 _ ^^^ BitVec.ofInt 64 _ : BitVec 64).toNat : Int) % 4294967296 = _
  rw [wv32, BitVec.setWidth_xor, setW32, setW32]
  congr 2
theorem bvk_val {k : Int} (h : K4 k) (x : Int) : wrapM k x = ((bvk k x).toNat : Int) := by
  rcases h with rfl | rfl | rfl | rfl
  · by_cases c : x = 0 <;> simp [wrapM, c, bvk, kdM]
  · exact (Int.emod_emod_of_dvd x (Int.dvd_refl 256)).symm.trans (ov8 _)
  · exact (Int.emod_emod_of_dvd x (Int.dvd_refl 65536)).symm.trans (ov16 _)
  · exact (Int.emod_emod_of_dvd x (Int.dvd_refl 4294967296)).symm.trans (ov32 _)
theorem bvk_of {k : Int} (h : K4 k) (v : BitVec (kdM k).w) : bvk k (v.toNat : Int) = v := by
  rcases h with rfl | rfl | rfl | rfl
  · have : ∀ n : Nat, n < 2 → (bvk 1 (n : Int)).toNat = n := by decide
    exact BitVec.eq_of_toNat_eq (this _ v.isLt)
  · exact vo8 v
  · exact vo16 v
  · exact vo32 v
theorem bvk_and {k : Int} (h : K4 k) (x y : Int) : wrapM k (iAnd .i64 (wrapM k x) (wrapM k y)) = ((bvk k x &&& bvk k y).toNat : Int) := by
  rcases h with rfl | rfl | rfl | rfl
  · have : ∀ u v : Bool, wrapM 1 (iAnd .i64 (if u then 0 else 1) (if v then 0 else 1)) = ((BitVec.ofInt 1 (if u then 0 else 1) &&& BitVec.ofInt 1 (if v then 0 else 1)).toNat : Int) := by decide
    have e : ∀ z : Int, wrapM 1 z = if decide (z = 0) then 0 else 1 := fun z => by by_cases c : z = 0 <;> simp [wrapM, c]
    have g := this (decide (x = 0)) (decide (y = 0))
    unfold bvk
    rw [e x, e y]
    exact g
  · refine (band8 x y).trans ?_
    unfold bvk; show _ = (((BitVec.ofInt 8 (x % 256)) &&& (BitVec.ofInt 8 (y % 256))).toNat : Int); rw [ofIm8, ofIm8]
  · refine (band16 x y).trans ?_
    unfold bvk; show _ = (((BitVec.ofInt 16 (x % 65536)) &&& (BitVec.ofInt 16 (y % 65536))).toNat : Int); rw [ofIm16, ofIm16]
  · refine (band32 x y).trans ?_
    unfold bvk; show _ = (((BitVec.ofInt 32 (x % 4294967296)) &&& (BitVec.ofInt 32 (y % 4294967296))).toNat : Int); rw [ofIm32, ofIm32]
theorem bvk_or {k : Int} (h : K4 k) (x y : Int) : wrapM k (iOr .i64 (wrapM k x) (wrapM k y)) = ((bvk k x ||| bvk k y).toNat : Int) := by
  rcases h with rfl | rfl | rfl | rfl
  · have : ∀ u v : Bool, wrapM 1 (iOr .i64 (if u then 0 else 1) (if v then 0 else 1)) = ((BitVec.ofInt 1 (if u then 0 else 1) ||| BitVec.ofInt 1 (if v then 0 else 1)).toNat : Int) := by decide
    have e : ∀ z : Int, wrapM 1 z = if decide (z = 0) then 0 else 1 := fun z => by by_cases c : z = 0 <;> simp [wrapM, c]
    have g := this (decide (x = 0)) (decide (y = 0))
    unfold bvk
    rw [e x, e y]
    exact g
  · refine (bor8 x y).trans ?_
    unfold bvk; show _ = (((BitVec.ofInt 8 (x % 256)) ||| (BitVec.ofInt 8 (y % 256))).toNat : Int); rw [ofIm8, ofIm8]
  · refine (bor16 x y).trans ?_
    unfold bvk; show _ = (((BitVec.ofInt 16 (x % 65536)) ||| (BitVec.ofInt 16 (y % 65536))).toNat : Int); rw [ofIm16, ofIm16]
  · refine (bor32 x y).trans ?_
    unfold bvk; show _ = (((BitVec.ofInt 32 (x % 4294967296)) ||| (BitVec.ofInt 32 (y % 4294967296))).toNat : Int); rw [ofIm32, ofIm32]
theorem bvk_xor {k : Int} (h : K4 k) (x y : Int) : wrapM k (iXor .i64 (wrapM k x) (wrapM k y)) = ((bvk k x ^^^ bvk k y).toNat : Int) := by
  rcases h with rfl | rfl | rfl | rfl
  · have : ∀ u v : Bool, wrapM 1 (iXor .i64 (if u then 0 else 1) (if v then 0 else 1)) = ((BitVec.ofInt 1 (if u then 0 else 1) ^^^ BitVec.ofInt 1 (if v then 0 else 1)).toNat : Int) := by decide
    have e : ∀ z : Int, wrapM 1 z = if decide (z = 0) then 0 else 1 := fun z => by by_cases c : z = 0 <;> simp [wrapM, c]
    have g := this (decide (x = 0)) (decide (y = 0))
    unfold bvk
    rw [e x, e y]
    exact g
  · refine (bxor8 x y).trans ?_
    unfold bvk; show _ = (((BitVec.ofInt 8 (x % 256)) ^^^ (BitVec.ofInt 8 (y % 256))).toNat : Int); rw [ofIm8, ofIm8]
  · refine (bxor16 x y).trans ?_
    unfold bvk; show _ = (((BitVec.ofInt 16 (x % 65536)) ^^^ (BitVec.ofInt 16 (y % 65536))).toNat : Int); rw [ofIm16, ofIm16]
  · refine (bxor32 x y).trans ?_
    unfold bvk; show _ = (((BitVec.ofInt 32 (x % 4294967296)) ^^^ (BitVec.ofInt 32 (y % 4294967296))).toNat : Int); rw [ofIm32, ofIm32]
theorem bvk_not {k : Int} (h : K4 k) (x : Int) : (if k = 1 then (if x = 0 then 1 else 0) else wrapM k (iXor .i64 (-1) x)) = ((~~~ bvk k x).toNat : Int) := by
  rcases h with rfl | rfl | rfl | rfl
  · by_cases c : x = 0 <;> simp [wrapM, c, bvk, kdM]
  · refine (bnot8 x).trans ?_
    unfold bvk; show _ = ((~~~ (BitVec.ofInt 8 (x % 256))).toNat : Int); rw [ofIm8]
  · refine (bnot16 x).trans ?_
    unfold bvk; show _ = ((~~~ (BitVec.ofInt 16 (x % 65536))).toNat : Int); rw [ofIm16]
  · refine (bnot32 x).trans ?_
    unfold bvk; show _ = ((~~~ (BitVec.ofInt 32 (x % 4294967296))).toNat : Int); rw [ofIm32]
end Go.Proofs.YtindiedfioiejaaDoor.AI
