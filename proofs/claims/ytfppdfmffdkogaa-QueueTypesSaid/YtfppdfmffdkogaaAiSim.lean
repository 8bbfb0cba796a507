/- Stepping through printed functions. -/
import Derived.Test.YtfppdfmffdkogaaAiKFun
import Derived.Laws.BitsLemmas
import Derived.Laws.BitsAllLaws
namespace Go.Proofs.Ytfppdfmffdkogaa.AI
open Go
set_option linter.unusedSimpArgs false

/-! ### What comes next -/
@[simp] theorem kQ_some (v : AVal) (K : AVal → Ans) : kQ (some v) K = K v := rfl
@[simp] theorem kM_some (p : APlan) (h : AH) (K : AVal → AH → Ans) : kM (some p) h K = K (p.2 h.n) (h.push p.1) := rfl
@[simp] theorem kE_some (v : AVal) (h : AH) (K : AVal → AH → Ans) : kE (some (v, h)) K = K v h := rfl
@[simp] theorem kIf_true (A B : Ans) : kIf (.bool true) A B = A := rfl
@[simp] theorem kIf_false (A B : Ans) : kIf (.bool false) A B = B := rfl
theorem kIf_bool (b : Bool) (A B : Ans) : kIf (.bool b) A B = if b = true then A else B := by cases b <;> rfl
@[simp] theorem kIf_decide (p : Prop) [Decidable p] (A B : Ans) : kIf (.bool (decide p)) A B = if p then A else B := by
  by_cases h : p <;> simp [h]
@[simp] theorem kGq_on (b : Bool) (A : (AVal → Ans) → Ans) (K : AVal → Ans) : kGq (.bool b) b A K = A K := by simp [kGq]
@[simp] theorem kGq_tf (A : (AVal → Ans) → Ans) (K : AVal → Ans) : kGq (.bool true) false A K = K (.tuple []) := rfl
@[simp] theorem kGq_ft (A : (AVal → Ans) → Ans) (K : AVal → Ans) : kGq (.bool false) true A K = K (.tuple []) := rfl
@[simp] theorem kG_on (b : Bool) (h : AH) (A : (AVal → AH → Ans) → Ans) (K : AVal → AH → Ans) : kG (.bool b) b h A K = A K := by simp [kG]
@[simp] theorem kG_tf (h : AH) (A : (AVal → AH → Ans) → Ans) (K : AVal → AH → Ans) : kG (.bool true) false h A K = K (.tuple []) h := rfl
@[simp] theorem kG_ft (h : AH) (A : (AVal → AH → Ans) → Ans) (K : AVal → AH → Ans) : kG (.bool false) true h A K = K (.tuple []) h := rfl
@[simp] theorem kChk_true (A : Ans) : kChk true A = A := rfl
@[simp] theorem kJ_eq (J : List AVal → AH → Ans) (B : (List AVal → AH → Ans) → Ans) : kJ J B = B J := rfl
@[simp] theorem gd_zero (a : AVal) (l : List AVal) : gd (a :: l) 0 = a := rfl
@[simp] theorem gd_succ (a : AVal) (l : List AVal) (n : Nat) : gd (a :: l) (n + 1) = gd l n := rfl

/-! ### Operations on known values -/
def iOr (k : IntKind) (x y : Int) : Int := k.wrap (BitVec.ofInt k.bits x ||| BitVec.ofInt k.bits y).toNat
def iAnd (k : IntKind) (x y : Int) : Int := k.wrap (BitVec.ofInt k.bits x &&& BitVec.ofInt k.bits y).toNat
def iXor (k : IntKind) (x y : Int) : Int := k.wrap (BitVec.ofInt k.bits x ^^^ BitVec.ofInt k.bits y).toNat
@[simp] theorem rFieldP_some (off i o : Nat) : rFieldP off (.ptr (some (i, o))) = some (.ptr (some (i, o + off))) := rfl
@[simp] theorem rPick_true (a b : AVal) : rPick (.bool true) a b = some a := rfl
@[simp] theorem rPick_false (a b : AVal) : rPick (.bool false) a b = some b := rfl
@[simp] theorem rLen_slice (a : Option (Nat × Nat × Nat)) (n c : Nat) : rLen (.slice a n c) = some (.int .i64 n) := rfl
@[simp] theorem rConvI_int (k q : IntKind) (n : Int) : rConvI k (.int q n) = some (.int k (k.wrap n)) := rfl
@[simp] theorem rBin_add (e : EqK) (c : Bool) (k : IntKind) (x y : Int) : rBin .add e c (.int k x) (.int k y) = some (.int k (k.wrap (x + y))) := by simp [rBin, aInt]
@[simp] theorem rBin_sub (e : EqK) (c : Bool) (k : IntKind) (x y : Int) : rBin .sub e c (.int k x) (.int k y) = some (.int k (k.wrap (x - y))) := by simp [rBin, aInt]
@[simp] theorem rBin_mul (e : EqK) (c : Bool) (k : IntKind) (x y : Int) : rBin .mul e c (.int k x) (.int k y) = some (.int k (k.wrap (x * y))) := by simp [rBin, aInt]
@[simp] theorem rBin_lss (e : EqK) (c : Bool) (k : IntKind) (x y : Int) : rBin .lss e c (.int k x) (.int k y) = some (.bool (decide (x < y))) := by simp [rBin, aInt]
@[simp] theorem rBin_leq (e : EqK) (c : Bool) (k : IntKind) (x y : Int) : rBin .leq e c (.int k x) (.int k y) = some (.bool (decide (x ≤ y))) := by simp [rBin, aInt]
@[simp] theorem rBin_gtr (e : EqK) (c : Bool) (k : IntKind) (x y : Int) : rBin .gtr e c (.int k x) (.int k y) = some (.bool (decide (x > y))) := by simp [rBin, aInt]
@[simp] theorem rBin_geq (e : EqK) (c : Bool) (k : IntKind) (x y : Int) : rBin .geq e c (.int k x) (.int k y) = some (.bool (decide (x ≥ y))) := by simp [rBin, aInt]
@[simp] theorem rBin_eql (e : EqK) (c : Bool) (k : IntKind) (x y : Int) : rBin .eql e c (.int k x) (.int k y) = some (.bool (decide (x = y))) := by
  simp [rBin, aInt]; rfl
@[simp] theorem rBin_neq (e : EqK) (c : Bool) (k : IntKind) (x y : Int) : rBin .neq e c (.int k x) (.int k y) = some (.bool (decide (x ≠ y))) := by
  simp [rBin, aInt]; by_cases h : x = y <;> simp [h]
@[simp] theorem rBin_or (e : EqK) (c : Bool) (k : IntKind) (x y : Int) : rBin .or e c (.int k x) (.int k y) = some (.int k (iOr k x y)) := by simp [rBin, aInt, bitsOp, iOr]
@[simp] theorem rBin_and (e : EqK) (c : Bool) (k : IntKind) (x y : Int) : rBin .and e c (.int k x) (.int k y) = some (.int k (iAnd k x y)) := by simp [rBin, aInt, bitsOp, iAnd]
@[simp] theorem rBin_xor (e : EqK) (c : Bool) (k : IntKind) (x y : Int) : rBin .xor e c (.int k x) (.int k y) = some (.int k (iXor k x y)) := by simp [rBin, aInt, bitsOp, iXor]
theorem rBin_shl (e : EqK) (c : Bool) (k q : IntKind) (x n : Int) : rBin .shl e c (.int k x) (.int q n) = if n < 0 then none else some (.int k (k.wrap (x * 2 ^ (min n.toNat k.bits)))) := by simp [rBin, aShift]
theorem rBin_shr (e : EqK) (c : Bool) (k q : IntKind) (x n : Int) : rBin .shr e c (.int k x) (.int q n) = if n < 0 then none else some (.int k (x.fdiv (2 ^ (min n.toNat k.bits)))) := by simp [rBin, aShift]
@[simp] theorem rBin_seql (e : EqK) (c : Bool) (x y : List UInt8) : rBin .eql e c (.str x) (.str y) = some (.bool (decide (x = y))) := by
  simp [rBin, aStr]; by_cases h : x = y <;> simp [h]
@[simp] theorem aUn_not (b : Bool) : aUn .not (.bool b) = some (.bool !b) := rfl

/-! ### Numbers -/
theorem wrap_u8 {n : Int} (h0 : 0 ≤ n) (h1 : n < 256) : IntKind.wrap .u8 n = n := by rw [IntKind.wrap_u8]; omega
theorem wrap_u16 {n : Int} (h0 : 0 ≤ n) (h1 : n < 65536) : IntKind.wrap .u16 n = n := by rw [IntKind.wrap_u16]; omega
theorem wrap_u32 {n : Int} (h0 : 0 ≤ n) (h1 : n < 4294967296) : IntKind.wrap .u32 n = n := by rw [IntKind.wrap_u32]; omega
theorem wrap_i64 {n : Int} (h0 : -9223372036854775808 ≤ n) (h1 : n < 9223372036854775808) : IntKind.wrap .i64 n = n := by rw [IntKind.wrap_i64]; omega
theorem ofInt_toNat {w n : Nat} (h : n < 2 ^ w) : (BitVec.ofInt w (n : Int)).toNat = n := by
  rw [BitVec.toNat_ofInt]
  have : ((n : Int) % ((2 ^ w : Nat) : Int)) = (n : Int) := Int.emod_eq_of_lt (Int.natCast_nonneg n) (by exact_mod_cast h)
  rw [this]; simp
/-- Two bytes, side by side. -/
theorem or_bytes {w a b : Nat} (hb : b < 256) (hw : a * 256 + b < 2 ^ w) : (BitVec.ofInt w ((a : Int) * 256) ||| BitVec.ofInt w (b : Int)).toNat = a * 256 + b := by
  rw [BitVec.toNat_or, show ((a : Int) * 256) = ((a * 256 : Nat) : Int) by simp, ofInt_toNat (Nat.lt_of_le_of_lt (Nat.le_add_right _ _) hw), ofInt_toNat (Nat.lt_of_le_of_lt (Nat.le_add_left _ _) hw)]
  have := Nat.shiftLeft_add_eq_or_of_lt (i := 8) (b := b) (by simpa using hb) a
  rw [Nat.shiftLeft_eq] at this
  simpa using this.symm
theorem iOr_bytes {k : IntKind} {a b : Nat} (hb : b < 256) (hw : a * 256 + b < 2 ^ k.bits) (hk : k.wrap ((a * 256 + b : Nat) : Int) = ((a * 256 + b : Nat) : Int)) : iOr k ((a : Int) * 256) (b : Int) = (a : Int) * 256 + b := by
  unfold iOr
  rw [or_bytes hb hw, hk]
  simp
end Go.Proofs.Ytfppdfmffdkogaa.AI
