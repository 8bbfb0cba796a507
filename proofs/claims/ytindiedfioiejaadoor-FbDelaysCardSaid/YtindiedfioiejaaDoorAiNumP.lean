/- The scalar kinds: plain facts of them. -/
import Derived.Test.YtindiedfioiejaaDoorAiLib5
import Derived.Laws.Bits64
import Derived.Laws.BitsLemmas
namespace Go.Proofs.YtindiedfioiejaaDoor.AI
open Go
set_option linter.unusedSimpArgs false
set_option linter.unusedVariables false

structure Kd where
  nm : List UInt8
  w : Nat
  sg : Bool
  bits : Bool
  ok : Bool
def kdM (k : Int) : Kd :=
  if k = 1 then ⟨[66, 79, 79, 76], 1, false, true, true⟩ else
  if k = 2 then ⟨[83, 73, 78, 84], 8, true, false, true⟩ else
  if k = 3 then ⟨[73, 78, 84], 16, true, false, true⟩ else
  if k = 4 then ⟨[68, 73, 78, 84], 32, true, false, true⟩ else
  if k = 5 then ⟨[85, 83, 73, 78, 84], 8, false, false, true⟩ else
  if k = 6 then ⟨[85, 73, 78, 84], 16, false, false, true⟩ else
  if k = 7 then ⟨[85, 68, 73, 78, 84], 32, false, false, true⟩ else
  if k = 8 then ⟨[66, 89, 84, 69], 8, false, true, true⟩ else
  if k = 9 then ⟨[87, 79, 82, 68], 16, false, true, true⟩ else
  if k = 10 then ⟨[68, 87, 79, 82, 68], 32, false, true, true⟩ else
  if k = 11 then ⟨[84, 73, 77, 69], 32, true, false, true⟩ else ⟨[], 0, false, false, false⟩
def wrapM (k n : Int) : Int :=
  if k = 1 then (if n = 0 then 0 else 1) else
  if k = 2 then (n + 128) % 256 - 128 else
  if k = 3 then (n + 32768) % 65536 - 32768 else
  if k = 4 ∨ k = 11 then (n + 2147483648) % 4294967296 - 2147483648 else
  if k = 5 ∨ k = 8 then n % 256 else
  if k = 6 ∨ k = 9 then n % 65536 else
  if k = 7 ∨ k = 10 then n % 4294967296 else 0
theorem kcases (k : Int) : k = 1 ∨ k = 2 ∨ k = 3 ∨ k = 4 ∨ k = 5 ∨ k = 6 ∨ k = 7 ∨ k = 8 ∨ k = 9 ∨ k = 10 ∨ k = 11 ∨ (kdM k = ⟨[], 0, false, false, false⟩ ∧ (∀ n, wrapM k n = 0) ∧ (k < 1 ∨ 11 < k)) := by
  by_cases h : 1 ≤ k ∧ k ≤ 11
  · omega
  · refine .inr (.inr (.inr (.inr (.inr (.inr (.inr (.inr (.inr (.inr (.inr ⟨?_, fun n => ?_, by omega⟩))))))))))
    · unfold kdM
      rw [if_neg (by omega), if_neg (by omega), if_neg (by omega), if_neg (by omega), if_neg (by omega), if_neg (by omega), if_neg (by omega), if_neg (by omega), if_neg (by omega), if_neg (by omega), if_neg (by omega)]
    · unfold wrapM
      rw [if_neg (by omega), if_neg (by omega), if_neg (by omega), if_neg (by omega), if_neg (by omega), if_neg (by omega), if_neg (by omega)]
theorem kdM_ok (k : Int) : (kdM k).ok = decide (1 ≤ k ∧ k ≤ 11) := by
  rcases kcases k with rfl | rfl | rfl | rfl | rfl | rfl | rfl | rfl | rfl | rfl | rfl | ⟨e, _, h⟩
  all_goals first | rfl | skip
  rw [e]; symm; rw [decide_eq_false_iff_not]; omega
/-- Shifts up and down again. -/
theorem shl_n64 (c : Bool) (e : EqK) (n : Int) (m : Nat) (hm : m ≤ 64) : rBin .shl e c (.int .i64 n) (.int .u64 m) = some (.int .i64 (IntKind.wrap .i64 (n * 2 ^ m))) := by
  simp only [rBin, aShift]
  rw [if_neg (by omega), Int.toNat_natCast, show min m IntKind.i64.bits = m from Nat.min_eq_left hm]
theorem shr_n64 (c : Bool) (e : EqK) (n : Int) (m : Nat) (hm : m ≤ 64) : rBin .shr e c (.int .i64 n) (.int .u64 m) = some (.int .i64 (n / 2 ^ m)) := by
  simp only [rBin, aShift]
  rw [if_neg (by omega), Int.toNat_natCast, show min m IntKind.i64.bits = m from Nat.min_eq_left hm, Int.fdiv_eq_ediv_of_nonneg _ (by exact Int.pow_nonneg (by omega))]
theorem ww8 (n : Int) : IntKind.wrap .i64 (n * 72057594037927936) / 72057594037927936 = (n + 128) % 256 - 128 := by rw [IntKind.wrap_i64]; omega
theorem ww16 (n : Int) : IntKind.wrap .i64 (n * 281474976710656) / 281474976710656 = (n + 32768) % 65536 - 32768 := by rw [IntKind.wrap_i64]; omega
theorem ww32 (n : Int) : IntKind.wrap .i64 (n * 4294967296) / 4294967296 = (n + 2147483648) % 4294967296 - 2147483648 := by rw [IntKind.wrap_i64]; omega
theorem wu8 (n : Int) : IntKind.wrap .u64 (IntKind.wrap .u64 n * 72057594037927936) / 72057594037927936 = n % 256 := by rw [IntKind.wrap_u64, IntKind.wrap_u64]; omega
theorem wu16 (n : Int) : IntKind.wrap .u64 (IntKind.wrap .u64 n * 281474976710656) / 281474976710656 = n % 65536 := by rw [IntKind.wrap_u64, IntKind.wrap_u64]; omega
theorem wu32 (n : Int) : IntKind.wrap .u64 (IntKind.wrap .u64 n * 4294967296) / 4294967296 = n % 4294967296 := by rw [IntKind.wrap_u64, IntKind.wrap_u64]; omega

/-! Numbers modulo two to the width. -/
def modM (k : Int) : Int := 2 ^ (kdM k).w
theorem wrapM_cases {P : Int → (Int → Int) → Prop} (k : Int) (h2 : 2 ≤ k ∧ k ≤ 11)
    (s8 : P 256 fun n => (n + 128) % 256 - 128) (s16 : P 65536 fun n => (n + 32768) % 65536 - 32768) (s32 : P 4294967296 fun n => (n + 2147483648) % 4294967296 - 2147483648)
    (u8 : P 256 fun n => n % 256) (u16 : P 65536 fun n => n % 65536) (u32 : P 4294967296 fun n => n % 4294967296) : P (modM k) (wrapM k) := by
  rcases kcases k with rfl | rfl | rfl | rfl | rfl | rfl | rfl | rfl | rfl | rfl | rfl | ⟨_, _, h⟩
  all_goals first | exact absurd h2 (by decide) | exact s8 | exact s16 | exact s32 | exact u8 | exact u16 | exact u32 | omega
theorem wrapM_emod (k : Int) (h2 : 2 ≤ k ∧ k ≤ 11) : ∀ n, wrapM k n % modM k = n % modM k := by
  refine wrapM_cases (P := fun m f => ∀ n, f n % m = n % m) k h2 ?_ ?_ ?_ ?_ ?_ ?_ <;> intro n <;> simp only <;> omega
theorem wrapM_congr (k : Int) (h2 : 2 ≤ k ∧ k ≤ 11) : ∀ x y, x % modM k = y % modM k → wrapM k x = wrapM k y := by
  refine wrapM_cases (P := fun m f => ∀ x y, x % m = y % m → f x = f y) k h2 ?_ ?_ ?_ ?_ ?_ ?_ <;> intro x y h <;> simp only <;> omega
theorem wrapM_wrapM (k : Int) (n : Int) : wrapM k (wrapM k n) = wrapM k n := by
  rcases kcases k with rfl | rfl | rfl | rfl | rfl | rfl | rfl | rfl | rfl | rfl | rfl | ⟨_, e, _⟩
  · by_cases h : n = 0 <;> simp [wrapM, h]
  all_goals first | exact wrapM_congr _ (by decide) _ _ (wrapM_emod _ (by decide) n) | rw [e, e]
/-- The bounds of a kind. -/
def loM (k : Int) : Int := if (kdM k).sg then -(2 ^ ((kdM k).w - 1)) else 0
def hiM (k : Int) : Int := if (kdM k).ok then (if (kdM k).sg then 2 ^ ((kdM k).w - 1) - 1 else 2 ^ (kdM k).w - 1) else 0
theorem wrapM_range (k n : Int) : loM k ≤ wrapM k n ∧ wrapM k n ≤ hiM k := by
  rcases kcases k with rfl | rfl | rfl | rfl | rfl | rfl | rfl | rfl | rfl | rfl | rfl | ⟨e0, e, _⟩
  · by_cases h : n = 0 <;> simp [wrapM, h] <;> decide
  all_goals first
    | (rw [e]; simp [loM, hiM, e0]; done)
    | (simp [wrapM, loM, hiM, kdM]; omega)
theorem wrapM_big (k n : Int) : -2147483648 ≤ wrapM k n ∧ wrapM k n ≤ 4294967295 := by
  rcases kcases k with rfl | rfl | rfl | rfl | rfl | rfl | rfl | rfl | rfl | rfl | rfl | ⟨e0, e, _⟩
  · by_cases h : n = 0 <;> simp [wrapM, h]
  all_goals first
    | (rw [e]; omega)
    | (simp only [wrapM, Int.reduceEq, if_false, if_true, or_false, false_or, or_true, true_or, or_self]; omega)
end Go.Proofs.YtindiedfioiejaaDoor.AI
