/-AUTOIF-/
/- num.Apply, by its operators. -/
import Derived.Test.YtindiedfioiejaaDoorNum
import Derived.Test.YtindiedfioiejaaDoorAiLib5
namespace Go.Proofs.YtindiedfioiejaaDoor.AI
open Go
set_option linter.unusedSimpArgs false
set_option linter.unusedVariables false
variable {ov : AOver} {h : AH}
def I64 (x : Int) : Prop := -9223372036854775808 ≤ x ∧ x < 9223372036854775808
theorem wrapM_I64 (k x : Int) : I64 (wrapM k x) := by have := wrapM_big k x; unfold I64; omega
theorem wrap_I64 (x : Int) : I64 (IntKind.wrap .i64 x) := by rw [IntKind.wrap_i64]; unfold I64; omega
theorem aUn_neg (k : IntKind) (x : Int) : aUn .neg (.int k x) = some (.int k (k.wrap (0 - x))) := rfl
theorem aUn_xor64 (x : Int) : aUn .xor (.int .i64 x) = some (.int .i64 (iXor .i64 (-1) x)) := rfl
theorem ok_of {k : Int} (hk : 1 ≤ k ∧ k ≤ 11) : (kdM k).ok = true := by rw [kdM_ok, decide_eq_true hk]
theorem tdivB (k a b : Int) : -4294967296 ≤ (wrapM k a).tdiv (wrapM k b) ∧ (wrapM k a).tdiv (wrapM k b) ≤ 4294967296 := by
  have hA := wrapM_big k a
  have h1 : ((wrapM k a).tdiv (wrapM k b)).natAbs = (wrapM k a).natAbs / (wrapM k b).natAbs := Int.natAbs_tdiv _ _
  have h2 := Nat.div_le_self (wrapM k a).natAbs (wrapM k b).natAbs
  generalize (wrapM k a).natAbs / (wrapM k b).natAbs = z at h1 h2
  omega
theorem tmodB (k a b : Int) : -4294967296 ≤ (wrapM k a).tmod (wrapM k b) ∧ (wrapM k a).tmod (wrapM k b) ≤ 4294967296 := by
  have hA := wrapM_big k a
  have h1 : ((wrapM k a).tmod (wrapM k b)).natAbs = (wrapM k a).natAbs % (wrapM k b).natAbs := Int.natAbs_tmod _ _
  have h2 := Nat.mod_le (wrapM k a).natAbs (wrapM k b).natAbs
  generalize (wrapM k a).natAbs % (wrapM k b).natAbs = z at h1 h2
  omega
/-- What an operator of two numbers comes to. -/
def ApQ (h h' : AH) (r : AVal) (x e : Int) : Prop := Kp h h' ∧ r = .tuple [.int .i64 x, .int .i64 e]
def trM (b : Bool) : Int := if b then 1 else 0
def CmQ (h h' : AH) (r : AVal) (b : Bool) : Prop := h' = h ∧ r = .int .i64 (trM b)
end Go.Proofs.YtindiedfioiejaaDoor.AI
