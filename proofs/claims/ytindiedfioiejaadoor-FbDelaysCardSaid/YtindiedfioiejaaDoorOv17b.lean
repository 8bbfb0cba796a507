/- Chapter 17: more arguments. -/
import Derived.Test.YtindiedfioiejaaDoorOv17
import Derived.Test.YtindiedfioiejaaDoorFh
namespace Go.Proofs.YtindiedfioiejaaDoor
open Go Go.ChangeShapes Go.WideShapes Go.ChangeAt Go.RowKit Go.Proofs.YtindiedfioiejaaDoor.AI
set_option linter.unusedVariables false
theorem abs_b {H : Type} {k : Nat} : Abs Tryd.prog H (k + 1) 4 rBool := abs_bool (by kernel_rfl) (by kernel_rfl)
theorem abs_bs {H : Type} {k : Nat} : Abs Tryd.prog H (k + 2) 32 (rSl rBool 1) := abs_slice (e := 4) (by kernel_rfl) (by kernel_rfl) (by kernel_rfl) (by omega) (by kernel_rfl) abs_b
theorem abs_us {H : Type} {k : Nat} : Abs Tryd.prog H (k + 2) 33 (rSl (rInt .u16) 1) := abs_slice (e := 36) (by kernel_rfl) (by kernel_rfl) (by kernel_rfl) (by omega) (by kernel_rfl) (abs_int (by kernel_rfl) (by kernel_rfl))
theorem abs_ws {H : Type} {k : Nat} : Abs Tryd.prog H (k + 2) 52 (rSl (rInt .u32) 1) := abs_slice (e := 53) (by kernel_rfl) (by kernel_rfl) (by kernel_rfl) (by omega) (by kernel_rfl) (abs_int (by kernel_rfl) (by kernel_rfl))
theorem abs_ys {H : Type} {k : Nat} : Abs Tryd.prog H (k + 2) 40 (rSl (rInt .u8) 1) := abs_slice (e := 5) (by kernel_rfl) (by kernel_rfl) (by kernel_rfl) (by omega) (by kernel_rfl) (abs_int (by kernel_rfl) (by kernel_rfl))
theorem abs_y {H : Type} {k : Nat} : Abs Tryd.prog H (k + 1) 5 (rInt .u8) := abs_int (by kernel_rfl) (by kernel_rfl)
theorem abs_b2 {H : Type} {k : Nat} : Abs Tryd.prog H (k + 3) 45 (rSl (rArr rBool 1 2) 2) := abs_slice (e := 46) (by kernel_rfl) (by kernel_rfl) (by kernel_rfl) (by omega) (by kernel_rfl) (abs_array (e := 4) (by kernel_rfl) (by kernel_rfl) (by kernel_rfl) abs_b)
theorem abs_b3 {H : Type} {k : Nat} : Abs Tryd.prog H (k + 3) 42 (rSl (rArr rBool 1 3) 3) := abs_slice (e := 43) (by kernel_rfl) (by kernel_rfl) (by kernel_rfl) (by omega) (by kernel_rfl) (abs_array (e := 4) (by kernel_rfl) (by kernel_rfl) (by kernel_rfl) abs_b)
theorem abs_b4 {H : Type} {k : Nat} : Abs Tryd.prog H (k + 3) 49 (rSl (rArr rBool 1 4) 4) := abs_slice (e := 50) (by kernel_rfl) (by kernel_rfl) (by kernel_rfl) (by omega) (by kernel_rfl) (abs_array (e := 4) (by kernel_rfl) (by kernel_rfl) (by kernel_rfl) abs_b)
theorem bt_of {h : AH} {v : AVal} {k : Nat} {cs : List AVal} {xs : List (List Bool)} (s : Sz h v k xs.length cs .ro) (p : ∀ (i : Nat) x, xs[i]? = some x → rArr rBool 1 k h ((cs.drop (i * k)).take k) x) : Bt h v k xs.length fun i j => (xs.getD i []).getD j false := by
  refine ⟨cs, s, fun i j hi hj => ?_⟩
  obtain ⟨h1, h2, h3⟩ := p i _ (List.getElem?_eq_getElem hi)
  have hj' : j < (xs[i]).length := by omega
  have h4 := h3 j _ (List.getElem?_eq_getElem hj')
  have h5 := congrArg (fun l => l[0]?) h4
  simp only [Nat.mul_one, List.getElem?_take_of_lt (show 0 < 1 by omega), List.getElem?_drop, Nat.add_zero, List.getElem?_cons_zero] at h5
  rw [List.getElem?_take_of_lt hj, List.getElem?_drop] at h5
  rw [h5]
  simp [hi, hj']
end Go.Proofs.YtindiedfioiejaaDoor
