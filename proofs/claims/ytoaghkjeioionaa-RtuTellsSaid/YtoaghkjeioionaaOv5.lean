/- Chapter 5: the program is as the machine wants it; the chapter's example holds. -/
import Derived.Test.YtoaghkjeioionaaLaw5
import Derived.Test.YtoaghkjeioionaaAiRowH
import Derived.Test.YtoaghkjeioionaaRows
import Derived.WalkKit
import Derived.ProofKit
import Derived.OpenShut
import Derived.ShutString
import Derived.ChangeOld
import Derived.Below
import Derived.SizedLaws
namespace Go.Proofs.Ytoaghkjeioionaa
open Go Go.ChangeShapes Go.WideShapes Go.ChangeAt Go.RowKit Go.Proofs.Ytoaghkjeioionaa.AI
set_option linter.unusedVariables false
theorem own : ownKnob Try.prog.godebug = none := by kernel_rfl
theorem prog_ok : progOk Try.prog = true := by kernel_rfl
theorem known_runs : (kcall Try.prog [] (fun _ => none) 12 N_runglaw5_known [] AH.empty).map (·.1) = some (.bool true) := by kernel_rfl
def OV : AOver := fun f => if f = N_runglaw5_known then some knownAns else none
theorem ov_ok : OvSound Try.prog [] OV := by
  intro f g h
  unfold OV at h
  split at h
  · rename_i e
    simp only [Option.some.injEq] at h
    subst h e
    have hk := known_runs
    simp only [Option.map_eq_some_iff] at hk
    obtain ⟨⟨r, h1⟩, hk, e⟩ := hk
    simp only at e
    subst e
    exact closed_sound (kcall_sound (progOk_spec prog_ok) ovNone 12) (by kernel_rfl) hk
  · cases h
theorem ov5 : Ov5 OV := ⟨fun f hf => by unfold OV; rw [if_neg]; intro e; exact hf (by subst e; decide), by unfold OV; rw [if_pos rfl]⟩
theorem abs_bytes {H : Type} {k : Nat} : Abs Try.prog H (k + 2) 22 (rSl rU8 1) := abs_slice (e := 5) (by kernel_rfl) (by kernel_rfl) (by kernel_rfl) (by omega) (by kernel_rfl) (abs_u8 (by kernel_rfl) (by kernel_rfl))
theorem abs_int64 {H : Type} {k : Nat} : Abs Try.prog H (k + 1) 3 (rInt .i64) := abs_int (by kernel_rfl) (by kernel_rfl)
theorem abs_u16 {H : Type} {k : Nat} : Abs Try.prog H (k + 1) 36 (rInt .u16) := abs_int (by kernel_rfl) (by kernel_rfl)
end Go.Proofs.Ytoaghkjeioionaa
