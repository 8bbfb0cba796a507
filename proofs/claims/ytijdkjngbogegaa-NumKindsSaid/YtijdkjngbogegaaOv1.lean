/- Chapter 1: the program is as the machine wants it; the chapter's example holds. -/
import Derived.Test.YtijdkjngbogegaaLaw1c
import Derived.Test.YtijdkjngbogegaaAiRowH
import Derived.Test.YtijdkjngbogegaaRows
import Derived.WalkKit
import Derived.ProofKit
import Derived.OpenShut
import Derived.ShutString
import Derived.ChangeOld
import Derived.Below
import Derived.SizedLaws
namespace Go.Proofs.Ytijdkjngbogegaa
open Go Go.ChangeShapes Go.WideShapes Go.ChangeAt Go.RowKit Go.Proofs.Ytijdkjngbogegaa.AI
set_option linter.unusedVariables false
theorem own : ownKnob Try.prog.godebug = none := by kernel_rfl
theorem prog_ok : progOk Try.prog = true := by kernel_rfl
theorem known_runs : (kcall Try.prog [] (ovOf []) 12 N_runglaw1_known [] AH.empty).map (·.1) = some (.bool true) := by kernel_rfl
def OV : AOver := ovK N_runglaw1_known []
theorem ov_ok : OvSound Try.prog [] OV := ovK_sound (progOk_spec prog_ok) (fun p hp => by cases hp) (by kernel_rfl) known_runs
theorem ov_k : OV N_runglaw1_known = some knownYes := by unfold OV ovK; rw [if_pos rfl]
theorem ov_p : Plain OV := ovK_none (by decide) (by decide)
theorem abs_n {H : Type} {k : Nat} : Abs Try.prog H (k + 1) 3 (rInt .i64) := abs_int (by kernel_rfl) (by kernel_rfl)
theorem abs_m {H : Type} {k : Nat} : Abs Try.prog H (k + 1) 2 (rInt .i64) := abs_int (by kernel_rfl) (by kernel_rfl)
theorem abs_s {H : Type} {k : Nat} : Abs Try.prog H (k + 1) 9 rStr := abs_str (by kernel_rfl) (by kernel_rfl)
end Go.Proofs.Ytijdkjngbogegaa
