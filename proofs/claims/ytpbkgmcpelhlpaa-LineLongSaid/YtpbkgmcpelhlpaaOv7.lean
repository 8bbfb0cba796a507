/- Chapter 7: the program is as the machine wants it; the chapter's example holds. -/
import Derived.Test.YtpbkgmcpelhlpaaLaw7
import Derived.Test.YtpbkgmcpelhlpaaAiRowH
import Derived.Test.YtpbkgmcpelhlpaaRows
import Derived.WalkKit
import Derived.ProofKit
import Derived.OpenShut
import Derived.ShutString
import Derived.ChangeOld
import Derived.Below
import Derived.SizedLaws
namespace Go.Proofs.Ytpbkgmcpelhlpaa
open Go Go.ChangeShapes Go.WideShapes Go.ChangeAt Go.RowKit Go.Proofs.Ytpbkgmcpelhlpaa.AI
set_option linter.unusedVariables false
theorem own : ownKnob Try.prog.godebug = none := by kernel_rfl
theorem prog_ok : progOk Try.prog = true := by kernel_rfl
theorem known_runs : (kcall Try.prog [] (ovOf []) 12 N_runglaw7_known [] AH.empty).map (·.1) = some (.bool true) := by kernel_rfl
def OV : AOver := ovK N_runglaw7_known []
theorem ov_ok : OvSound Try.prog [] OV := ovK_sound (progOk_spec prog_ok) (fun p hp => by cases hp) (by kernel_rfl) known_runs
theorem ov_k : OV N_runglaw7_known = some knownYes := by unfold OV ovK; rw [if_pos rfl]
theorem ov_p : Plain OV := ovK_none (by decide) (by decide)
theorem abs_bytes {H : Type} {k : Nat} : Abs Try.prog H (k + 2) 24 (rSl rU8 1) := abs_slice (e := 5) (by kernel_rfl) (by kernel_rfl) (by kernel_rfl) (by omega) (by kernel_rfl) (abs_u8 (by kernel_rfl) (by kernel_rfl))
theorem abs_texts {H : Type} {k : Nat} : Abs Try.prog H (k + 3) 43 (rSl (rSl rU8 1) 1) := abs_slice (e := 24) (by kernel_rfl) (by kernel_rfl) (by kernel_rfl) (by omega) (by kernel_rfl) abs_bytes
theorem abs_int64 {H : Type} {k : Nat} : Abs Try.prog H (k + 1) 3 (rInt .i64) := abs_int (by kernel_rfl) (by kernel_rfl)
theorem abs_byte {H : Type} {k : Nat} : Abs Try.prog H (k + 1) 5 rU8 := abs_u8 (by kernel_rfl) (by kernel_rfl)
theorem texts_at {h : AH} {cs : List AVal} {xs : List (List UInt8)} (hl : cs.length = xs.length * 1) (p : ∀ (i : Nat) x, xs[i]? = some x → rSl rU8 1 h ((cs.drop (i * 1)).take 1) x) : BsL h cs xs := by
  refine ⟨by omega, fun i l hi => ?_⟩
  obtain ⟨v, e, s, hm⟩ := rSl_bytes (p i l hi)
  have hr : reachBytes ≤ 2 ^ 48 := by decide
  refine ⟨v, ?_, s, Nat.le_trans hm hr⟩
  have := congrArg (fun x => x[0]?) e
  simpa using this
end Go.Proofs.Ytpbkgmcpelhlpaa
