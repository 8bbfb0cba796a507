/- Chapter 9: the program is as the machine wants it; the chapter's example holds. -/
import Derived.Test.YtbcpmbggidemdaaLaw9
import Derived.Test.YtbcpmbggidemdaaAiRowH
import Derived.Test.YtbcpmbggidemdaaRows
import Derived.WalkKit
import Derived.ProofKit
import Derived.OpenShut
import Derived.ShutString
import Derived.ChangeOld
import Derived.Below
import Derived.SizedLaws
namespace Go.Proofs.Ytbcpmbggidemdaa
open Go Go.ChangeShapes Go.WideShapes Go.ChangeAt Go.RowKit Go.Proofs.Ytbcpmbggidemdaa.AI
set_option linter.unusedVariables false
theorem own : ownKnob Try.prog.godebug = none := by kernel_rfl
theorem prog_ok : progOk Try.prog = true := by kernel_rfl
theorem wf_empty : Wf AH.empty := ⟨fun i b h => by simp [AH.empty, AH.get, Tr.get] at h, fun i b h => by simp [AH.empty, AH.get, Tr.get] at h⟩
def XL : List (Nat × (List AVal → AH → Ans)) := [(N_sync_atomic_AddUint64, (xAdd .u64)), (N_sync_atomic_LoadUint64, (xLoad .u64))]
theorem isx_sync_atomic_AddUint64 : IsX Try.prog N_sync_atomic_AddUint64 (Extern.Atomic.update (Op.intArith .add) .u64 true) := ⟨_, Try.func42, by kernel_rfl, by kernel_rfl, by kernel_rfl, by kernel_rfl⟩
theorem isx_sync_atomic_LoadUint64 : IsX Try.prog N_sync_atomic_LoadUint64 (Extern.Atomic.loadT (.int .u64)) := ⟨_, Try.func43, by kernel_rfl, by kernel_rfl, by kernel_rfl, by kernel_rfl⟩
theorem xl_ok : ∀ p ∈ XL, XSound Try.prog [] p.1 p.2 := by
  intro p hp
  simp only [XL, List.mem_cons, List.not_mem_nil, or_false] at hp
  rcases hp with rfl | rfl
  · exact xAdd_sound isx_sync_atomic_AddUint64
  · exact xLoad_sound isx_sync_atomic_LoadUint64
theorem known_runs : (kcall Try.prog [] (ovOf XL) 10 N_runglaw9_known [] AH.empty).map (·.1) = some (.bool true) := by
  obtain ⟨r, h, e, rfl⟩ := known_holds (ov := ovOf XL) ({ p := fun f hf => ovOf_none fun hm => hf ((show ∀ x ∈ XL.map (·.1), x ∈ OVS by decide) f hm), sync_atomic_AddUint64 := rfl, sync_atomic_LoadUint64 := rfl }) rfl 4 wf_empty
  rw [e]; rfl
def OV : AOver := ovK N_runglaw9_known XL
theorem ov_ok : OvSound Try.prog [] OV := ovK_sound (progOk_spec prog_ok) xl_ok (by kernel_rfl) known_runs
theorem ov_k : OV N_runglaw9_known = some knownYes := by unfold OV ovK; rw [if_pos rfl]
theorem ov_x : Xs OV where
  p := ovK_none (by decide) (by decide)
  sync_atomic_AddUint64 := rfl
  sync_atomic_LoadUint64 := rfl

theorem abs_n {H : Type} {k : Nat} : Abs Try.prog H (k + 1) 3 (rInt .i64) := abs_int (by kernel_rfl) (by kernel_rfl)
theorem abs_ns {H : Type} {k : Nat} : Abs Try.prog H (k + 2) 47 (rSl (rInt .i64) 1) := abs_slice (e := 3) (by kernel_rfl) (by kernel_rfl) (by kernel_rfl) (by omega) (by kernel_rfl) abs_n
theorem abs_x {H : Type} {k : Nat} : Abs Try.prog H (k + 1) 5 rU8 := abs_u8 (by kernel_rfl) (by kernel_rfl)
theorem abs_t {H : Type} {k : Nat} : Abs Try.prog H (k + 1) 4 rBool := abs_bool (by kernel_rfl) (by kernel_rfl)
abbrev rStep := rCons 1 (rInt .i64) (rCons 1 (rInt .i64) (rCons 1 (rInt .i64) rUnit))
theorem abs_steps {H : Type} {k : Nat} : Abs Try.prog H (k + 5) 41 (rSl rStep 3) :=
  abs_slice (e := 43) (by kernel_rfl) (by kernel_rfl) (by kernel_rfl) (by omega) (by kernel_rfl)
    (abs_struct' (hu := Try.underlying43) (by kernel_rfl) (absF_cons rfl (by kernel_rfl) abs_n (absF_cons rfl (by kernel_rfl) abs_n (absF_cons rfl (by kernel_rfl) abs_n absF_nil))))
end Go.Proofs.Ytbcpmbggidemdaa
