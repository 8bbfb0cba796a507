/- Chapter 6: the program is as the machine wants it; the chapter's example holds. -/
import Derived.Test.YtfnmgclalcoplaaLaw6b
import Derived.Test.YtfnmgclalcoplaaAiRowH
import Derived.Test.YtfnmgclalcoplaaRows
import Derived.WalkKit
import Derived.ProofKit
import Derived.OpenShut
import Derived.ShutString
import Derived.ChangeOld
import Derived.Below
import Derived.SizedLaws
namespace Go.Proofs.Ytfnmgclalcoplaa
open Go Go.ChangeShapes Go.WideShapes Go.ChangeAt Go.RowKit Go.Proofs.Ytfnmgclalcoplaa.AI
set_option linter.unusedVariables false
theorem own : ownKnob Try.prog.godebug = none := by kernel_rfl
theorem prog_ok : progOk Try.prog = true := by kernel_rfl
def OVX : AOver := fun f => if f = N_sync_atomic_AddUint64 then some (xAdd .u64) else if f = N_sync_atomic_LoadUint64 then some (xLoad .u64) else none
theorem isx_add : IsX Try.prog N_sync_atomic_AddUint64 (Extern.Atomic.update (Op.intArith .add) .u64 true) := ⟨_, Try.func27, by kernel_rfl, by kernel_rfl, by kernel_rfl, by kernel_rfl⟩
theorem isx_load : IsX Try.prog N_sync_atomic_LoadUint64 (Extern.Atomic.loadT (.int .u64)) := ⟨_, Try.func28, by kernel_rfl, by kernel_rfl, by kernel_rfl, by kernel_rfl⟩
theorem ovx_ok : OvSound Try.prog [] OVX := by
  intro f g h
  unfold OVX at h
  split at h
  · rename_i e; subst e; cases h; exact xAdd_sound isx_add
  · split at h
    · rename_i e; subst e; cases h; exact xLoad_sound isx_load
    · cases h
theorem known_runs : (kcall Try.prog [] OVX 12 N_runglaw6_known [] AH.empty).map (·.1) = some (.bool true) := by kernel_rfl
def OV : AOver := fun f => if f = N_runglaw6_known then some knownAns else OVX f
theorem ov_ok : OvSound Try.prog [] OV := by
  intro f g h
  unfold OV at h
  split at h
  · rename_i e
    simp only [Option.some.injEq] at h
    subst h e
    have hk := known_runs
    simp only [Option.map_eq_some_iff] at hk
    obtain ⟨⟨r, h1⟩, hk, e⟩ := hk
    simp only at e
    subst e
    exact closed_sound (kcall_sound (progOk_spec prog_ok) ovx_ok 12) (by kernel_rfl) hk
  · exact ovx_ok f g h
theorem ov6 : Ov6 OV := ⟨fun f hf => by
    unfold OV; rw [if_neg (by intro e; exact hf (by subst e; decide))]
    unfold OVX; rw [if_neg (by intro e; exact hf (by subst e; decide)), if_neg (by intro e; exact hf (by subst e; decide))],
  by unfold OV; rw [if_pos rfl], by unfold OV; rw [if_neg (by decide)]; unfold OVX; rw [if_pos rfl], by unfold OV; rw [if_neg (by decide)]; unfold OVX; rw [if_neg (by decide), if_pos rfl]⟩
theorem abs_bytes {H : Type} {k : Nat} : Abs Try.prog H (k + 2) 22 (rSl rU8 1) := abs_slice (e := 5) (by kernel_rfl) (by kernel_rfl) (by kernel_rfl) (by omega) (by kernel_rfl) (abs_u8 (by kernel_rfl) (by kernel_rfl))
theorem abs_texts {H : Type} {k : Nat} : Abs Try.prog H (k + 3) 34 (rSl (rSl rU8 1) 1) := abs_slice (e := 22) (by kernel_rfl) (by kernel_rfl) (by kernel_rfl) (by omega) (by kernel_rfl) abs_bytes
abbrev rFrm := rCons 1 (rInt .u16) (rCons 1 rU8 (rCons 1 (rSl rU8 1) rUnit))
theorem abs_frames {H : Type} {k : Nat} : Abs Try.prog H (k + 4) 24 (rSl rFrm 3) :=
  abs_slice (e := 29) (by kernel_rfl) (by kernel_rfl) (by kernel_rfl) (by omega) (by kernel_rfl)
    (abs_struct' (hu := Try.underlying29) (by kernel_rfl) (absF_cons (by kernel_rfl) (by kernel_rfl) (abs_int (by kernel_rfl) (by kernel_rfl)) (absF_cons (by kernel_rfl) (by kernel_rfl) (abs_u8 (by kernel_rfl) (by kernel_rfl)) (absF_cons (by kernel_rfl) (by kernel_rfl) abs_bytes absF_nil))))
def toFrm (x : Int × UInt8 × List UInt8 × Unit) : Frm := (x.1.toNat, x.2.1.toNat, x.2.2.1)
/-- A frame's cells. -/
theorem frm_cells {h : AH} {c : List AVal} {x : Int × UInt8 × List UInt8 × Unit} (r : rFrm h c x) :
    ∃ v, c = [.int .u16 (toFrm x).1, .int .u8 (toFrm x).2.1, v] ∧ (toFrm x).1 < 65536 ∧ (toFrm x).2.1 < 256 ∧ Bs h v (toFrm x).2.2 .ro := by
  obtain ⟨⟨h1, h2, h3⟩, h4, h5, h6⟩ := r
  obtain ⟨v, e, s, _⟩ := rSl_bytes h5
  have m0 : IntKind.min .u16 = 0 := rfl
  have m1 : IntKind.max .u16 = 65535 := rfl
  obtain ⟨id, un, l, u⟩ := x
  simp only at h1 h2 h3
  refine ⟨v, ?_, by simp only [toFrm]; omega, un.toNat_lt, s⟩
  simp only [toFrm]
  have e1 : ((id.toNat : Nat) : Int) = id := by omega
  rw [e1]
  have := (List.take_append_drop 1 c).symm
  rw [this, h1]
  have := (List.take_append_drop 1 (c.drop 1)).symm
  rw [this, show (c.drop 1).take 1 = _ from h4]
  have := (List.take_append_drop 1 ((c.drop 1).drop 1)).symm
  rw [this, show ((c.drop 1).drop 1).take 1 = _ from e, show ((c.drop 1).drop 1).drop 1 = [] from h6]
  rfl
end Go.Proofs.Ytfnmgclalcoplaa
