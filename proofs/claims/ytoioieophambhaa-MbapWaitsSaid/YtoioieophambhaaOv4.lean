/- Chapter 4: the program is as the machine wants it; the chapter's example holds. -/
import Derived.Test.YtoioieophambhaaLaw4
import Derived.Test.YtoioieophambhaaAiRowH
import Derived.Test.YtoioieophambhaaRows
import Derived.WalkKit
import Derived.ProofKit
import Derived.OpenShut
import Derived.ShutString
import Derived.ChangeOld
import Derived.Below
import Derived.SizedLaws
namespace Go.Proofs.Ytoioieophambhaa
open Go Go.ChangeShapes Go.WideShapes Go.ChangeAt Go.RowKit Go.Proofs.Ytoioieophambhaa.AI
set_option linter.unusedVariables false
theorem own : ownKnob Try.prog.godebug = none := by kernel_rfl
theorem prog_ok : progOk Try.prog = true := by kernel_rfl
theorem known_runs : (kcall Try.prog [] (fun _ => none) 12 N_runglaw4_known [] AH.empty).map (·.1) = some (.bool true) := by kernel_rfl
def OV : AOver := fun f => if f = N_runglaw4_known then some knownAns else none
theorem ov_ok : OvSound Try.prog [] OV := by
  intro f g h
  unfold OV at h
  split at h
  · rename_i e
    simp only [Option.some.injEq] at h
    subst h e
    have hk := known_runs
    simp only [Option.map_eq_some_iff] at hk
    obtain ⟨⟨r, h1⟩, hk, e⟩ := hk
    simp only at e
    subst e
    exact closed_sound (kcall_sound (progOk_spec prog_ok) ovNone 12) hk
  · cases h
theorem ov4 : Ov4 OV := ⟨fun f hf => by unfold OV; rw [if_neg]; intro e; exact hf (by subst e; decide), by unfold OV; rw [if_pos rfl]⟩
theorem abs_bytes {H : Type} {k : Nat} : Abs Try.prog H (k + 2) 23 (rSl rU8 1) := abs_slice (e := 5) (by kernel_rfl) (by kernel_rfl) (by kernel_rfl) (by omega) (abs_u8 (by kernel_rfl) (by kernel_rfl))
theorem abs_int64 {H : Type} {k : Nat} : Abs Try.prog H (k + 1) 3 (rInt .i64) := abs_int (by kernel_rfl) (by kernel_rfl)
theorem abs_frame {H : Type} {k : Nat} : Abs Try.prog H (k + 3) 25 (rCons 1 (rInt .u16) (rCons 1 rU8 (rCons 1 (rSl rU8 1) rUnit))) :=
  abs_struct' Try.underlying25 (by kernel_rfl) (absF_cons (by kernel_rfl) (by kernel_rfl) (abs_int (by kernel_rfl) (by kernel_rfl)) (absF_cons (by kernel_rfl) (by kernel_rfl) (abs_u8 (by kernel_rfl) (by kernel_rfl)) (absF_cons (by kernel_rfl) (by kernel_rfl) abs_bytes absF_nil)))
/-- A frame's cells. -/
theorem frame_cells {h : AH} {c : List AVal} {id : Int} {un : UInt8} {l : List UInt8} {u : Unit} (r : rCons 1 (rInt .u16) (rCons 1 rU8 (rCons 1 (rSl rU8 1) rUnit)) h c (id, un, l, u)) :
    ∃ (id' un' : Nat) (v : AVal), id = id' ∧ c = [.int .u16 id', .int .u8 un', v] ∧ id' < 65536 ∧ un' < 256 ∧ Bs h v l .ro := by
  obtain ⟨⟨h1, h2, h3⟩, h4, h5, h6⟩ := r
  obtain ⟨v, e, s, _⟩ := rSl_bytes h5
  have m0 : IntKind.min .u16 = 0 := rfl
  have m1 : IntKind.max .u16 = 65535 := rfl
  simp only at h1 h2 h3
  refine ⟨id.toNat, un.toNat, v, by omega, ?_, by omega, un.toNat_lt, s⟩
  have e1 : ((id.toNat : Nat) : Int) = id := by omega
  rw [e1]
  have := (List.take_append_drop 1 c).symm
  rw [this, h1]
  have := (List.take_append_drop 1 (c.drop 1)).symm
  rw [this, show (c.drop 1).take 1 = _ from h4]
  have := (List.take_append_drop 1 ((c.drop 1).drop 1)).symm
  rw [this, show ((c.drop 1).drop 1).take 1 = _ from e, show ((c.drop 1).drop 1).drop 1 = [] from h6]
  rfl
end Go.Proofs.Ytoioieophambhaa
