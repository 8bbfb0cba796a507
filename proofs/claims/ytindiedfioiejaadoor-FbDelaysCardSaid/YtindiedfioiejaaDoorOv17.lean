/- Chapter 17: the program is as the machine wants it; the table that it reads. -/
import Derived.Test.YtindiedfioiejaaDoorF
import Derived.Test.YtindiedfioiejaaDoorAiRowD
import Derived.Test.YtindiedfioiejaaDoorFk
import Derived.Test.YtindiedfioiejaaDoorRows
import Derived.Test.YtindiedfioiejaaDoorCards
import Derived.Test.YtindiedfioiejaaDoorTie
import Derived.WalkKit
import Derived.ProofKit
import Derived.OpenShut
import Derived.ShutString
import Derived.ChangeOld
import Derived.Below
import Derived.SizedLaws
import Derived.LaidMore
import Derived.MakeChecks
import Derived.SevenTiedAt
import Derived.Stop.Joined
namespace Go.Proofs.YtindiedfioiejaaDoor
open Go Go.ChangeShapes Go.WideShapes Go.ChangeAt Go.RowKit Go.Proofs.YtindiedfioiejaaDoor.AI
set_option linter.unusedVariables false
theorem own : ownKnob Tryd.prog.godebug = none := by kernel_rfl
theorem prog_ok : progOk Tryd.prog = true := by kernel_rfl
def laid2 : List (String × DataW Unit) := [("unicode.White_Space", Rows.laid_unicode_White_Space), ("strings.asciiSpace", Rows.laid_strings_asciiSpace)]
theorem gSpace : Tryd.prog.globalNamed "strings.asciiSpace" = some 0 := by kernel_rfl
/-- The door's own heap meets the condition. -/
theorem door_met (os : Os) (args : Array Value) : laidMetH Tryd.prog laid2 ((World.doorLaid Tryd.prog 400 os).forCall (fun _ _ => 0) ⟨#[], args, []⟩).memory :=
  laidMetH_of_parts3 (fuel := 8) (laidMet_of_run' 8 (by kernel_rfl) (by kernel_rfl)) (by kernel_rfl) (by kernel_rfl)
/-- Which bytes are space. -/
def spaces : List Int := (List.range 256).map fun i => if i = 9 ∨ i = 10 ∨ i = 11 ∨ i = 12 ∨ i = 13 ∨ i = 32 then 1 else 0
theorem spaces_laid : Rows.laid_strings_asciiSpace = .agg (spaces.map fun x => (DataW.lit (.int .u8 x) : DataW Unit)) := by kernel_rfl
theorem of_laid {W : World} (h : laidMetH Tryd.prog laid2 W) : ∃ C e fr, W.heap[0]? = some (.cells C e fr) ∧ (spaces.map (AVal.int .u8)).length ≤ C.size ∧ ∀ μ, VRs μ (spaces.map (AVal.int .u8)) (C.toList.take (spaces.map (AVal.int .u8)).length) := by
  rw [MakeChecks.laidMetH_plain _ _ _ (by kernel_rfl)] at h
  obtain ⟨ps, ⟨g0, t0, cs0, f0, p0, q0, hg0, ht0, hv0, hd0, ⟨g1, t1, cs1, f1, p1, q1, hg1, ht1, hv1, hd1, _, _⟩, _⟩, _, _⟩ := h
  obtain rfl := Option.some.inj (gSpace.symm.trans hg1)
  obtain rfl := Option.some.inj ((show (Tryd.prog.globals[0]?).map (·.type) = some 97 by kernel_rfl).symm.trans ht1)
  simp only [World.var?, hg1, Option.bind_some] at hv1
  split at hv1
  · rename_i C e fr hb
    simp only [Option.some.injEq] at hv1
    subst hv1
    rw [spaces_laid] at hd1
    have hc := table_cells (ns := spaces) Tryd.underlying97 Tryd.underlying5 (by kernel_rfl) (by kernel_rfl) hd1
    have hl : C.size = 256 := by
      have := congrArg List.length hc
      simpa [spaces] using this
    refine ⟨C, e, fr, hb, by rw [hl]; simp [spaces], fun μ => ?_⟩
    rw [List.take_of_length_le (by rw [Array.length_toList, hl]; simp [spaces]), hc]
    have : ∀ l : List Int, VRs μ (l.map (AVal.int .u8)) (l.map fun x => Value.int .u8 x) := by
      intro l
      induction l with
      | nil => exact .nil
      | cons x l ih => exact .cons (.int _ _) ih
    exact this _
  · cases hv1
theorem wants_none {P : Program} {ts : Array TypeId} {j : Nat} {t : TypeId} (hall : (ts.all fun u => !P.wantsStandIn u) = true) (ht : ts[j]? = some t) : P.wantsStandIn t = false := by
  have := Array.all_eq_true'.1 hall t (Array.mem_of_getElem? ht)
  simpa using this
def OV : AOver := fun _ => none
theorem ov_p : Plain OV := fun _ _ => rfl
theorem ov_k : OV N_runglaw17_known = none := rfl
theorem ov_ok : OvSound Tryd.prog [0] OV := fun f a h => by cases h
theorem tb_of {h : AH} {el : TypeId} (g : h.get 0 = some ⟨.row (YtindiedfioiejaaDoor.spaces.map (AVal.int .u8)) el false, .ro, []⟩) : Tb h := ⟨el, by rw [g]; rfl⟩
theorem abs_n {H : Type} {k : Nat} : Abs Tryd.prog H (k + 1) 3 (rInt .i64) := abs_int (by kernel_rfl) (by kernel_rfl)
theorem abs_m {H : Type} {k : Nat} : Abs Tryd.prog H (k + 1) 2 (rInt .i64) := abs_int (by kernel_rfl) (by kernel_rfl)
theorem abs_s {H : Type} {k : Nat} : Abs Tryd.prog H (k + 1) 9 rStr := abs_str (by kernel_rfl) (by kernel_rfl)
theorem abs_ms {H : Type} {k : Nat} : Abs Tryd.prog H (k + 2) 22 (rSl (rInt .i64) 1) := abs_slice (e := 2) (by kernel_rfl) (by kernel_rfl) (by kernel_rfl) (by omega) (by kernel_rfl) abs_m
theorem abs_m3 {H : Type} {k : Nat} : Abs Tryd.prog H (k + 2) 23 (rArr (rInt .i64) 1 3) := abs_array (e := 2) (by kernel_rfl) (by kernel_rfl) (by kernel_rfl) abs_m
/-- A slice of numbers reads so. -/
theorem ms_of {h : AH} {v : AVal} {cs : List AVal} {xs : List Int} (s : Sz h v 1 xs.length cs .ro) (p : ∀ (i : Nat) x, xs[i]? = some x → rInt .i64 h ((cs.drop (i * 1)).take 1) x) : Si h v xs .ro ∧ I64s xs := by
  obtain ⟨e, hi⟩ := cells_ints (by rw [s.clen]; omega) p
  subst e
  exact ⟨s, fun x hx => ⟨(hi x hx).1, Int.lt_add_one_of_le (hi x hx).2⟩⟩
theorem m3_of {h : AH} {cs : List AVal} {xs : List Int} (r : rArr (rInt .i64) 1 3 h cs xs) : ∃ a b c, cs = k3 a b c ∧ I64 a ∧ I64 b ∧ I64 c := by
  obtain ⟨h1, h2, p⟩ := r
  obtain ⟨e, hi⟩ := cells_ints (by omega) p
  match xs, h1 with
  | [a, b, c], _ =>
    have hI : ∀ x ∈ [a, b, c], I64 x := fun x hx => ⟨(hi x hx).1, Int.lt_add_one_of_le (hi x hx).2⟩
    exact ⟨a, b, c, e, hI a (by simp), hI b (by simp), hI c (by simp)⟩
end Go.Proofs.YtindiedfioiejaaDoor
