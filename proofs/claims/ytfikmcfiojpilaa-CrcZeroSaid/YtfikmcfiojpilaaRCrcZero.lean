/- A text with its own sum behind it, the lower byte first, has the sum 0: the law CrcZero returns true at every input, and leaves it as it was. No condition. -/
import Derived.Test.YtfikmcfiojpilaaOv2
namespace Go.Proofs.Ytfikmcfiojpilaa
open Go Go.ChangeShapes Go.WideShapes Go.ChangeAt Go.RowKit Go.Proofs.Ytfikmcfiojpilaa.AI
set_option linter.unusedVariables false
set_option maxRecDepth 100000 in
theorem crcZero_lifted (os : Os) (started : os.Started) (H : Type) (enc : TypeId × Value → H) :
    ReturnsInHanded {} Try.checked os 5 .any (Rows.crcZeroSpec.pre6 enc Try.prog Try.f5 Rows.crcZeroRow.domain false) (Rows.crcZeroSpec.post enc Try.prog Try.f5 false true false false) := by
  refine returnsInHanded_of_change_sized (C := Try.checked) own started (by kernel_rfl) Try.func5
    (ChangeSpec.witness6 (enc := enc) (C := Try.checked) false ⟨#[], #[.slice none 0 0], []⟩ 8 (by kernel_rfl) (by kernel_rfl) (by kernel_rfl) (by kernel_rfl)) ?_
  intro W base args ds gs before hval0 hW hcnd hsz0 _
  have hW' := hW
  obtain ⟨p, q, hA, hV, rfl, hfz, hnd⟩ := hW
  obtain ⟨rfl, rfl⟩ := trodVars_none hV
  rw [Try.params5] at hA hval0
  refine (law_returns (n := 12) (progOk_spec prog_ok) (by kernel_rfl) ov_ok (fun j t v h1 h2 => hval0 j t v (by simpa using h1) (by simpa using h2)) hA (by rw [Try.params5, show DataSpec.varTypes Try.checked.prog Rows.crcZeroSpec.plain = [] from rfl, List.append_nil, List.append_nil] at hsz0; exact hsz0) (absAs_cons abs_bytes absAs_nil) ?_).mono fun e W' ⟨he, bel⟩ => ?_
  · rintro h _ ⟨l, _⟩ ro ⟨c, r, rfl, h1, rfl⟩
    obtain ⟨v, rfl, s, _⟩ := rSl_bytes h1
    simp only [absV_one (P := Try.prog) (t := 22) (by decide)]
    have := crcZero ov_x ov_k 9 ro.w s
    exact this
  · subst he
    obtain ⟨d, rfl⟩ := tds1 (tds_of_trodAll 1 hA)
    exact ⟨_, rfl, _, _, _, [], _, [], hW', trodAll_mk1 (shut_bool Try.underlying4 _), trodAll_below (by kernel_rfl) bel (by kernel_rfl) hA (DataW.TrodAll.lt hA), rfl, bel.frame _, fun h => by cases h⟩
/-- The statement CrcZero. -/
theorem crcZero_proved : Rows.CrcZeroSaid :=
  OpenClaim.holds_of_wide 5 Try.f5 rfl rfl rfl rfl rfl rfl rfl ⟨rfl, rfl, rfl, rfl, rfl⟩ rfl rfl rfl rfl rfl (by kernel_rfl) Try.func5 (by kernel_rfl)
    (of_decide_eq_true (by kernel_rfl)) (by unfold Func.isWrapper; first | (rw [if_pos (by decide +kernel)]; kernel_rfl) | (rw [if_neg (by decide +kernel)]; exact ⟨rfl, rfl⟩))
    (fun os started H enc _ => crcZero_lifted os started H enc)
#print axioms crcZero_proved
end Go.Proofs.Ytfikmcfiojpilaa
