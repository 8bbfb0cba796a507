/- The law NumKinds returns true at every input, and leaves it as it was. No condition. -/
import Derived.Test.YtijdkjngbogegaaOv1
namespace Go.Proofs.Ytijdkjngbogegaa
open Go Go.ChangeShapes Go.WideShapes Go.ChangeAt Go.RowKit Go.Proofs.Ytijdkjngbogegaa.AI
set_option linter.unusedVariables false
set_option maxRecDepth 100000 in
theorem numKinds_lifted (os : Os) (started : os.Started) (H : Type) (enc : TypeId × Value → H) :
    ReturnsInHanded {} Try.checked os 8 .any (Rows.numKindsSpec.pre6 enc Try.prog Try.f8 Rows.numKindsRow.domain false) (Rows.numKindsSpec.post enc Try.prog Try.f8 false true false false) := by
  refine returnsInHanded_of_change_sized (C := Try.checked) own started (by kernel_rfl) Try.func8
    (ChangeSpec.witness6 (enc := enc) (C := Try.checked) false ⟨#[], #[.int .i64 0, .string "".toUTF8], []⟩ 8 (by kernel_rfl) (by kernel_rfl) (by kernel_rfl) (by kernel_rfl)) ?_
  intro W base args ds gs before hval0 hW hcnd hsz0 _
  have hW' := hW
  obtain ⟨p, q, hA, hV, rfl, hfz, hnd⟩ := hW
  obtain ⟨rfl, rfl⟩ := trodVars_none hV
  rw [Try.params8] at hA hval0
  refine (law_returns (n := 10) (progOk_spec prog_ok) (by kernel_rfl) ov_ok (fun j t v h1 h2 => hval0 j t v (by simpa using h1) (by simpa using h2)) hA (by rw [Try.params8, show DataSpec.varTypes Try.checked.prog Rows.numKindsSpec.plain = [] from rfl, List.append_nil, List.append_nil] at hsz0; exact hsz0) (absAs_cons abs_n (absAs_cons abs_s absAs_nil)) ?_).mono fun e W' ⟨he, bel⟩ => ?_
  · rintro h _ ⟨x, s, _⟩ ro ⟨c1, r1, rfl, ⟨rfl, x0, x1⟩, c2, r2, rfl, ⟨rfl, s0⟩, rfl⟩
    simp only [absV_one (P := Try.prog) (t := 3) (by decide), absV_one (P := Try.prog) (t := 2) (by decide), absV_one (P := Try.prog) (t := 9) (by decide)]
    have := numKinds ov_p ov_k 4 ro.w (k := x) (s := s)
    exact this
  · subst he
    obtain ⟨d, d2, rfl⟩ := tds2 (tds_of_trodAll 1 hA)
    exact ⟨_, rfl, _, _, _, [], _, [], hW', trodAll_mk1 (shut_bool Try.underlying4 _), trodAll_below (by kernel_rfl) bel (by kernel_rfl) hA (DataW.TrodAll.lt hA), rfl, bel.frame _, fun h => by cases h⟩
/-- The statement NumKinds. -/
theorem numKinds_proved : Rows.NumKindsSaid :=
  OpenClaim.holds_of_wide 8 Try.f8 rfl rfl rfl rfl rfl rfl rfl ⟨rfl, rfl, rfl, rfl, rfl⟩ rfl rfl rfl rfl rfl (by kernel_rfl) Try.func8 (by kernel_rfl)
    (of_decide_eq_true (by kernel_rfl)) (by unfold Func.isWrapper; first | (rw [if_pos (by decide +kernel)]; kernel_rfl) | (rw [if_neg (by decide +kernel)]; exact ⟨rfl, rfl⟩))
    (fun os started H enc _ => numKinds_lifted os started H enc)
#print axioms numKinds_proved
end Go.Proofs.Ytijdkjngbogegaa
