/- A store has the blocks and bytes that it was asked for, within the bounds, zeros at first: the law BlockShape returns true at every input, and leaves it as it was. No condition. -/
import Derived.Test.YtbicodikokfokaaOv8
namespace Go.Proofs.Ytbicodikokfokaa
open Go Go.ChangeShapes Go.WideShapes Go.ChangeAt Go.RowKit Go.Proofs.Ytbicodikokfokaa.AI
set_option linter.unusedVariables false
set_option maxRecDepth 100000 in
theorem blockShape_lifted (os : Os) (started : os.Started) (H : Type) (enc : TypeId × Value → H) :
    ReturnsInHanded {} Try.checked os 4 .any (Rows.blockShapeSpec.pre6 enc Try.prog Try.f4 Rows.blockShapeRow.domain false) (Rows.blockShapeSpec.post enc Try.prog Try.f4 false true false false) := by
  refine returnsInHanded_of_change_sized (C := Try.checked) own started (by kernel_rfl) Try.func4
    (ChangeSpec.witness6 (enc := enc) (C := Try.checked) false ⟨#[], #[.int .i64 0, .int .i64 0], []⟩ 8 (by kernel_rfl) (by kernel_rfl) (by kernel_rfl) (by kernel_rfl)) ?_
  intro W base args ds gs before hval0 hW hcnd hsz0 _
  have hW' := hW
  obtain ⟨p, q, hA, hV, rfl, hfz, hnd⟩ := hW
  obtain ⟨rfl, rfl⟩ := trodVars_none hV
  rw [Try.params4] at hA hval0
  refine (law_returns (n := 8) (progOk_spec prog_ok) ov_ok (fun j t v h1 h2 => hval0 j t v (by simpa using h1) (by simpa using h2)) hA (absAs_cons abs_int64 (absAs_cons abs_int64 absAs_nil)) ?_).mono fun e W' ⟨he, bel⟩ => ?_
  · rintro h _ ⟨x, y, _⟩ ro ⟨c, r, rfl, ⟨rfl, x0, x1⟩, c2, r2, rfl, ⟨rfl, y0, y1⟩, rfl⟩
    rw [absV_one (by decide), absV_one (by decide)]
    have := blockShape ov8 5 ro.w x y
    exact this
  · subst he
    obtain ⟨d, d2, rfl⟩ := tds2 (tds_of_trodAll 1 hA)
    exact ⟨_, rfl, _, _, _, [], _, [], hW', trodAll_mk1 (shut_bool Try.underlying4 _), trodAll_below (by kernel_rfl) bel (by kernel_rfl) hA (DataW.TrodAll.lt hA), rfl, bel.frame _, fun h => by cases h⟩
/-- The statement BlockShape. -/
theorem blockShape_proved : Rows.BlockShapeSaid :=
  OpenClaim.holds_of_wide 4 Try.f4 rfl rfl rfl rfl rfl rfl rfl ⟨rfl, rfl, rfl, rfl, rfl⟩ rfl rfl rfl rfl rfl (by kernel_rfl) Try.func4 (by kernel_rfl)
    (of_decide_eq_true (by kernel_rfl)) (by unfold Func.isWrapper; first | (rw [if_pos (by decide +kernel)]; kernel_rfl) | (rw [if_neg (by decide +kernel)]; exact ⟨rfl, rfl⟩))
    (fun os started H enc _ => blockShape_lifted os started H enc)
#print axioms blockShape_proved
end Go.Proofs.Ytbicodikokfokaa
