/- Of a right frame every beginning waits, and none is refused: the law MbapWaits returns true at every input, and leaves it as it was. No condition. -/
import Derived.Test.YtoioieophambhaaOv4
namespace Go.Proofs.Ytoioieophambhaa
open Go Go.ChangeShapes Go.WideShapes Go.ChangeAt Go.RowKit Go.Proofs.Ytoioieophambhaa.AI
set_option linter.unusedVariables false
set_option maxRecDepth 100000 in
theorem mbapWaits_lifted (os : Os) (started : os.Started) (H : Type) (enc : TypeId × Value → H) :
    ReturnsInHanded {} Try.checked os 5 .any (Rows.mbapWaitsSpec.pre6 enc Try.prog Try.f5 Rows.mbapWaitsRow.domain false) (Rows.mbapWaitsSpec.post enc Try.prog Try.f5 false true false false) := by
  refine returnsInHanded_of_change_sized (C := Try.checked) own started (by kernel_rfl) Try.func5
    (ChangeSpec.witness6 (enc := enc) (C := Try.checked) false ⟨#[], #[.agg #[.int .u16 0, .int .u8 0, .slice none 0 0], .int .i64 0], []⟩ 8 (by kernel_rfl) (by kernel_rfl) (by kernel_rfl) (by kernel_rfl)) ?_
  intro W base args ds gs before hval0 hW hcnd hsz0 _
  have hW' := hW
  obtain ⟨p, q, hA, hV, rfl, hfz, hnd⟩ := hW
  obtain ⟨rfl, rfl⟩ := trodVars_none hV
  rw [Try.params5] at hA hval0
  refine (law_returns (n := 8) (progOk_spec prog_ok) ov_ok (fun j t v h1 h2 => hval0 j t v (by simpa using h1) (by simpa using h2)) hA (absAs_cons abs_frame (absAs_cons abs_int64 absAs_nil)) ?_).mono fun e W' ⟨he, bel⟩ => ?_
  · rintro h _ ⟨⟨id, un, l, _⟩, k, _⟩ ro ⟨c, r, rfl, h1, c2, r2, rfl, h2, rfl⟩
    obtain ⟨id', un', v, rfl, rfl, hid, hun, s⟩ := frame_cells h1
    obtain ⟨rfl, k0, k1⟩ := h2
    rw [absV_one (by decide), absV_agg (by kernel_rfl)]
    have := mbapWaits ov4 5 ro.w hid hun s ⟨k0, Int.lt_add_one_of_le k1⟩
    exact this
  · subst he
    obtain ⟨d, d2, rfl⟩ := tds2 (tds_of_trodAll 1 hA)
    exact ⟨_, rfl, _, _, _, [], _, [], hW', trodAll_mk1 (shut_bool Try.underlying4 _), trodAll_below (by kernel_rfl) bel (by kernel_rfl) hA (DataW.TrodAll.lt hA), rfl, bel.frame _, fun h => by cases h⟩
/-- The statement MbapWaits. -/
theorem mbapWaits_proved : Rows.MbapWaitsSaid :=
  OpenClaim.holds_of_wide 5 Try.f5 rfl rfl rfl rfl rfl rfl rfl ⟨rfl, rfl, rfl, rfl, rfl⟩ rfl rfl rfl rfl rfl (by kernel_rfl) Try.func5 (by kernel_rfl)
    (of_decide_eq_true (by kernel_rfl)) (by unfold Func.isWrapper; first | (rw [if_pos (by decide +kernel)]; kernel_rfl) | (rw [if_neg (by decide +kernel)]; exact ⟨rfl, rfl⟩))
    (fun os started H enc _ => mbapWaits_lifted os started H enc)
#print axioms mbapWaits_proved
end Go.Proofs.Ytoioieophambhaa
