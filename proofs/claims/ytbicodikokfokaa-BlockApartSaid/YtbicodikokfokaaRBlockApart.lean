/- A copy of a store and the store go their own ways: the law BlockApart returns true at every input, and leaves it as it was. No condition. -/
import Derived.Test.YtbicodikokfokaaOv8
namespace Go.Proofs.Ytbicodikokfokaa
open Go Go.ChangeShapes Go.WideShapes Go.ChangeAt Go.RowKit Go.Proofs.Ytbicodikokfokaa.AI
set_option linter.unusedVariables false
set_option maxRecDepth 100000 in
theorem blockApart_lifted (os : Os) (started : os.Started) (H : Type) (enc : TypeId × Value → H) :
    ReturnsInHanded {} Try.checked os 6 .any (Rows.blockApartSpec.pre6 enc Try.prog Try.f6 Rows.blockApartRow.domain false) (Rows.blockApartSpec.post enc Try.prog Try.f6 false true false false) := by
  refine returnsInHanded_of_change_sized (C := Try.checked) own started (by kernel_rfl) Try.func6
    (ChangeSpec.witness6 (enc := enc) (C := Try.checked) false ⟨#[], #[.int .i64 0, .slice none 0 0, .slice none 0 0, .int .i64 0, .int .i64 0, .int .i64 0], []⟩ 8 (by kernel_rfl) (by kernel_rfl) (by kernel_rfl) (by kernel_rfl)) ?_
  intro W base args ds gs before hval0 hW hcnd hsz0 _
  have hW' := hW
  obtain ⟨p, q, hA, hV, rfl, hfz, hnd⟩ := hW
  obtain ⟨rfl, rfl⟩ := trodVars_none hV
  rw [Try.params6] at hA hval0
  refine (law_returns (n := 8) (progOk_spec prog_ok) ov_ok (fun j t v h1 h2 => hval0 j t v (by simpa using h1) (by simpa using h2)) hA (absAs_cons abs_int64 (absAs_cons abs_bytes (absAs_cons abs_bytes (absAs_cons abs_int64 (absAs_cons abs_int64 (absAs_cons abs_int64 absAs_nil)))))) ?_).mono fun e W' ⟨he, bel⟩ => ?_
  · rintro h _ ⟨x, l, m, y, z, u, _⟩ ro ⟨c, r, rfl, ⟨rfl, x0, x1⟩, c4, r4, rfl, h4, c5, r5, rfl, h5, c2, r2, rfl, ⟨rfl, y0, y1⟩, c3, r3, rfl, ⟨rfl, z0, z1⟩, c6, r6, rfl, ⟨rfl, u0, u1⟩, rfl⟩
    obtain ⟨v4, rfl, s4, _⟩ := rSl_bytes h4
    obtain ⟨v5, rfl, s5, _⟩ := rSl_bytes h5
    simp only [absV_one (P := Try.prog) (t := 3) (by decide), absV_one (P := Try.prog) (t := 22) (by decide)]
    have := blockApart ov8 5 ro.w ⟨x0, Int.lt_add_one_of_le x1⟩ ⟨y0, Int.lt_add_one_of_le y1⟩ ⟨z0, Int.lt_add_one_of_le z1⟩ ⟨u0, Int.lt_add_one_of_le u1⟩ s4 s5
    exact this
  · subst he
    obtain ⟨d, d2, d3, d4, d5, d6, rfl⟩ := tds6 (tds_of_trodAll 1 hA)
    exact ⟨_, rfl, _, _, _, [], _, [], hW', trodAll_mk1 (shut_bool Try.underlying4 _), trodAll_below (by kernel_rfl) bel (by kernel_rfl) hA (DataW.TrodAll.lt hA), rfl, bel.frame _, fun h => by cases h⟩
/-- The statement BlockApart. -/
theorem blockApart_proved : Rows.BlockApartSaid :=
  OpenClaim.holds_of_wide 6 Try.f6 rfl rfl rfl rfl rfl rfl rfl ⟨rfl, rfl, rfl, rfl, rfl⟩ rfl rfl rfl rfl rfl (by kernel_rfl) Try.func6 (by kernel_rfl)
    (of_decide_eq_true (by kernel_rfl)) (by unfold Func.isWrapper; first | (rw [if_pos (by decide +kernel)]; kernel_rfl) | (rw [if_neg (by decide +kernel)]; exact ⟨rfl, rfl⟩))
    (fun os started H enc _ => blockApart_lifted os started H enc)
#print axioms blockApart_proved
end Go.Proofs.Ytbicodikokfokaa
