/- The law RetainEvery returns true at every input, and leaves it as it was: a lay is whole or not at all at every write and every prefix. No condition. -/
import Derived.Test.YtbcpmbggidemdaaOv9
import Derived.Test.YtbcpmbggidemdaaLaw9e
namespace Go.Proofs.Ytbcpmbggidemdaa
open Go Go.ChangeShapes Go.WideShapes Go.ChangeAt Go.RowKit Go.Proofs.Ytbcpmbggidemdaa.AI
set_option linter.unusedVariables false
set_option maxRecDepth 100000 in
theorem retainEvery_lifted (os : Os) (started : os.Started) (H : Type) (enc : TypeId × Value → H) :
    ReturnsInHanded {} Try.checked os 9 .any (Rows.retainEverySpec.pre6 enc Try.prog Try.f9 Rows.retainEveryRow.domain false) (Rows.retainEverySpec.post enc Try.prog Try.f9 false true false false) := by
  refine returnsInHanded_of_change_sized (C := Try.checked) own started (by kernel_rfl) Try.func9
    (ChangeSpec.witness6 (enc := enc) (C := Try.checked) false ⟨#[], #[.int .i64 0, .int .i64 0, .int .i64 0, .int .i64 0, .int .i64 0, .bool false], []⟩ 8 (by kernel_rfl) (by kernel_rfl) (by kernel_rfl) (by kernel_rfl)) ?_
  intro W base args ds gs before hval0 hW hcnd hsz0 _
  have hW' := hW
  obtain ⟨p, q, hA, hV, rfl, hfz, hnd⟩ := hW
  obtain ⟨rfl, rfl⟩ := trodVars_none hV
  rw [Try.params9] at hA hval0
  refine (law_returns (n := 10) (progOk_spec prog_ok) (by kernel_rfl) ov_ok (fun j t v h1 h2 => hval0 j t v (by simpa using h1) (by simpa using h2)) hA (by rw [Try.params9, show DataSpec.varTypes Try.checked.prog Rows.retainEverySpec.plain = [] from rfl, List.append_nil, List.append_nil] at hsz0; exact hsz0) (absAs_cons abs_n (absAs_cons abs_n (absAs_cons abs_n (absAs_cons abs_n (absAs_cons abs_n (absAs_cons abs_t absAs_nil)))))) ?_).mono fun e W' ⟨he, bel⟩ => ?_
  · rintro h _ ⟨a, b, c, e, f, g, _⟩ ro ⟨c1, r1, rfl, ⟨rfl, a0, a1⟩, c2, r2, rfl, ⟨rfl, b0, b1⟩, c3, r3, rfl, ⟨rfl, c0, c1⟩, c4, r4, rfl, ⟨rfl, e0, e1⟩, c5, r5, rfl, ⟨rfl, f0, f1⟩, c6, r6, rfl, rfl, rfl⟩
    simp only [absV_one (P := Try.prog) (t := 3) (by decide), absV_one (P := Try.prog) (t := 4) (by decide)]
    have := retainEvery ov_x ov_k 4 ro.w ⟨a0, Int.lt_add_one_of_le a1⟩ ⟨b0, Int.lt_add_one_of_le b1⟩ ⟨f0, Int.lt_add_one_of_le f1⟩ (first := c) (second := e) (elder := g)
    exact this
  · subst he
    obtain ⟨d, d2, d3, d4, d5, d6, rfl⟩ := tds6 (tds_of_trodAll 1 hA)
    exact ⟨_, rfl, _, _, _, [], _, [], hW', trodAll_mk1 (shut_bool Try.underlying4 _), trodAll_below (by kernel_rfl) bel (by kernel_rfl) hA (DataW.TrodAll.lt hA), rfl, bel.frame _, fun h => by cases h⟩
/-- The statement RetainEvery. -/
theorem retainEvery_proved : Rows.RetainEverySaid :=
  OpenClaim.holds_of_wide 9 Try.f9 rfl rfl rfl rfl rfl rfl rfl ⟨rfl, rfl, rfl, rfl, rfl⟩ rfl rfl rfl rfl rfl (by kernel_rfl) Try.func9 (by kernel_rfl)
    (of_decide_eq_true (by kernel_rfl)) (by unfold Func.isWrapper; first | (rw [if_pos (by decide +kernel)]; kernel_rfl) | (rw [if_neg (by decide +kernel)]; exact ⟨rfl, rfl⟩))
    (fun os started H enc _ => retainEvery_lifted os started H enc)
#print axioms retainEvery_proved
end Go.Proofs.Ytbcpmbggidemdaa
