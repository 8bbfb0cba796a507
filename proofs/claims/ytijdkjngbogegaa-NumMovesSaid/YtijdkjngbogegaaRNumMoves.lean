/- The law NumMoves returns true at every input, and leaves it as it was. No condition. -/
import Derived.Test.YtijdkjngbogegaaOv1
namespace Go.Proofs.Ytijdkjngbogegaa
open Go Go.ChangeShapes Go.WideShapes Go.ChangeAt Go.RowKit Go.Proofs.Ytijdkjngbogegaa.AI
set_option linter.unusedVariables false
set_option maxRecDepth 100000 in
theorem numMoves_lifted (os : Os) (started : os.Started) (H : Type) (enc : TypeId × Value → H) :
    ReturnsInHanded {} Try.checked os 9 .any (Rows.numMovesSpec.pre6 enc Try.prog Try.f9 Rows.numMovesRow.domain false) (Rows.numMovesSpec.post enc Try.prog Try.f9 false true false false) := by
  refine returnsInHanded_of_change_sized (C := Try.checked) own started (by kernel_rfl) Try.func9
    (ChangeSpec.witness6 (enc := enc) (C := Try.checked) false ⟨#[], #[.string "".toUTF8, .int .i64 0, .int .i64 0, .int .i64 0, .int .i64 0], []⟩ 8 (by kernel_rfl) (by kernel_rfl) (by kernel_rfl) (by kernel_rfl)) ?_
  intro W base args ds gs before hval0 hW hcnd hsz0 _
  have hW' := hW
  obtain ⟨p, q, hA, hV, rfl, hfz, hnd⟩ := hW
  obtain ⟨rfl, rfl⟩ := trodVars_none hV
  rw [Try.params9] at hA hval0
  refine (law_returns (n := 10) (progOk_spec prog_ok) (by kernel_rfl) ov_ok (fun j t v h1 h2 => hval0 j t v (by simpa using h1) (by simpa using h2)) hA (by rw [Try.params9, show DataSpec.varTypes Try.checked.prog Rows.numMovesSpec.plain = [] from rfl, List.append_nil, List.append_nil] at hsz0; exact hsz0) (absAs_cons abs_s (absAs_cons abs_n (absAs_cons abs_n (absAs_cons abs_m (absAs_cons abs_m absAs_nil))))) ?_).mono fun e W' ⟨he, bel⟩ => ?_
  · rintro h _ ⟨s, x, y, a, b, _⟩ ro ⟨c1, r1, rfl, ⟨rfl, s0⟩, c2, r2, rfl, ⟨rfl, x0, x1⟩, c3, r3, rfl, ⟨rfl, y0, y1⟩, c4, r4, rfl, ⟨rfl, a0, a1⟩, c5, r5, rfl, ⟨rfl, b0, b1⟩, rfl⟩
    simp only [absV_one (P := Try.prog) (t := 3) (by decide), absV_one (P := Try.prog) (t := 2) (by decide), absV_one (P := Try.prog) (t := 9) (by decide)]
    have := numMoves ov_p ov_k 4 ro.w (s := s) (q := y) ⟨x0, Int.lt_add_one_of_le x1⟩ ⟨a0, Int.lt_add_one_of_le a1⟩ ⟨b0, Int.lt_add_one_of_le b1⟩
    exact this
  · subst he
    obtain ⟨d, d2, d3, d4, d5, rfl⟩ := tds5 (tds_of_trodAll 1 hA)
    exact ⟨_, rfl, _, _, _, [], _, [], hW', trodAll_mk1 (shut_bool Try.underlying4 _), trodAll_below (by kernel_rfl) bel (by kernel_rfl) hA (DataW.TrodAll.lt hA), rfl, bel.frame _, fun h => by cases h⟩
/-- The statement NumMoves. -/
theorem numMoves_proved : Rows.NumMovesSaid :=
  OpenClaim.holds_of_wide 9 Try.f9 rfl rfl rfl rfl rfl rfl rfl ⟨rfl, rfl, rfl, rfl, rfl⟩ rfl rfl rfl rfl rfl (by kernel_rfl) Try.func9 (by kernel_rfl)
    (of_decide_eq_true (by kernel_rfl)) (by unfold Func.isWrapper; first | (rw [if_pos (by decide +kernel)]; kernel_rfl) | (rw [if_neg (by decide +kernel)]; exact ⟨rfl, rfl⟩))
    (fun os started H enc _ => numMoves_lifted os started H enc)
#print axioms numMoves_proved
end Go.Proofs.Ytijdkjngbogegaa
