/- A frame with more bytes than may be is lost whole, and the line is as new behind it: the law LineLong returns true at every input, and leaves it as it was. No condition. -/
import Derived.Test.YtpbkgmcpelhlpaaOv7
namespace Go.Proofs.Ytpbkgmcpelhlpaa
open Go Go.ChangeShapes Go.WideShapes Go.ChangeAt Go.RowKit Go.Proofs.Ytpbkgmcpelhlpaa.AI
set_option linter.unusedVariables false
set_option maxRecDepth 100000 in
theorem lineLong_lifted (os : Os) (started : os.Started) (H : Type) (enc : TypeId × Value → H) :
    ReturnsInHanded {} Try.checked os 5 .any (Rows.lineLongSpec.pre6 enc Try.prog Try.f5 Rows.lineLongRow.domain false) (Rows.lineLongSpec.post enc Try.prog Try.f5 false true false false) := by
  refine returnsInHanded_of_change_sized (C := Try.checked) own started (by kernel_rfl) Try.func5
    (ChangeSpec.witness6 (enc := enc) (C := Try.checked) false ⟨#[], #[.int .u8 0, .int .i64 0, .slice none 0 0], []⟩ 8 (by kernel_rfl) (by kernel_rfl) (by kernel_rfl) (by kernel_rfl)) ?_
  intro W base args ds gs before hval0 hW hcnd hsz0 _
  have hW' := hW
  obtain ⟨p, q, hA, hV, rfl, hfz, hnd⟩ := hW
  obtain ⟨rfl, rfl⟩ := trodVars_none hV
  rw [Try.params5] at hA hval0
  refine (law_returns (n := 10) (progOk_spec prog_ok) (by kernel_rfl) ov_ok (fun j t v h1 h2 => hval0 j t v (by simpa using h1) (by simpa using h2)) hA (by rw [Try.params5, show DataSpec.varTypes Try.checked.prog Rows.lineLongSpec.plain = [] from rfl, List.append_nil, List.append_nil] at hsz0; exact hsz0) (absAs_cons abs_byte (absAs_cons abs_int64 (absAs_cons abs_bytes absAs_nil))) ?_).mono fun e W' ⟨he, bel⟩ => ?_
  · rintro h _ ⟨x, k, l, _⟩ ro ⟨c, r, rfl, rfl, c3, r3, rfl, ⟨rfl, k0, k1⟩, c2, r2, rfl, h2, rfl⟩
    obtain ⟨v, rfl, s, _⟩ := rSl_bytes h2
    simp only [absV_one (P := Try.prog) (t := 24) (by decide), absV_one (P := Try.prog) (t := 3) (by decide), absV_one (P := Try.prog) (t := 5) (by decide)]
    have := lineLong ov_p ov_k 4 (x := x) (k := k) ro.w ⟨k0, Int.lt_add_one_of_le k1⟩ s
    exact this
  · subst he
    obtain ⟨d, d2, d3, rfl⟩ := tds3 (tds_of_trodAll 1 hA)
    exact ⟨_, rfl, _, _, _, [], _, [], hW', trodAll_mk1 (shut_bool Try.underlying4 _), trodAll_below (by kernel_rfl) bel (by kernel_rfl) hA (DataW.TrodAll.lt hA), rfl, bel.frame _, fun h => by cases h⟩
/-- The statement LineLong. -/
theorem lineLong_proved : Rows.LineLongSaid :=
  OpenClaim.holds_of_wide 5 Try.f5 rfl rfl rfl rfl rfl rfl rfl ⟨rfl, rfl, rfl, rfl, rfl⟩ rfl rfl rfl rfl rfl (by kernel_rfl) Try.func5 (by kernel_rfl)
    (of_decide_eq_true (by kernel_rfl)) (by unfold Func.isWrapper; first | (rw [if_pos (by decide +kernel)]; kernel_rfl) | (rw [if_neg (by decide +kernel)]; exact ⟨rfl, rfl⟩))
    (fun os started H enc _ => lineLong_lifted os started H enc)
#print axioms lineLong_proved
end Go.Proofs.Ytpbkgmcpelhlpaa
