/- No more is held than may be: the law StreamBounds returns true at every input, and leaves it as it was. No condition. -/
import Derived.Test.YtfnmgclalcoplaaOv6
namespace Go.Proofs.Ytfnmgclalcoplaa
open Go Go.ChangeShapes Go.WideShapes Go.ChangeAt Go.RowKit Go.Proofs.Ytfnmgclalcoplaa.AI
set_option linter.unusedVariables false
theorem texts_at {h : AH} {cs : List AVal} {xs : List (List UInt8)} (hl : cs.length = xs.length * 1) (p : ∀ (i : Nat) x, xs[i]? = some x → rSl rU8 1 h ((cs.drop (i * 1)).take 1) x) : BsL h cs xs := by
  refine ⟨by omega, fun i l hi => ?_⟩
  obtain ⟨v, e, s, hm⟩ := rSl_bytes (p i l hi)
  have hr : reachBytes ≤ 2 ^ 48 := by decide
  refine ⟨v, ?_, s, Nat.le_trans hm hr⟩
  have := congrArg (fun x => x[0]?) e
  simpa using this
set_option maxRecDepth 100000 in
theorem streamBounds_lifted (os : Os) (started : os.Started) (H : Type) (enc : TypeId × Value → H) :
    ReturnsInHanded {} Try.checked os 4 .any (Rows.streamBoundsSpec.pre6 enc Try.prog Try.f4 Rows.streamBoundsRow.domain false) (Rows.streamBoundsSpec.post enc Try.prog Try.f4 false true false false) := by
  refine returnsInHanded_of_change_sized (C := Try.checked) own started (by kernel_rfl) Try.func4
    (ChangeSpec.witness6 (enc := enc) (C := Try.checked) false ⟨#[], #[.slice none 0 0], []⟩ 8 (by kernel_rfl) (by kernel_rfl) (by kernel_rfl) (by kernel_rfl)) ?_
  intro W base args ds gs before hval0 hW hcnd hsz0 _
  have hW' := hW
  obtain ⟨p, q, hA, hV, rfl, hfz, hnd⟩ := hW
  obtain ⟨rfl, rfl⟩ := trodVars_none hV
  rw [Try.params4] at hA hval0
  refine (law_returns (n := 8) (progOk_spec prog_ok) (by kernel_rfl) ov_ok (fun j t v h1 h2 => hval0 j t v (by simpa using h1) (by simpa using h2)) hA (by rw [Try.params4, show DataSpec.varTypes Try.checked.prog Rows.streamBoundsSpec.plain = [] from rfl, List.append_nil, List.append_nil] at hsz0; exact hsz0) (absAs_cons abs_texts absAs_nil) ?_).mono fun e W' ⟨he, bel⟩ => ?_
  · rintro h _ ⟨l, _⟩ ro ⟨c, r, rfl, ⟨v, cs, rfl, s, hl, p⟩, rfl⟩
    simp only [absV_one (P := Try.prog) (t := 34) (by decide)]
    have hcl := s.clen
    have := streamBounds ov6 4 ro.w (s.to rfl (by omega)) (texts_at hcl p)
    exact this
  · subst he
    obtain ⟨d, rfl⟩ := tds1 (tds_of_trodAll 1 hA)
    exact ⟨_, rfl, _, _, _, [], _, [], hW', trodAll_mk1 (shut_bool Try.underlying4 _), trodAll_below (by kernel_rfl) bel (by kernel_rfl) hA (DataW.TrodAll.lt hA), rfl, bel.frame _, fun h => by cases h⟩
/-- The statement StreamBounds. -/
theorem streamBounds_proved : Rows.StreamBoundsSaid :=
  OpenClaim.holds_of_wide 4 Try.f4 rfl rfl rfl rfl rfl rfl rfl ⟨rfl, rfl, rfl, rfl, rfl⟩ rfl rfl rfl rfl rfl (by kernel_rfl) Try.func4 (by kernel_rfl)
    (of_decide_eq_true (by kernel_rfl)) (by unfold Func.isWrapper; first | (rw [if_pos (by decide +kernel)]; kernel_rfl) | (rw [if_neg (by decide +kernel)]; exact ⟨rfl, rfl⟩))
    (fun os started H enc _ => streamBounds_lifted os started H enc)
#print axioms streamBounds_proved
end Go.Proofs.Ytfnmgclalcoplaa
