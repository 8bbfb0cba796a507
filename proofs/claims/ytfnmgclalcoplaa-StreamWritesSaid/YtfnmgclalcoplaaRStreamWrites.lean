/- Whatever frames are sent one behind the other come, in order, in any pieces: the law StreamWrites returns true at every input, and leaves it as it was. No condition. -/
import Derived.Test.YtfnmgclalcoplaaOv6
namespace Go.Proofs.Ytfnmgclalcoplaa
open Go Go.ChangeShapes Go.WideShapes Go.ChangeAt Go.RowKit Go.Proofs.Ytfnmgclalcoplaa.AI
set_option linter.unusedVariables false
theorem frms_at {h : AH} {cs : List AVal} {xs : List (Int × UInt8 × List UInt8 × Unit)} (hl : cs.length = xs.length * 3) (p : ∀ (i : Nat) x, xs[i]? = some x → rFrm h ((cs.drop (i * 3)).take 3) x) :
    FrA h .ro (fun _ => True) cs (xs.map toFrm) ∧ ∀ f ∈ xs.map toFrm, f.1 < 65536 ∧ f.2.1 < 256 := by
  refine ⟨⟨by rw [List.length_map]; exact hl, fun i f hf => ?_⟩, fun f hf => ?_⟩
  · rw [List.getElem?_map] at hf
    obtain ⟨x, hx, rfl⟩ := Option.map_eq_some_iff.1 hf
    obtain ⟨v, e, _, _, b⟩ := frm_cells (p i x hx)
    exact ⟨v, e, b, trivial⟩
  · obtain ⟨x, hx, rfl⟩ := List.mem_map.1 hf
    obtain ⟨i, hi, rfl⟩ := List.mem_iff_getElem.1 hx
    obtain ⟨v, e, h1, h2, b⟩ := frm_cells (p i _ (List.getElem?_eq_getElem hi))
    exact ⟨h1, h2⟩
set_option maxRecDepth 100000 in
theorem streamWrites_lifted (os : Os) (started : os.Started) (H : Type) (enc : TypeId × Value → H) :
    ReturnsInHanded {} Try.checked os 5 .any (Rows.streamWritesSpec.pre6 enc Try.prog Try.f5 Rows.streamWritesRow.domain false) (Rows.streamWritesSpec.post enc Try.prog Try.f5 false true false false) := by
  refine returnsInHanded_of_change_sized (C := Try.checked) own started (by kernel_rfl) Try.func5
    (ChangeSpec.witness6 (enc := enc) (C := Try.checked) false ⟨#[], #[.slice none 0 0, .slice none 0 0], []⟩ 8 (by kernel_rfl) (by kernel_rfl) (by kernel_rfl) (by kernel_rfl)) ?_
  intro W base args ds gs before hval0 hW hcnd hsz0 _
  have hW' := hW
  obtain ⟨p, q, hA, hV, rfl, hfz, hnd⟩ := hW
  obtain ⟨rfl, rfl⟩ := trodVars_none hV
  rw [Try.params5] at hA hval0
  refine (law_returns (n := 9) (progOk_spec prog_ok) (by kernel_rfl) ov_ok (fun j t v h1 h2 => hval0 j t v (by simpa using h1) (by simpa using h2)) hA (by rw [Try.params5, show DataSpec.varTypes Try.checked.prog Rows.streamWritesSpec.plain = [] from rfl, List.append_nil, List.append_nil] at hsz0; exact hsz0) (absAs_cons abs_frames (absAs_cons abs_bytes absAs_nil)) ?_).mono fun e W' ⟨he, bel⟩ => ?_
  · rintro h _ ⟨l, l2, _⟩ ro ⟨c, r, rfl, ⟨v, cs, rfl, s, hl, p⟩, c2, r2, rfl, h2, rfl⟩
    obtain ⟨v2, rfl, s2, _⟩ := rSl_bytes h2
    simp only [absV_one (P := Try.prog) (t := 22) (by decide), absV_one (P := Try.prog) (t := 24) (by decide)]
    have hcl := s.clen
    obtain ⟨fa, hok⟩ := frms_at hcl p
    have := streamWrites ov6 4 ro.w (s.to rfl (by simp)) fa hok s2
    exact this
  · subst he
    obtain ⟨d, d2, rfl⟩ := tds2 (tds_of_trodAll 1 hA)
    exact ⟨_, rfl, _, _, _, [], _, [], hW', trodAll_mk1 (shut_bool Try.underlying4 _), trodAll_below (by kernel_rfl) bel (by kernel_rfl) hA (DataW.TrodAll.lt hA), rfl, bel.frame _, fun h => by cases h⟩
/-- The statement StreamWrites. -/
theorem streamWrites_proved : Rows.StreamWritesSaid :=
  OpenClaim.holds_of_wide 5 Try.f5 rfl rfl rfl rfl rfl rfl rfl ⟨rfl, rfl, rfl, rfl, rfl⟩ rfl rfl rfl rfl rfl (by kernel_rfl) Try.func5 (by kernel_rfl)
    (of_decide_eq_true (by kernel_rfl)) (by unfold Func.isWrapper; first | (rw [if_pos (by decide +kernel)]; kernel_rfl) | (rw [if_neg (by decide +kernel)]; exact ⟨rfl, rfl⟩))
    (fun os started H enc _ => streamWrites_lifted os started H enc)
#print axioms streamWrites_proved
end Go.Proofs.Ytfnmgclalcoplaa
