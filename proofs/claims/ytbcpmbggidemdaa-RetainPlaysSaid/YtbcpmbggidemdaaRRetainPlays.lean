/- The law RetainPlays returns true at every input, and leaves it as it was: what is laid is found, at every script of lays, cuts and openings. No condition. -/
import Derived.Test.YtbcpmbggidemdaaOv9
import Derived.Test.YtbcpmbggidemdaaLaw9f
namespace Go.Proofs.Ytbcpmbggidemdaa
open Go Go.ChangeShapes Go.WideShapes Go.ChangeAt Go.RowKit Go.Proofs.Ytbcpmbggidemdaa.AI
set_option linter.unusedVariables false
theorem steps_at {h : AH} {cs : List AVal} {xs : List (Int × Int × Int × Unit)} (p : ∀ (i : Nat) x, xs[i]? = some x → rStep h ((cs.drop (i * 3)).take 3) x) :
    ∀ (i : Nat) x, (xs.map fun x => (x.1, x.2.1, x.2.2.1))[i]? = some x → (cs.drop (i * 3)).take 3 = [.int .i64 x.1, .int .i64 x.2.1, .int .i64 x.2.2] ∧ IsI x.2.1 ∧ IsI x.2.2 := by
  intro i x hx
  rw [List.getElem?_map] at hx
  obtain ⟨y, hy, rfl⟩ := Option.map_eq_some_iff.1 hx
  obtain ⟨⟨h1, a0, a1⟩, ⟨h2, b0, b1⟩, ⟨h3, c0, c1⟩, h7⟩ := p i y hy
  refine ⟨?_, ⟨b0, Int.lt_add_one_of_le b1⟩, ⟨c0, Int.lt_add_one_of_le c1⟩⟩
  have cut : ∀ t : List AVal, t = t.take 1 ++ ((t.drop 1).take 1 ++ (((t.drop 1).drop 1).take 1 ++ ((t.drop 1).drop 1).drop 1)) := fun t => by
    rw [List.take_append_drop, List.take_append_drop, List.take_append_drop]
  rw [cut ((cs.drop (i * 3)).take 3), h1, h2, h3, show List.drop 1 (List.drop 1 (List.drop 1 (List.take 3 (List.drop (i * 3) cs)))) = [] from h7]
  rfl
set_option maxRecDepth 100000 in
theorem retainPlays_lifted (os : Os) (started : os.Started) (H : Type) (enc : TypeId × Value → H) :
    ReturnsInHanded {} Try.checked os 6 .any (Rows.retainPlaysSpec.pre6 enc Try.prog Try.f6 Rows.retainPlaysRow.domain false) (Rows.retainPlaysSpec.post enc Try.prog Try.f6 false true false false) := by
  refine returnsInHanded_of_change_sized (C := Try.checked) own started (by kernel_rfl) Try.func6
    (ChangeSpec.witness6 (enc := enc) (C := Try.checked) false ⟨#[], #[.int .i64 0, .int .i64 0, .slice none 0 0], []⟩ 8 (by kernel_rfl) (by kernel_rfl) (by kernel_rfl) (by kernel_rfl)) ?_
  intro W base args ds gs before hval0 hW hcnd hsz0 _
  have hW' := hW
  obtain ⟨p, q, hA, hV, rfl, hfz, hnd⟩ := hW
  obtain ⟨rfl, rfl⟩ := trodVars_none hV
  rw [Try.params6] at hA hval0
  refine (law_returns (n := 10) (progOk_spec prog_ok) (by kernel_rfl) ov_ok (fun j t v h1 h2 => hval0 j t v (by simpa using h1) (by simpa using h2)) hA (by rw [Try.params6, show DataSpec.varTypes Try.checked.prog Rows.retainPlaysSpec.plain = [] from rfl, List.append_nil, List.append_nil] at hsz0; exact hsz0) (absAs_cons abs_n (absAs_cons abs_n (absAs_cons abs_steps absAs_nil))) ?_).mono fun e W' ⟨he, bel⟩ => ?_
  · rintro h _ ⟨a, b, l, _⟩ ro ⟨c1, r1, rfl, ⟨rfl, a0, a1⟩, c2, r2, rfl, ⟨rfl, b0, b1⟩, c3, r3, rfl, ⟨v, cs, rfl, s, hl, p⟩, rfl⟩
    simp only [absV_one (P := Try.prog) (t := 41) (by decide), absV_one (P := Try.prog) (t := 3) (by decide)]
    have := retainPlays ov_x ov_k 4 ro.w ⟨a0, Int.lt_add_one_of_le a1⟩ ⟨b0, Int.lt_add_one_of_le b1⟩ (s.to rfl (by simp)) (steps_at p)
    exact this
  · subst he
    obtain ⟨d, d2, d3, rfl⟩ := tds3 (tds_of_trodAll 1 hA)
    exact ⟨_, rfl, _, _, _, [], _, [], hW', trodAll_mk1 (shut_bool Try.underlying4 _), trodAll_below (by kernel_rfl) bel (by kernel_rfl) hA (DataW.TrodAll.lt hA), rfl, bel.frame _, fun h => by cases h⟩
/-- The statement RetainPlays. -/
theorem retainPlays_proved : Rows.RetainPlaysSaid :=
  OpenClaim.holds_of_wide 6 Try.f6 rfl rfl rfl rfl rfl rfl rfl ⟨rfl, rfl, rfl, rfl, rfl⟩ rfl rfl rfl rfl rfl (by kernel_rfl) Try.func6 (by kernel_rfl)
    (of_decide_eq_true (by kernel_rfl)) (by unfold Func.isWrapper; first | (rw [if_pos (by decide +kernel)]; kernel_rfl) | (rw [if_neg (by decide +kernel)]; exact ⟨rfl, rfl⟩))
    (fun os started H enc _ => retainPlays_lifted os started H enc)
#print axioms retainPlays_proved
end Go.Proofs.Ytbcpmbggidemdaa
