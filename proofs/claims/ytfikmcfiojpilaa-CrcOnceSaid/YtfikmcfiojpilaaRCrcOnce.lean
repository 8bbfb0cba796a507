/- Tables don't touch one another, each made once however often it is asked: the law CrcOnce returns true at every input, and leaves it as it was. No condition. -/
import Derived.Test.YtfikmcfiojpilaaOv2
namespace Go.Proofs.Ytfikmcfiojpilaa
open Go Go.ChangeShapes Go.WideShapes Go.ChangeAt Go.RowKit Go.Proofs.Ytfikmcfiojpilaa.AI
set_option linter.unusedVariables false
theorem texts_at {h : AH} {cs : List AVal} {xs : List (List UInt8)} (hl : cs.length = xs.length * 1) (p : ∀ (i : Nat) x, xs[i]? = some x → rSl rU8 1 h ((cs.drop (i * 1)).take 1) x) : BsL h cs xs := by
  refine ⟨by omega, fun i l hi => ?_⟩
  obtain ⟨v, e, s, hm⟩ := rSl_bytes (p i l hi)
  have hr : reachBytes ≤ 2 ^ 48 := by decide
  refine ⟨v, ?_, s, Nat.le_trans hm hr⟩
  have := congrArg (fun x => x[0]?) e
  simpa using this
theorem bools_at {h : AH} {cs : List AVal} {xs : List Bool} (hl : cs.length = xs.length * 1) (p : ∀ (i : Nat) x, xs[i]? = some x → rBool h ((cs.drop (i * 1)).take 1) x) : cs = xs.map AVal.bool := by
  apply List.ext_getElem?
  intro i
  rw [List.getElem?_map]
  by_cases c : i < xs.length
  · have e := p i _ (List.getElem?_eq_getElem c)
    have := congrArg (fun x => x[0]?) e
    rw [List.getElem?_eq_getElem c]
    simpa using this
  · rw [List.getElem?_eq_none (by omega), List.getElem?_eq_none (by omega)]; rfl
set_option maxRecDepth 100000 in
theorem crcOnce_lifted (os : Os) (started : os.Started) (H : Type) (enc : TypeId × Value → H) :
    ReturnsInHanded {} Try.checked os 6 .any (Rows.crcOnceSpec.pre6 enc Try.prog Try.f6 Rows.crcOnceRow.domain false) (Rows.crcOnceSpec.post enc Try.prog Try.f6 false true false false) := by
  refine returnsInHanded_of_change_sized (C := Try.checked) own started (by kernel_rfl) Try.func6
    (ChangeSpec.witness6 (enc := enc) (C := Try.checked) false ⟨#[], #[.slice none 0 0, .slice none 0 0], []⟩ 8 (by kernel_rfl) (by kernel_rfl) (by kernel_rfl) (by kernel_rfl)) ?_
  intro W base args ds gs before hval0 hW hcnd hsz0 _
  have hW' := hW
  obtain ⟨p, q, hA, hV, rfl, hfz, hnd⟩ := hW
  obtain ⟨rfl, rfl⟩ := trodVars_none hV
  rw [Try.params6] at hA hval0
  refine (law_returns (n := 12) (progOk_spec prog_ok) (by kernel_rfl) ov_ok (fun j t v h1 h2 => hval0 j t v (by simpa using h1) (by simpa using h2)) hA (by rw [Try.params6, show DataSpec.varTypes Try.checked.prog Rows.crcOnceSpec.plain = [] from rfl, List.append_nil, List.append_nil] at hsz0; exact hsz0) (absAs_cons abs_texts (absAs_cons abs_bools absAs_nil)) ?_).mono fun e W' ⟨he, bel⟩ => ?_
  · rintro h _ ⟨l, l2, _⟩ ro ⟨c, r, rfl, ⟨v, cs, rfl, s, hl, p⟩, c2, r2, rfl, ⟨v2, cs2, rfl, s2, hl2, p2⟩, rfl⟩
    simp only [absV_one (P := Try.prog) (t := 52) (by decide), absV_one (P := Try.prog) (t := 53) (by decide)]
    have hcl := s.clen
    have hcl2 := s2.clen
    have e2 := bools_at hcl2 p2
    subst e2
    have := crcOnce ov_x ov_k 4 ro.w (s.to rfl (by omega)) (texts_at hcl p) s2
    exact this
  · subst he
    obtain ⟨d, d2, rfl⟩ := tds2 (tds_of_trodAll 1 hA)
    exact ⟨_, rfl, _, _, _, [], _, [], hW', trodAll_mk1 (shut_bool Try.underlying4 _), trodAll_below (by kernel_rfl) bel (by kernel_rfl) hA (DataW.TrodAll.lt hA), rfl, bel.frame _, fun h => by cases h⟩
/-- The statement CrcOnce. -/
theorem crcOnce_proved : Rows.CrcOnceSaid :=
  OpenClaim.holds_of_wide 6 Try.f6 rfl rfl rfl rfl rfl rfl rfl ⟨rfl, rfl, rfl, rfl, rfl⟩ rfl rfl rfl rfl rfl (by kernel_rfl) Try.func6 (by kernel_rfl)
    (of_decide_eq_true (by kernel_rfl)) (by unfold Func.isWrapper; first | (rw [if_pos (by decide +kernel)]; kernel_rfl) | (rw [if_neg (by decide +kernel)]; exact ⟨rfl, rfl⟩))
    (fun os started H enc _ => crcOnce_lifted os started H enc)
#print axioms crcOnce_proved
end Go.Proofs.Ytfikmcfiojpilaa
