/- Queues of things of several fields, and of functions, keep them as they are, in order, apart: the law QueueTypes returns true at every input, and leaves it as it was. No condition. -/
import Derived.Test.YtfppdfmffdkogaaOv24
import Derived.Test.YtfppdfmffdkogaaLaw24c
import Derived.Test.YtfppdfmffdkogaaAiRowD
namespace Go.Proofs.Ytfppdfmffdkogaa
open Go Go.ChangeShapes Go.WideShapes Go.ChangeAt Go.RowKit Go.Proofs.Ytfppdfmffdkogaa.AI
set_option linter.unusedVariables false
theorem abs_strs {H : Type} {k : Nat} : Abs Try.prog H (k + 2) 40 (rSl rStr 1) := abs_slice (e := 9) (by kernel_rfl) (by kernel_rfl) (by kernel_rfl) (by omega) (by kernel_rfl) (abs_str (by kernel_rfl) (by kernel_rfl))
theorem abs_ints {H : Type} {k : Nat} : Abs Try.prog H (k + 2) 26 (rSl (rInt .i64) 1) := abs_slice (e := 3) (by kernel_rfl) (by kernel_rfl) (by kernel_rfl) (by omega) (by kernel_rfl) abs_int64
theorem cells_strs {h : AH} {cs : List AVal} {xs : List (List UInt8)} (hl : cs.length = xs.length) (p : ∀ (i : Nat) x, xs[i]? = some x → rStr h ((cs.drop (i * 1)).take 1) x) : cs = xs.map AVal.str ∧ ∀ x ∈ xs, x.length ≤ 2 ^ 47 := by
  have key : ∀ (i : Nat) x, xs[i]? = some x → cs[i]? = some (.str x) ∧ x.length ≤ 2 ^ 47 := by
    intro i x hx
    obtain ⟨h1, h2⟩ := p i x hx
    have := congrArg (fun l => l[0]?) h1
    simp only [Nat.mul_one, List.getElem?_take_of_lt (show 0 < 1 by omega), List.getElem?_drop, Nat.add_zero, List.getElem?_cons_zero] at this
    exact ⟨this, by unfold reachBytes at h2; omega⟩
  constructor
  · apply List.ext_getElem?
    intro i
    rw [List.getElem?_map]
    by_cases hi : i < xs.length
    · rw [(key i _ (List.getElem?_eq_getElem hi)).1, List.getElem?_eq_getElem hi]; rfl
    · rw [List.getElem?_eq_none (by omega), List.getElem?_eq_none (by omega)]; rfl
  · intro x hx
    obtain ⟨i, hi, rfl⟩ := List.mem_iff_getElem.1 hx
    exact (key i _ (List.getElem?_eq_getElem hi)).2
set_option maxRecDepth 100000 in
theorem queueTypes_lifted (os : Os) (started : os.Started) (H : Type) (enc : TypeId × Value → H) :
    ReturnsInHanded {} Try.checked os 4 .any (Rows.queueTypesSpec.pre6 enc Try.prog Try.f4 Rows.queueTypesRow.domain false) (Rows.queueTypesSpec.post enc Try.prog Try.f4 false true false false) := by
  refine returnsInHanded_of_change_sized (C := Try.checked) own started (by kernel_rfl) Try.func4
    (ChangeSpec.witness6 (enc := enc) (C := Try.checked) false ⟨#[], #[.slice none 0 0, .slice none 0 0], []⟩ 8 (by kernel_rfl) (by kernel_rfl) (by kernel_rfl) (by kernel_rfl)) ?_
  intro W base args ds gs before hval0 hW hcnd hsz0 _
  have hW' := hW
  obtain ⟨p, q, hA, hV, rfl, hfz, hnd⟩ := hW
  obtain ⟨rfl, rfl⟩ := trodVars_none hV
  rw [Try.params4] at hA hval0
  refine (law_returns (n := 12) (progOk_spec prog_ok) (by kernel_rfl) ov_ok (fun j t v h1 h2 => hval0 j t v (by simpa using h1) (by simpa using h2)) hA (by rw [Try.params4, show DataSpec.varTypes Try.checked.prog Rows.queueTypesSpec.plain = [] from rfl, List.append_nil, List.append_nil] at hsz0; exact hsz0) (absAs_cons abs_strs (absAs_cons abs_ints absAs_nil)) ?_).mono fun e W' ⟨he, bel⟩ => ?_
  · rintro h _ ⟨a, b, _⟩ ro ⟨c3, r3, rfl, ⟨v, cs, rfl, s, hl, p⟩, c2, r2, rfl, ⟨v', cs', rfl, s', hl', p'⟩, rfl⟩
    simp only [absV_one (P := Try.prog) (t := 40) (by decide), absV_one (P := Try.prog) (t := 26) (by decide)]
    obtain ⟨e, hn⟩ := cells_strs (by rw [s.clen]; omega) p
    subst e
    obtain ⟨e, hi⟩ := cells_ints (by rw [s'.clen]; omega) p'
    subst e
    have := queueTypes ov_x ov_k 4 ro.w s s' hn
    exact this
  · subst he
    obtain ⟨d, d2, rfl⟩ := tds2 (tds_of_trodAll 1 hA)
    exact ⟨_, rfl, _, _, _, [], _, [], hW', trodAll_mk1 (shut_bool Try.underlying4 _), trodAll_below (by kernel_rfl) bel (by kernel_rfl) hA (DataW.TrodAll.lt hA), rfl, bel.frame _, fun h => by cases h⟩
/-- The statement QueueTypes. -/
theorem queueTypes_proved : Rows.QueueTypesSaid :=
  OpenClaim.holds_of_wide 4 Try.f4 rfl rfl rfl rfl rfl rfl rfl ⟨rfl, rfl, rfl, rfl, rfl⟩ rfl rfl rfl rfl rfl (by kernel_rfl) Try.func4 (by kernel_rfl)
    (of_decide_eq_true (by kernel_rfl)) (by unfold Func.isWrapper; first | (rw [if_pos (by decide +kernel)]; kernel_rfl) | (rw [if_neg (by decide +kernel)]; exact ⟨rfl, rfl⟩))
    (fun os started H enc _ => queueTypes_lifted os started H enc)
#print axioms queueTypes_proved
end Go.Proofs.Ytfppdfmffdkogaa
