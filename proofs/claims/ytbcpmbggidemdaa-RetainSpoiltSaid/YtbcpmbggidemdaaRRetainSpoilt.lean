/- The law RetainSpoilt returns true at every input, and leaves it as it was: with a byte spoilt the newest numbers are found or those ahead of them. No condition. -/
import Derived.Test.YtbcpmbggidemdaaOv9
import Derived.Test.YtbcpmbggidemdaaLaw9h
namespace Go.Proofs.Ytbcpmbggidemdaa
open Go Go.ChangeShapes Go.WideShapes Go.ChangeAt Go.RowKit Go.Proofs.Ytbcpmbggidemdaa.AI
set_option linter.unusedVariables false
theorem seeds_at {h : AH} {cs : List AVal} {xs : List Int} (p : ∀ (i : Nat) x, xs[i]? = some x → rInt .i64 h ((cs.drop (i * 1)).take 1) x) : ∀ i, i < xs.length → cs[i]? = some (.int .i64 (xs.getD i 0)) := by
  intro i hi
  obtain ⟨h1, _⟩ := p i _ (List.getElem?_eq_getElem hi)
  have := congrArg (fun l => l[0]?) h1
  simp only [Nat.mul_one, List.getElem?_take_of_lt (show 0 < 1 by omega), List.getElem?_drop, Nat.add_zero, List.getElem?_cons_zero] at this
  rw [this]
  simp [hi]
theorem tds7 {P : Program} {H : Type} {k : Nat} {t u v w x y z : TypeId} {ds : List (DataW H)} (h : TDs P k [t, u, v, w, x, y, z] ds) : ∃ a b c d e f g, ds = [a, b, c, d, e, f, g] := by
  match ds, h with
  | [a, b, c, d, e, f, g], _ => exact ⟨a, b, c, d, e, f, g, rfl⟩
  | [_], h => exact h.2.elim
  | [_, _], h => exact h.2.2.elim
  | [_, _, _], h => exact h.2.2.2.elim
  | [_, _, _, _], h => exact h.2.2.2.2.elim
  | [_, _, _, _, _], h => exact h.2.2.2.2.2.elim
  | [_, _, _, _, _, _], h => exact h.2.2.2.2.2.2.elim
set_option maxRecDepth 100000 in
theorem retainSpoilt_lifted (os : Os) (started : os.Started) (H : Type) (enc : TypeId × Value → H) :
    ReturnsInHanded {} Try.checked os 8 .any (Rows.retainSpoiltSpec.pre6 enc Try.prog Try.f8 Rows.retainSpoiltRow.domain false) (Rows.retainSpoiltSpec.post enc Try.prog Try.f8 false true false false) := by
  refine returnsInHanded_of_change_sized (C := Try.checked) own started (by kernel_rfl) Try.func8
    (ChangeSpec.witness6 (enc := enc) (C := Try.checked) false ⟨#[], #[.int .i64 0, .int .i64 0, .slice none 0 0, .int .i64 0, .int .i64 0, .int .u8 0, .bool false], []⟩ 8 (by kernel_rfl) (by kernel_rfl) (by kernel_rfl) (by kernel_rfl)) ?_
  intro W base args ds gs before hval0 hW hcnd hsz0 _
  have hW' := hW
  obtain ⟨p, q, hA, hV, rfl, hfz, hnd⟩ := hW
  obtain ⟨rfl, rfl⟩ := trodVars_none hV
  rw [Try.params8] at hA hval0
  refine (law_returns (n := 10) (progOk_spec prog_ok) (by kernel_rfl) ov_ok (fun j t v h1 h2 => hval0 j t v (by simpa using h1) (by simpa using h2)) hA (by rw [Try.params8, show DataSpec.varTypes Try.checked.prog Rows.retainSpoiltSpec.plain = [] from rfl, List.append_nil, List.append_nil] at hsz0; exact hsz0) (absAs_cons abs_n (absAs_cons abs_n (absAs_cons abs_ns (absAs_cons abs_n (absAs_cons abs_n (absAs_cons abs_x (absAs_cons abs_t absAs_nil))))))) ?_).mono fun e W' ⟨he, bel⟩ => ?_
  · rintro h _ ⟨a, b, l, c, e, x, t, _⟩ ro ⟨c1, r1, rfl, ⟨rfl, a0, a1⟩, c2, r2, rfl, ⟨rfl, b0, b1⟩, c3, r3, rfl, ⟨v, cs, rfl, s, hl, p⟩, c4, r4, rfl, ⟨rfl, d0, d1⟩, c5, r5, rfl, ⟨rfl, e0, e1⟩, c6, r6, rfl, rfl, c7, r7, rfl, rfl, rfl⟩
    simp only [absV_one (P := Try.prog) (t := 47) (by decide), absV_one (P := Try.prog) (t := 3) (by decide), absV_one (P := Try.prog) (t := 5) (by decide), absV_one (P := Try.prog) (t := 4) (by decide)]
    have := retainSpoilt ov_x ov_k 4 ro.w (x := x) (all := t) ⟨a0, Int.lt_add_one_of_le a1⟩ ⟨b0, Int.lt_add_one_of_le b1⟩ ⟨d0, Int.lt_add_one_of_le d1⟩ ⟨e0, Int.lt_add_one_of_le e1⟩ s (seeds_at p)
    exact this
  · subst he
    obtain ⟨d, d2, d3, d4, d5, d6, d7, rfl⟩ := tds7 (tds_of_trodAll 1 hA)
    exact ⟨_, rfl, _, _, _, [], _, [], hW', trodAll_mk1 (shut_bool Try.underlying4 _), trodAll_below (by kernel_rfl) bel (by kernel_rfl) hA (DataW.TrodAll.lt hA), rfl, bel.frame _, fun h => by cases h⟩
/-- The statement RetainSpoilt. -/
theorem retainSpoilt_proved : Rows.RetainSpoiltSaid :=
  OpenClaim.holds_of_wide 8 Try.f8 rfl rfl rfl rfl rfl rfl rfl ⟨rfl, rfl, rfl, rfl, rfl⟩ rfl rfl rfl rfl rfl (by kernel_rfl) Try.func8 (by kernel_rfl)
    (of_decide_eq_true (by kernel_rfl)) (by unfold Func.isWrapper; first | (rw [if_pos (by decide +kernel)]; kernel_rfl) | (rw [if_neg (by decide +kernel)]; exact ⟨rfl, rfl⟩))
    (fun os started H enc _ => retainSpoilt_lifted os started H enc)
#print axioms retainSpoilt_proved
end Go.Proofs.Ytbcpmbggidemdaa
