/- A store does just what the document says, at every script: the law BlockPlays returns true at every input, and leaves it as it was. No condition. -/
import Derived.Test.YtbicodikokfokaaOv8
import Derived.Test.YtbicodikokfokaaLaw8b
namespace Go.Proofs.Ytbicodikokfokaa
open Go Go.ChangeShapes Go.WideShapes Go.ChangeAt Go.RowKit Go.Proofs.Ytbicodikokfokaa.AI
set_option linter.unusedVariables false
abbrev rStep := rCons 1 (rInt .i64) (rCons 1 (rInt .i64) (rCons 1 (rInt .i64) (rCons 1 (rInt .i64) (rCons 1 rU8 (rCons 1 (rSl rU8 1) rUnit)))))
theorem abs_steps {H : Type} {k : Nat} : Abs Try.prog H (k + 4) 37 (rSl rStep 6) :=
  abs_slice (e := 47) (by kernel_rfl) (by kernel_rfl) (by kernel_rfl) (by omega) (by kernel_rfl)
    (abs_struct' (hu := Try.underlying47) (by kernel_rfl)
      (absF_cons rfl (by kernel_rfl) abs_int64 (absF_cons rfl (by kernel_rfl) abs_int64 (absF_cons rfl (by kernel_rfl) abs_int64 (absF_cons rfl (by kernel_rfl) abs_int64 (absF_cons rfl (by kernel_rfl) (abs_u8 (by kernel_rfl) (by kernel_rfl)) (absF_cons rfl (by kernel_rfl) abs_bytes absF_nil)))))))
def toStp (x : Int × Int × Int × Int × UInt8 × List UInt8 × Unit) : Stp := ⟨x.1, x.2.1, x.2.2.1, x.2.2.2.1, x.2.2.2.2.1, x.2.2.2.2.2.1⟩
theorem six {c : List AVal} {a b d e f g : AVal} (h1 : c.take 1 = [a]) (h2 : (c.drop 1).take 1 = [b]) (h3 : ((c.drop 1).drop 1).take 1 = [d]) (h4 : (((c.drop 1).drop 1).drop 1).take 1 = [e]) (h5 : ((((c.drop 1).drop 1).drop 1).drop 1).take 1 = [f]) (h6 : (((((c.drop 1).drop 1).drop 1).drop 1).drop 1).take 1 = [g]) (h7 : (((((c.drop 1).drop 1).drop 1).drop 1).drop 1).drop 1 = []) : c = [a, b, d, e, f, g] := by
  rw [← List.take_append_drop 1 c, h1, ← List.take_append_drop 1 (c.drop 1), h2, ← List.take_append_drop 1 ((c.drop 1).drop 1), h3, ← List.take_append_drop 1 (((c.drop 1).drop 1).drop 1), h4, ← List.take_append_drop 1 ((((c.drop 1).drop 1).drop 1).drop 1), h5, ← List.take_append_drop 1 (((((c.drop 1).drop 1).drop 1).drop 1).drop 1), h6, h7]
  rfl
theorem steps_at {h : AH} {cs : List AVal} {xs : List (Int × Int × Int × Int × UInt8 × List UInt8 × Unit)} (p : ∀ (i : Nat) x, xs[i]? = some x → rStep h ((cs.drop (i * 6)).take 6) x) : StA h cs (xs.map toStp) := by
  intro i x hx
  rw [List.getElem?_map] at hx
  obtain ⟨y, hy, rfl⟩ := Option.map_eq_some_iff.1 hx
  obtain ⟨⟨h1, a0, a1⟩, ⟨h2, b0, b1⟩, ⟨h3, c0, c1⟩, ⟨h4, d0, d1⟩, h5, h6, h7⟩ := p i y hy
  obtain ⟨v, e6, s6, l6⟩ := rSl_bytes h6
  have hm : reachBytes ≤ 2 ^ 48 := by decide
  exact ⟨v, six h1 h2 h3 h4 h5 e6 h7, ⟨a0, Int.lt_add_one_of_le a1⟩, ⟨b0, Int.lt_add_one_of_le b1⟩, ⟨c0, Int.lt_add_one_of_le c1⟩, ⟨d0, Int.lt_add_one_of_le d1⟩, s6, Nat.le_trans l6 hm⟩
set_option maxRecDepth 100000 in
theorem blockPlays_lifted (os : Os) (started : os.Started) (H : Type) (enc : TypeId × Value → H) :
    ReturnsInHanded {} Try.checked os 5 .any (Rows.blockPlaysSpec.pre6 enc Try.prog Try.f5 Rows.blockPlaysRow.domain false) (Rows.blockPlaysSpec.post enc Try.prog Try.f5 false true false false) := by
  refine returnsInHanded_of_change_sized (C := Try.checked) own started (by kernel_rfl) Try.func5
    (ChangeSpec.witness6 (enc := enc) (C := Try.checked) false ⟨#[], #[.int .i64 0, .int .i64 0, .slice none 0 0], []⟩ 8 (by kernel_rfl) (by kernel_rfl) (by kernel_rfl) (by kernel_rfl)) ?_
  intro W base args ds gs before hval0 hW hcnd hsz0 _
  have hW' := hW
  obtain ⟨p, q, hA, hV, rfl, hfz, hnd⟩ := hW
  obtain ⟨rfl, rfl⟩ := trodVars_none hV
  rw [Try.params5] at hA hval0
  refine (law_returns (n := 9) (progOk_spec prog_ok) ov_ok (fun j t v h1 h2 => hval0 j t v (by simpa using h1) (by simpa using h2)) hA (by rw [Try.params5, show DataSpec.varTypes Try.checked.prog Rows.blockPlaysSpec.plain = [] from rfl, List.append_nil, List.append_nil] at hsz0; exact hsz0) (absAs_cons abs_int64 (absAs_cons abs_int64 (absAs_cons abs_steps absAs_nil))) ?_).mono fun e W' ⟨he, bel⟩ => ?_
  · rintro h _ ⟨x, y, l, _⟩ ro ⟨c, r, rfl, ⟨rfl, x0, x1⟩, c2, r2, rfl, ⟨rfl, y0, y1⟩, c3, r3, rfl, ⟨v, cs, rfl, s, hl, p⟩, rfl⟩
    simp only [absV_one (P := Try.prog) (t := 3) (by decide), absV_one (P := Try.prog) (t := 37) (by decide)]
    have hm : reachBytes ≤ 2 ^ 48 := by decide
    have := blockPlays ov8 5 (bl := x) (sz := y) (l := l.map toStp) ro.w (s.to rfl (by simp)) (steps_at p) (by rw [List.length_map]; exact Nat.le_trans hl hm)
    exact this
  · subst he
    obtain ⟨d, d2, d3, rfl⟩ := tds3 (tds_of_trodAll 1 hA)
    exact ⟨_, rfl, _, _, _, [], _, [], hW', trodAll_mk1 (shut_bool Try.underlying4 _), trodAll_below (by kernel_rfl) bel (by kernel_rfl) hA (DataW.TrodAll.lt hA), rfl, bel.frame _, fun h => by cases h⟩
/-- The statement BlockPlays. -/
theorem blockPlays_proved : Rows.BlockPlaysSaid :=
  OpenClaim.holds_of_wide 5 Try.f5 rfl rfl rfl rfl rfl rfl rfl ⟨rfl, rfl, rfl, rfl, rfl⟩ rfl rfl rfl rfl rfl (by kernel_rfl) Try.func5 (by kernel_rfl)
    (of_decide_eq_true (by kernel_rfl)) (by unfold Func.isWrapper; first | (rw [if_pos (by decide +kernel)]; kernel_rfl) | (rw [if_neg (by decide +kernel)]; exact ⟨rfl, rfl⟩))
    (fun os started H enc _ => blockPlays_lifted os started H enc)
#print axioms blockPlays_proved
end Go.Proofs.Ytbicodikokfokaa
