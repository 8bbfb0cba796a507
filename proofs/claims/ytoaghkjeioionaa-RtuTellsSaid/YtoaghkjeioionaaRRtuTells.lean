/- A frame of which bits within sixteen in a row, ahead of its sum, are changed is refused: the law RtuTells returns true at every input, and leaves it as it was. No condition. -/
import Derived.Test.YtoaghkjeioionaaOv5
namespace Go.Proofs.Ytoaghkjeioionaa
open Go Go.ChangeShapes Go.WideShapes Go.ChangeAt Go.RowKit Go.Proofs.Ytoaghkjeioionaa.AI
set_option linter.unusedVariables false
set_option maxRecDepth 100000 in
theorem rtuTells_lifted (os : Os) (started : os.Started) (H : Type) (enc : TypeId × Value → H) :
    ReturnsInHanded {} Try.checked os 5 .any (Rows.rtuTellsSpec.pre6 enc Try.prog Try.f5 Rows.rtuTellsRow.domain false) (Rows.rtuTellsSpec.post enc Try.prog Try.f5 false true false false) := by
  refine returnsInHanded_of_change_sized (C := Try.checked) own started (by kernel_rfl) Try.func5
    (ChangeSpec.witness6 (enc := enc) (C := Try.checked) false ⟨#[], #[.int .u8 0, .slice none 0 0, .int .i64 0, .int .u16 0], []⟩ 8 (by kernel_rfl) (by kernel_rfl) (by kernel_rfl) (by kernel_rfl)) ?_
  intro W base args ds gs before hval0 hW hcnd hsz0 _
  have hW' := hW
  obtain ⟨p, q, hA, hV, rfl, hfz, hnd⟩ := hW
  obtain ⟨rfl, rfl⟩ := trodVars_none hV
  rw [Try.params5] at hA hval0
  refine (law_returns (n := 9) (progOk_spec prog_ok) (by kernel_rfl) ov_ok (fun j t v h1 h2 => hval0 j t v (by simpa using h1) (by simpa using h2)) hA (by rw [Try.params5, show DataSpec.varTypes Try.checked.prog Rows.rtuTellsSpec.plain = [] from rfl, List.append_nil, List.append_nil] at hsz0; exact hsz0) (absAs_cons (abs_u8 (by kernel_rfl) (by kernel_rfl)) (absAs_cons abs_bytes (absAs_cons abs_int64 (absAs_cons abs_u16 absAs_nil)))) ?_).mono fun e W' ⟨he, bel⟩ => ?_
  · rintro h _ ⟨x, l, k, e, _⟩ ro ⟨c, r, rfl, rfl, c2, r2, rfl, h2, c3, r3, rfl, ⟨rfl, k0, k1⟩, c4, r4, rfl, ⟨rfl, e0, e1⟩, rfl⟩
    obtain ⟨v, rfl, s, _⟩ := rSl_bytes h2
    simp only [absV_one (P := Try.prog) (t := 22) (by decide), absV_one (P := Try.prog) (t := 5) (by decide), absV_one (P := Try.prog) (t := 3) (by decide), absV_one (P := Try.prog) (t := 36) (by decide)]
    have m0 : IntKind.min .u16 = 0 := rfl
    have m1 : IntKind.max .u16 = 65535 := rfl
    have he : ((BitVec.ofNat 16 e.toNat).toNat : Int) = e := by
      rw [BitVec.toNat_ofNat]; simp only at e0 e1; omega
    have := rtuTells ov5 4 (x := x) (k := k) (e := BitVec.ofNat 16 e.toNat) ro.w ⟨k0, Int.lt_add_one_of_le k1⟩ s
    rw [he] at this
    exact this
  · subst he
    obtain ⟨d, d2, d3, d4, rfl⟩ := tds4 (tds_of_trodAll 1 hA)
    exact ⟨_, rfl, _, _, _, [], _, [], hW', trodAll_mk1 (shut_bool Try.underlying4 _), trodAll_below (by kernel_rfl) bel (by kernel_rfl) hA (DataW.TrodAll.lt hA), rfl, bel.frame _, fun h => by cases h⟩
/-- The statement RtuTells. -/
theorem rtuTells_proved : Rows.RtuTellsSaid :=
  OpenClaim.holds_of_wide 5 Try.f5 rfl rfl rfl rfl rfl rfl rfl ⟨rfl, rfl, rfl, rfl, rfl⟩ rfl rfl rfl rfl rfl (by kernel_rfl) Try.func5 (by kernel_rfl)
    (of_decide_eq_true (by kernel_rfl)) (by unfold Func.isWrapper; first | (rw [if_pos (by decide +kernel)]; kernel_rfl) | (rw [if_neg (by decide +kernel)]; exact ⟨rfl, rfl⟩))
    (fun os started H enc _ => rtuTells_lifted os started H enc)
#print axioms rtuTells_proved
end Go.Proofs.Ytoaghkjeioionaa
