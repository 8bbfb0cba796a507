/- A change of any bits within sixteen in a row is told by the sum: the law CrcTells returns true at every input, and leaves it as it was. No condition. -/
import Derived.Test.YtfikmcfiojpilaaOv2
namespace Go.Proofs.Ytfikmcfiojpilaa
open Go Go.ChangeShapes Go.WideShapes Go.ChangeAt Go.RowKit Go.Proofs.Ytfikmcfiojpilaa.AI
set_option linter.unusedVariables false
set_option maxRecDepth 100000 in
theorem crcTells_lifted (os : Os) (started : os.Started) (H : Type) (enc : TypeId × Value → H) :
    ReturnsInHanded {} Try.checked os 4 .any (Rows.crcTellsSpec.pre6 enc Try.prog Try.f4 Rows.crcTellsRow.domain false) (Rows.crcTellsSpec.post enc Try.prog Try.f4 false true false false) := by
  refine returnsInHanded_of_change_sized (C := Try.checked) own started (by kernel_rfl) Try.func4
    (ChangeSpec.witness6 (enc := enc) (C := Try.checked) false ⟨#[], #[.slice none 0 0, .int .i64 0, .int .u16 0], []⟩ 8 (by kernel_rfl) (by kernel_rfl) (by kernel_rfl) (by kernel_rfl)) ?_
  intro W base args ds gs before hval0 hW hcnd hsz0 _
  have hW' := hW
  obtain ⟨p, q, hA, hV, rfl, hfz, hnd⟩ := hW
  obtain ⟨rfl, rfl⟩ := trodVars_none hV
  rw [Try.params4] at hA hval0
  refine (law_returns (n := 12) (progOk_spec prog_ok) (by kernel_rfl) ov_ok (fun j t v h1 h2 => hval0 j t v (by simpa using h1) (by simpa using h2)) hA (by rw [Try.params4, show DataSpec.varTypes Try.checked.prog Rows.crcTellsSpec.plain = [] from rfl, List.append_nil, List.append_nil] at hsz0; exact hsz0) (absAs_cons abs_bytes (absAs_cons abs_int64 (absAs_cons abs_u16 absAs_nil))) ?_).mono fun e W' ⟨he, bel⟩ => ?_
  · rintro h _ ⟨l, k, e, _⟩ ro ⟨c, r, rfl, h2, c3, r3, rfl, ⟨rfl, k0, k1⟩, c4, r4, rfl, ⟨rfl, e0, e1⟩, rfl⟩
    obtain ⟨v, rfl, s, _⟩ := rSl_bytes h2
    simp only [absV_one (P := Try.prog) (t := 22) (by decide), absV_one (P := Try.prog) (t := 3) (by decide), absV_one (P := Try.prog) (t := 43) (by decide)]
    have m0 : IntKind.min .u16 = 0 := rfl
    have m1 : IntKind.max .u16 = 65535 := rfl
    have he : ((BitVec.ofNat 16 e.toNat).toNat : Int) = e := by
      rw [BitVec.toNat_ofNat]; simp only at e0 e1; omega
    have := crcTells ov_x ov_k 9 (k := k) (e := BitVec.ofNat 16 e.toNat) ro.w ⟨k0, Int.lt_add_one_of_le k1⟩ s
    rw [he] at this
    exact this
  · subst he
    obtain ⟨d, d2, d3, rfl⟩ := tds3 (tds_of_trodAll 1 hA)
    exact ⟨_, rfl, _, _, _, [], _, [], hW', trodAll_mk1 (shut_bool Try.underlying4 _), trodAll_below (by kernel_rfl) bel (by kernel_rfl) hA (DataW.TrodAll.lt hA), rfl, bel.frame _, fun h => by cases h⟩
/-- The statement CrcTells. -/
theorem crcTells_proved : Rows.CrcTellsSaid :=
  OpenClaim.holds_of_wide 4 Try.f4 rfl rfl rfl rfl rfl rfl rfl ⟨rfl, rfl, rfl, rfl, rfl⟩ rfl rfl rfl rfl rfl (by kernel_rfl) Try.func4 (by kernel_rfl)
    (of_decide_eq_true (by kernel_rfl)) (by unfold Func.isWrapper; first | (rw [if_pos (by decide +kernel)]; kernel_rfl) | (rw [if_neg (by decide +kernel)]; exact ⟨rfl, rfl⟩))
    (fun os started H enc _ => crcTells_lifted os started H enc)
#print axioms crcTells_proved
end Go.Proofs.Ytfikmcfiojpilaa
