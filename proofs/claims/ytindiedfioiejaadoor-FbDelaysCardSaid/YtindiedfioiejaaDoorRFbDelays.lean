/- The law FbDelays returns true at every input, and leaves it as it was: the timers answer just when their times say. No condition beside what is laid. -/
import Derived.Test.YtindiedfioiejaaDoorOv17b
import Derived.Test.YtindiedfioiejaaDoorFl11
namespace Go.Proofs.YtindiedfioiejaaDoor
open Go Go.ChangeShapes Go.WideShapes Go.ChangeAt Go.RowKit Go.Proofs.YtindiedfioiejaaDoor.AI
set_option linter.unusedVariables false
set_option maxRecDepth 100000 in
theorem fbDelays_lifted (os : Os) (started : os.Started) (H : Type) (enc : TypeId × Value → H) :
    ReturnsInHanded {} Tryd.checked os 5 .any (fun w args => (Rows.fbDelaysSpec.pre enc Tryd.prog Tryd.f5 [] false w args ∧ laidMetH Tryd.prog laid2 w) ∧ sizedMet enc Tryd.prog Tryd.f5 (OpenSpec.ofChange Rows.fbDelaysSpec) false w args)
      (Rows.fbDelaysSpec.post enc Tryd.prog Tryd.f5 false true false false) := by
  refine returnsInHanded_of_change_and (C := Tryd.checked) (X := fun w _ => laidMetH Tryd.prog laid2 w) (fun _ _ _ hh h => h.of_heap hh) own started (by kernel_rfl) Tryd.func5
    (ChangeSpec.witness_shaped (enc := enc) (C := Tryd.checked) (os := os) (X := fun w _ => laidMetH Tryd.prog laid2 w) false (World.doorLaid Tryd.prog 400 os) #[.slice none 0 0, .slice none 0 0, .int .u8 0] 8 rfl (World.shaped_of_RefB (by kernel_rfl) (by kernel_rfl)) (by kernel_rfl) (by kernel_rfl) (by kernel_rfl) (door_met os _)) ?_
  intro W base args ds gs before hval0 hW _ hsz0 hL _
  have hW' := hW
  obtain ⟨p, q, hA, hV, rfl, hfz, hnd⟩ := hW
  obtain ⟨rfl, rfl⟩ := trodVars_none hV
  rw [Tryd.params5] at hA hval0
  obtain ⟨C, e, fr, hb, hl, hv⟩ := of_laid hL
  refine (law_returnsG (n := 10) (el := 0) (progOk_spec prog_ok) (by kernel_rfl) ov_ok (fun j t v h1 h2 => hval0 j t v (by simpa using h1) (by simpa using h2)) hA (by rw [Tryd.params5, show DataSpec.varTypes Tryd.checked.prog Rows.fbDelaysSpec.plain = [] from rfl, List.append_nil, List.append_nil] at hsz0; exact hsz0) hb hl hv (absAs_cons abs_bs (absAs_cons abs_ys (absAs_cons abs_y absAs_nil))) ?_).mono fun e W' ⟨he, bel⟩ => ?_
  · rintro h _ ⟨l, u, x, _⟩ ro hg ⟨c2, r2, rfl, ⟨v, cs, rfl, s, hl, p⟩, c3, r3, rfl, ⟨v', cs', rfl, s', hl', p'⟩, c4, r4, rfl, ⟨rfl, x0, x1⟩, rfl⟩
    simp only [absV_one (P := Tryd.prog) (t := 32) (by decide), absV_one (P := Tryd.prog) (t := 40) (by decide), absV_one (P := Tryd.prog) (t := 5) (by decide)]
    have e := cells_bools (by rw [s.clen]; omega) p
    subst e
    obtain ⟨e, hi⟩ := cells_ints (by rw [s'.clen]; omega) p'
    subst e
    have := fbDelays ov_p ov_k 1 ro.w (tb_of hg) s s' hi ⟨x0, x1⟩
    exact this
  · subst he
    obtain ⟨d, d2, d3, rfl⟩ := tds3 (tds_of_trodAll 1 hA)
    exact ⟨_, rfl, _, _, _, [], _, [], hW', trodAll_mk1 (shut_bool Tryd.underlying4 _), trodAll_below (by kernel_rfl) bel (by kernel_rfl) hA (DataW.TrodAll.lt hA), rfl, bel.frame _, fun h => by cases h⟩
theorem fbDelays_said : Rows.FbDelaysSaid :=
  OpenClaim.holds_of_wide 5 Tryd.f5 rfl rfl rfl rfl rfl rfl rfl ⟨rfl, rfl, rfl, rfl, rfl⟩ rfl rfl rfl rfl rfl (by kernel_rfl) Tryd.func5 (by kernel_rfl)
    (of_decide_eq_true (by kernel_rfl)) (by unfold Func.isWrapper; first | (rw [if_pos (by decide +kernel)]; kernel_rfl) | (rw [if_neg (by decide +kernel)]; exact ⟨rfl, rfl⟩))
    (fun os started H enc _ => fbDelays_lifted os started H enc)
/-- The statement FbDelays, tied to the program's text. -/
theorem fbDelays_proved : Rows.FbDelaysCardSaid :=
  Claim7.holds_tied_plain_at .later [] [.listed, .data] true (true, "e55ef08f6da2cbf10fca0620f5f347679d23dc9344bbda273841735052c00611") false
    fbDelays_said (fun _ h => by cases h) (by kernel_rfl) (fun _ h => by cases h) fbDelays_row_tie rfl ⟨rfl, rfl⟩ (by kernel_rfl) rfl
    (fun f fn hf hfn => by
      obtain rfl : f = 5 := Option.some.inj ((show Tryd.prog.funcNamed "rung/runglaw17.FbDelays" = some 5 by kernel_rfl).symm.trans hf) |>.symm
      obtain rfl : fn = Tryd.f5 := (Option.some.inj (Tryd.func5.symm.trans hfn)).symm
      exact ⟨by kernel_rfl, fun j t ht => by
        rw [Tryd.params5] at ht
        exact wants_none (by kernel_rfl) ht⟩)
    (by kernel_rfl)
#print axioms fbDelays_proved
end Go.Proofs.YtindiedfioiejaaDoor
