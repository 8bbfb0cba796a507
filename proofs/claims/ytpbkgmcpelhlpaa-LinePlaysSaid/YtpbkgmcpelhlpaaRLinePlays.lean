/- A line tells just the frames that the document says, at every script: the law LinePlays returns true at every input, and leaves it as it was. No condition. -/
import Derived.Test.YtpbkgmcpelhlpaaOv7
import Derived.Test.YtpbkgmcpelhlpaaLaw7b
namespace Go.Proofs.Ytpbkgmcpelhlpaa
open Go Go.ChangeShapes Go.WideShapes Go.ChangeAt Go.RowKit Go.Proofs.Ytpbkgmcpelhlpaa.AI
set_option linter.unusedVariables false
abbrev rStep := rCons 1 (rInt .i64) (rCons 1 (rInt .i64) (rCons 1 (rSl rU8 1) rUnit))
theorem abs_steps {H : Type} {k : Nat} : Abs Try.prog H (k + 4) 22 (rSl rStep 3) :=
  abs_slice (e := 26) (by kernel_rfl) (by kernel_rfl) (by kernel_rfl) (by omega) (by kernel_rfl)
    (abs_struct' (hu := Try.underlying26) (by kernel_rfl)
      (absF_cons rfl (by kernel_rfl) abs_int64 (absF_cons rfl (by kernel_rfl) abs_int64 (absF_cons rfl (by kernel_rfl) abs_bytes absF_nil))))
def toStp (x : Int × Int × List UInt8 × Unit) : St7 := ⟨x.1, x.2.1, x.2.2.1⟩
theorem steps_at {h : AH} {cs : List AVal} {xs : List (Int × Int × List UInt8 × Unit)} (hl : cs.length = xs.length * 3) (p : ∀ (i : Nat) x, xs[i]? = some x → rStep h ((cs.drop (i * 3)).take 3) x) : StA h cs (xs.map toStp) := by
  refine ⟨by rw [List.length_map]; exact hl, fun i x hx => ?_⟩
  rw [List.getElem?_map] at hx
  obtain ⟨y, hy, rfl⟩ := Option.map_eq_some_iff.1 hx
  obtain ⟨⟨h1, a0, a1⟩, ⟨h2, b0, b1⟩, h6, h7⟩ := p i y hy
  obtain ⟨v, e6, s6, l6⟩ := rSl_bytes h6
  have hm : reachBytes ≤ 2 ^ 48 := by decide
  have g : ∀ k, k < 3 → cs[i * 3 + k]? = ((cs.drop (i * 3)).take 3)[k]? := fun k hk => by rw [List.getElem?_take_of_lt hk, List.getElem?_drop]
  refine ⟨v, ?_, ?_, ?_, ⟨b0, Int.lt_add_one_of_le b1⟩, s6, Nat.le_trans l6 hm⟩
  · have := congrArg (fun x => x[0]?) h1
    have e := g 0 (by omega)
    rw [Nat.add_zero] at e
    show cs[i * 3]? = some (.int .i64 y.1)
    rw [e]
    simpa using this
  · have := congrArg (fun x => x[0]?) h2
    show cs[i * 3 + 1]? = some (.int .i64 y.2.1)
    rw [g 1 (by omega)]
    simpa using this
  · have := congrArg (fun x => x[0]?) e6
    rw [g 2 (by omega)]
    simpa using this
set_option maxRecDepth 100000 in
theorem linePlays_lifted (os : Os) (started : os.Started) (H : Type) (enc : TypeId × Value → H) :
    ReturnsInHanded {} Try.checked os 3 .any (Rows.linePlaysSpec.pre6 enc Try.prog Try.f3 Rows.linePlaysRow.domain false) (Rows.linePlaysSpec.post enc Try.prog Try.f3 false true false false) := by
  refine returnsInHanded_of_change_sized (C := Try.checked) own started (by kernel_rfl) Try.func3
    (ChangeSpec.witness6 (enc := enc) (C := Try.checked) false ⟨#[], #[.int .u8 0, .int .i64 0, .slice none 0 0], []⟩ 8 (by kernel_rfl) (by kernel_rfl) (by kernel_rfl) (by kernel_rfl)) ?_
  intro W base args ds gs before hval0 hW hcnd hsz0 _
  have hW' := hW
  obtain ⟨p, q, hA, hV, rfl, hfz, hnd⟩ := hW
  obtain ⟨rfl, rfl⟩ := trodVars_none hV
  rw [Try.params3] at hA hval0
  refine (law_returns (n := 10) (progOk_spec prog_ok) (by kernel_rfl) ov_ok (fun j t v h1 h2 => hval0 j t v (by simpa using h1) (by simpa using h2)) hA (by rw [Try.params3, show DataSpec.varTypes Try.checked.prog Rows.linePlaysSpec.plain = [] from rfl, List.append_nil, List.append_nil] at hsz0; exact hsz0) (absAs_cons abs_byte (absAs_cons abs_int64 (absAs_cons abs_steps absAs_nil))) ?_).mono fun e W' ⟨he, bel⟩ => ?_
  · rintro h _ ⟨x, k, l, _⟩ ro ⟨c, r, rfl, rfl, c3, r3, rfl, ⟨rfl, k0, k1⟩, c2, r2, rfl, ⟨v, cs, rfl, s, hl, p⟩, rfl⟩
    simp only [absV_one (P := Try.prog) (t := 22) (by decide), absV_one (P := Try.prog) (t := 3) (by decide), absV_one (P := Try.prog) (t := 5) (by decide)]
    have hm : reachBytes ≤ 2 ^ 48 := by decide
    have hcl := s.clen
    have := linePlays ov_p ov_k 4 (x := x) (k := k) (l := l.map toStp) ro.w ⟨k0, Int.lt_add_one_of_le k1⟩ (s.to rfl (by simp)) (steps_at hcl p) (by rw [List.length_map]; exact Nat.le_trans hl hm)
    exact this
  · subst he
    obtain ⟨d, d2, d3, rfl⟩ := tds3 (tds_of_trodAll 1 hA)
    exact ⟨_, rfl, _, _, _, [], _, [], hW', trodAll_mk1 (shut_bool Try.underlying4 _), trodAll_below (by kernel_rfl) bel (by kernel_rfl) hA (DataW.TrodAll.lt hA), rfl, bel.frame _, fun h => by cases h⟩
/-- The statement LinePlays. -/
theorem linePlays_proved : Rows.LinePlaysSaid :=
  OpenClaim.holds_of_wide 3 Try.f3 rfl rfl rfl rfl rfl rfl rfl ⟨rfl, rfl, rfl, rfl, rfl⟩ rfl rfl rfl rfl rfl (by kernel_rfl) Try.func3 (by kernel_rfl)
    (of_decide_eq_true (by kernel_rfl)) (by unfold Func.isWrapper; first | (rw [if_pos (by decide +kernel)]; kernel_rfl) | (rw [if_neg (by decide +kernel)]; exact ⟨rfl, rfl⟩))
    (fun os started H enc _ => linePlays_lifted os started H enc)
#print axioms linePlays_proved
end Go.Proofs.Ytpbkgmcpelhlpaa
