/- Chapter 17: the document's helpers. -/
import Derived.Test.YtindiedfioiejaaDoorFb6
import Derived.Test.YtindiedfioiejaaDoorAiFbLaw
namespace Go.Proofs.YtindiedfioiejaaDoor.AI
open Go
set_option linter.unusedSimpArgs false
set_option linter.unusedVariables false
variable {ov : AOver} {h : AH}
theorem eqB (nm : Nm) {lit : Nm} (b : Bl) (hb : lit = b.nm) (c : Bool) : rBin .eql .no c (.str nm) (.str lit) = some (.bool (decide (bl? nm = some b))) := by
  subst hb
  rw [rBin_seql]
  congr 2
  by_cases e : nm = b.nm
  · rw [e, bl?_nm]; simp
  · rw [decide_eq_false e, decide_eq_false (fun h => e (bl?_some h))]
theorem eqT (nm : Nm) (c : Bool) :
    rBin .eql .no c (.str nm) (.str [84, 79, 78]) = some (.bool (decide (bl? nm = some .ton))) ∧
    rBin .eql .no c (.str nm) (.str [84, 79, 70]) = some (.bool (decide (bl? nm = some .tof))) ∧
    rBin .eql .no c (.str nm) (.str [84, 80]) = some (.bool (decide (bl? nm = some .tp))) ∧
    rBin .eql .no c (.str nm) (.str [67, 84, 85]) = some (.bool (decide (bl? nm = some .ctu))) ∧
    rBin .eql .no c (.str nm) (.str [67, 84, 68]) = some (.bool (decide (bl? nm = some .ctd))) ∧
    rBin .eql .no c (.str nm) (.str [67, 84, 85, 68]) = some (.bool (decide (bl? nm = some .ctud))) ∧
    rBin .eql .no c (.str nm) (.str [82, 95, 84, 82, 73, 71]) = some (.bool (decide (bl? nm = some .rt))) ∧
    rBin .eql .no c (.str nm) (.str [70, 95, 84, 82, 73, 71]) = some (.bool (decide (bl? nm = some .ft))) ∧
    rBin .eql .no c (.str nm) (.str [83, 82]) = some (.bool (decide (bl? nm = some .sr))) ∧
    rBin .eql .no c (.str nm) (.str [82, 83]) = some (.bool (decide (bl? nm = some .rs))) :=
  ⟨eqB nm .ton rfl c, eqB nm .tof rfl c, eqB nm .tp rfl c, eqB nm .ctu rfl c, eqB nm .ctd rfl c, eqB nm .ctud rfl c, eqB nm .rt rfl c, eqB nm .ft rfl c, eqB nm .sr rfl c, eqB nm .rs rfl c⟩
def insO : Option Bl → List Nm | some b => b.ins | none => []
def outsO : Option Bl → List Nm | some b => b.outs | none => []
/-- What asking for pins comes to. -/
def PinsQ (h : AH) (o : Option Bl) (r : AVal) (h' : AH) : Prop := Kp h h' ∧ ∃ x y, r = .tuple [x, y] ∧ Os h' x (insO o) ∧ Os h' y (outsO o) ∧ Fresh h x ∧ Fresh h y
theorem strs_new {q : Nat} {L : List Nm} (g : h.get q = some ⟨.row (strs L) T_string false, .rw, []⟩) : Os h (.slice (some (q, 0, 1)) L.length L.length) L := Ow.new g (by omega) _ (by simp [strs]) (strs_cells L)
theorem two_pins {K : AVal → AVal → AH → Ans} {o : Option Bl} (w : Wf h) {n1 n2 : Nat} {p1 p2 : List (Nat × AVal)} (L1 L2 : List Nm) (e1 : aFill (fun i => some (i * 1, 1)) (manyT n1 [.str []]) p1 = some (strs L1)) (e2 : aFill (fun i => some (i * 1, 1)) (manyT n2 [.str []]) p2 = some (strs L2))
    (l1 : L1.length = n1) (l2 : L2.length = n2) (m1 : n1 ≤ 10) (m2 : n2 ≤ 10) (ho : insO o = L1 ∧ outsO o = L2) {Q : AVal → AH → Prop} (c : ∀ x y h', PinsQ h o (.tuple [x, y]) h' → Wp (K x y h') Q) :
    Wp (km (mBuildSl T_string 1 [(.str [])] n1 p1) h fun v h1 => km (mBuildSl T_string 1 [(.str [])] n2 p2) h1 fun u h2 => K v u h2) Q := by
  refine wp_buildSl w (by simp; omega) e1 (strs_cells _) fun q1 h1 hq1 k1 c1 g1 => ?_
  refine wp_buildSl k1.w' (by simp; omega) e2 (strs_cells _) fun q2 h2 hq2 k2 c2 g2 => ?_
  subst l1 l2
  refine c _ _ _ ⟨k1.trans k2, _, _, rfl, ?_, ?_, fun i hi => ?_, fun i hi => ?_⟩
  · rw [ho.1]; exact (strs_new g1).kp k2
  · rw [ho.2]; exact strs_new g2
  · simp only [isBk] at hi; omega
  · simp only [isBk] at hi; omega
theorem rpins_spec (H : Plain ov) (n : Nat) (w : Wf h) (nm : Nm) : Wp (kc ov (n + 1) N_rungref15_Pins [.str nm] h) (PinsQ h (bl? nm)) := by
  rw [C_rungref15_Pins H]; unfold F_rungref15_Pins
  (try simp -dsimp (disch := omega) only [↓pre, sp, sp2, wp_some, Int.cast_ofNat_Int, Nat.reduceAdd, Nat.reduceMul, Nat.reduceSub, Nat.reduceLeDiff, Nat.reduceEqDiff, Nat.reducePow, Int.reduceToNat, Int.reducePow, Int.reduceAdd, Int.reduceSub, Int.reduceMul, Int.reduceLT, Int.reduceLE, Int.reduceEq, Int.reduceNeg, ↓eqT nm true])
  refine wp_kJ (fun l h0 => l = [.bool (decide (bl? nm = some .ton ∨ bl? nm = some .tof ∨ bl? nm = some .tp))] ∧ h0 = h) (fun j hj => ?_) ?_
  · (try simp -dsimp (disch := omega) only [↓pre, sp, sp2, wp_some, Int.cast_ofNat_Int, Nat.reduceAdd, Nat.reduceMul, Nat.reduceSub, Nat.reduceLeDiff, Nat.reduceEqDiff, Nat.reducePow, Int.reduceToNat, Int.reducePow, Int.reduceAdd, Int.reduceSub, Int.reduceMul, Int.reduceLT, Int.reduceLE, Int.reduceEq, Int.reduceNeg, ↓eqT nm true])
    refine wp_ite (fun c => ?_) (fun c => ?_)
    · (try simp -dsimp (disch := omega) only [↓pre, sp, sp2, wp_some, Int.cast_ofNat_Int, Nat.reduceAdd, Nat.reduceMul, Nat.reduceSub, Nat.reduceLeDiff, Nat.reduceEqDiff, Nat.reducePow, Int.reduceToNat, Int.reducePow, Int.reduceAdd, Int.reduceSub, Int.reduceMul, Int.reduceLT, Int.reduceLE, Int.reduceEq, Int.reduceNeg]); exact hj _ _ ⟨by simp [c], rfl⟩
    · (try simp -dsimp (disch := omega) only [↓pre, sp, sp2, wp_some, Int.cast_ofNat_Int, Nat.reduceAdd, Nat.reduceMul, Nat.reduceSub, Nat.reduceLeDiff, Nat.reduceEqDiff, Nat.reducePow, Int.reduceToNat, Int.reducePow, Int.reduceAdd, Int.reduceSub, Int.reduceMul, Int.reduceLT, Int.reduceLE, Int.reduceEq, Int.reduceNeg, ↓eqT nm true])
      refine wp_kJ (fun l h0 => l = [.bool (decide (bl? nm = some .tof ∨ bl? nm = some .tp))] ∧ h0 = h) (fun j2 hj2 => ?_) ?_
      · (try simp -dsimp (disch := omega) only [↓pre, sp, sp2, wp_some, Int.cast_ofNat_Int, Nat.reduceAdd, Nat.reduceMul, Nat.reduceSub, Nat.reduceLeDiff, Nat.reduceEqDiff, Nat.reducePow, Int.reduceToNat, Int.reducePow, Int.reduceAdd, Int.reduceSub, Int.reduceMul, Int.reduceLT, Int.reduceLE, Int.reduceEq, Int.reduceNeg, ↓eqT nm true])
        refine wp_ite (fun c2 => ?_) (fun c2 => ?_)
        · (try simp -dsimp (disch := omega) only [↓pre, sp, sp2, wp_some, Int.cast_ofNat_Int, Nat.reduceAdd, Nat.reduceMul, Nat.reduceSub, Nat.reduceLeDiff, Nat.reduceEqDiff, Nat.reducePow, Int.reduceToNat, Int.reducePow, Int.reduceAdd, Int.reduceSub, Int.reduceMul, Int.reduceLT, Int.reduceLE, Int.reduceEq, Int.reduceNeg]); exact hj2 _ _ ⟨by simp [c2], rfl⟩
        · (try simp -dsimp (disch := omega) only [↓pre, sp, sp2, wp_some, Int.cast_ofNat_Int, Nat.reduceAdd, Nat.reduceMul, Nat.reduceSub, Nat.reduceLeDiff, Nat.reduceEqDiff, Nat.reducePow, Int.reduceToNat, Int.reducePow, Int.reduceAdd, Int.reduceSub, Int.reduceMul, Int.reduceLT, Int.reduceLE, Int.reduceEq, Int.reduceNeg]); exact hj2 _ _ ⟨by simp [c2], rfl⟩
      · rintro _ _ ⟨rfl, rfl⟩
        (try simp -dsimp (disch := omega) only [↓pre, sp, sp2, wp_some, Int.cast_ofNat_Int, Nat.reduceAdd, Nat.reduceMul, Nat.reduceSub, Nat.reduceLeDiff, Nat.reduceEqDiff, Nat.reducePow, Int.reduceToNat, Int.reducePow, Int.reduceAdd, Int.reduceSub, Int.reduceMul, Int.reduceLT, Int.reduceLE, Int.reduceEq, Int.reduceNeg, ↓eqT nm true])
        exact hj _ _ ⟨by simp [c], rfl⟩
  · rintro _ h0 ⟨rfl, e⟩
    subst e
    (try simp -dsimp (disch := omega) only [↓pre, sp, sp2, wp_some, Int.cast_ofNat_Int, Nat.reduceAdd, Nat.reduceMul, Nat.reduceSub, Nat.reduceLeDiff, Nat.reduceEqDiff, Nat.reducePow, Int.reduceToNat, Int.reducePow, Int.reduceAdd, Int.reduceSub, Int.reduceMul, Int.reduceLT, Int.reduceLE, Int.reduceEq, Int.reduceNeg, ↓eqT nm true])
    refine wp_ite (fun c => ?_) (fun c => ?_)
    · refine two_pins (o := bl? nm) w [pIN, pPT] [pQ, pET] rfl rfl rfl rfl (by decide) (by decide) (by rcases c with c | c | c <;> rw [c] <;> exact ⟨rfl, rfl⟩) fun x y h' q => ?_
      (try simp -dsimp (disch := omega) only [↓pre, sp, sp2, wp_some, Int.cast_ofNat_Int, Nat.reduceAdd, Nat.reduceMul, Nat.reduceSub, Nat.reduceLeDiff, Nat.reduceEqDiff, Nat.reducePow, Int.reduceToNat, Int.reducePow, Int.reduceAdd, Int.reduceSub, Int.reduceMul, Int.reduceLT, Int.reduceLE, Int.reduceEq, Int.reduceNeg]); exact q
    · (try simp -dsimp (disch := omega) only [↓pre, sp, sp2, wp_some, Int.cast_ofNat_Int, Nat.reduceAdd, Nat.reduceMul, Nat.reduceSub, Nat.reduceLeDiff, Nat.reduceEqDiff, Nat.reducePow, Int.reduceToNat, Int.reducePow, Int.reduceAdd, Int.reduceSub, Int.reduceMul, Int.reduceLT, Int.reduceLE, Int.reduceEq, Int.reduceNeg, ↓eqT nm true])
      refine wp_ite (fun c1 => ?_) (fun c1 => ?_)
      · refine two_pins (o := bl? nm) w [pCU, pR, pPV] [pQ, pCV] rfl rfl rfl rfl (by decide) (by decide) (by rw [c1]; exact ⟨rfl, rfl⟩) fun x y h' q => ?_
        (try simp -dsimp (disch := omega) only [↓pre, sp, sp2, wp_some, Int.cast_ofNat_Int, Nat.reduceAdd, Nat.reduceMul, Nat.reduceSub, Nat.reduceLeDiff, Nat.reduceEqDiff, Nat.reducePow, Int.reduceToNat, Int.reducePow, Int.reduceAdd, Int.reduceSub, Int.reduceMul, Int.reduceLT, Int.reduceLE, Int.reduceEq, Int.reduceNeg]); exact q
      · (try simp -dsimp (disch := omega) only [↓pre, sp, sp2, wp_some, Int.cast_ofNat_Int, Nat.reduceAdd, Nat.reduceMul, Nat.reduceSub, Nat.reduceLeDiff, Nat.reduceEqDiff, Nat.reducePow, Int.reduceToNat, Int.reducePow, Int.reduceAdd, Int.reduceSub, Int.reduceMul, Int.reduceLT, Int.reduceLE, Int.reduceEq, Int.reduceNeg, ↓eqT nm true])
        refine wp_ite (fun c2 => ?_) (fun c2 => ?_)
        · refine two_pins (o := bl? nm) w [pCD, pLD, pPV] [pQ, pCV] rfl rfl rfl rfl (by decide) (by decide) (by rw [c2]; exact ⟨rfl, rfl⟩) fun x y h' q => ?_
          (try simp -dsimp (disch := omega) only [↓pre, sp, sp2, wp_some, Int.cast_ofNat_Int, Nat.reduceAdd, Nat.reduceMul, Nat.reduceSub, Nat.reduceLeDiff, Nat.reduceEqDiff, Nat.reducePow, Int.reduceToNat, Int.reducePow, Int.reduceAdd, Int.reduceSub, Int.reduceMul, Int.reduceLT, Int.reduceLE, Int.reduceEq, Int.reduceNeg]); exact q
        · (try simp -dsimp (disch := omega) only [↓pre, sp, sp2, wp_some, Int.cast_ofNat_Int, Nat.reduceAdd, Nat.reduceMul, Nat.reduceSub, Nat.reduceLeDiff, Nat.reduceEqDiff, Nat.reducePow, Int.reduceToNat, Int.reducePow, Int.reduceAdd, Int.reduceSub, Int.reduceMul, Int.reduceLT, Int.reduceLE, Int.reduceEq, Int.reduceNeg, ↓eqT nm true])
          refine wp_ite (fun c3 => ?_) (fun c3 => ?_)
          · refine two_pins (o := bl? nm) w [pCU, pCD, pR, pLD, pPV] [pQU, pQD, pCV] rfl rfl rfl rfl (by decide) (by decide) (by rw [c3]; exact ⟨rfl, rfl⟩) fun x y h' q => ?_
            (try simp -dsimp (disch := omega) only [↓pre, sp, sp2, wp_some, Int.cast_ofNat_Int, Nat.reduceAdd, Nat.reduceMul, Nat.reduceSub, Nat.reduceLeDiff, Nat.reduceEqDiff, Nat.reducePow, Int.reduceToNat, Int.reducePow, Int.reduceAdd, Int.reduceSub, Int.reduceMul, Int.reduceLT, Int.reduceLE, Int.reduceEq, Int.reduceNeg]); exact q
          · (try simp -dsimp (disch := omega) only [↓pre, sp, sp2, wp_some, Int.cast_ofNat_Int, Nat.reduceAdd, Nat.reduceMul, Nat.reduceSub, Nat.reduceLeDiff, Nat.reduceEqDiff, Nat.reducePow, Int.reduceToNat, Int.reducePow, Int.reduceAdd, Int.reduceSub, Int.reduceMul, Int.reduceLT, Int.reduceLE, Int.reduceEq, Int.reduceNeg, ↓eqT nm true])
            refine wp_kJ (fun l h1 => l = [.bool (decide (bl? nm = some .rt ∨ bl? nm = some .ft))] ∧ h1 = h0) (fun j2 hj2 => ?_) ?_
            · (try simp -dsimp (disch := omega) only [↓pre, sp, sp2, wp_some, Int.cast_ofNat_Int, Nat.reduceAdd, Nat.reduceMul, Nat.reduceSub, Nat.reduceLeDiff, Nat.reduceEqDiff, Nat.reducePow, Int.reduceToNat, Int.reducePow, Int.reduceAdd, Int.reduceSub, Int.reduceMul, Int.reduceLT, Int.reduceLE, Int.reduceEq, Int.reduceNeg, ↓eqT nm true])
              refine wp_ite (fun c4 => ?_) (fun c4 => ?_)
              · (try simp -dsimp (disch := omega) only [↓pre, sp, sp2, wp_some, Int.cast_ofNat_Int, Nat.reduceAdd, Nat.reduceMul, Nat.reduceSub, Nat.reduceLeDiff, Nat.reduceEqDiff, Nat.reducePow, Int.reduceToNat, Int.reducePow, Int.reduceAdd, Int.reduceSub, Int.reduceMul, Int.reduceLT, Int.reduceLE, Int.reduceEq, Int.reduceNeg]); exact hj2 _ _ ⟨by simp [c4], rfl⟩
              · (try simp -dsimp (disch := omega) only [↓pre, sp, sp2, wp_some, Int.cast_ofNat_Int, Nat.reduceAdd, Nat.reduceMul, Nat.reduceSub, Nat.reduceLeDiff, Nat.reduceEqDiff, Nat.reducePow, Int.reduceToNat, Int.reducePow, Int.reduceAdd, Int.reduceSub, Int.reduceMul, Int.reduceLT, Int.reduceLE, Int.reduceEq, Int.reduceNeg]); exact hj2 _ _ ⟨by simp [c4], rfl⟩
            · rintro _ h1 ⟨rfl, e⟩
              subst e
              (try simp -dsimp (disch := omega) only [↓pre, sp, sp2, wp_some, Int.cast_ofNat_Int, Nat.reduceAdd, Nat.reduceMul, Nat.reduceSub, Nat.reduceLeDiff, Nat.reduceEqDiff, Nat.reducePow, Int.reduceToNat, Int.reducePow, Int.reduceAdd, Int.reduceSub, Int.reduceMul, Int.reduceLT, Int.reduceLE, Int.reduceEq, Int.reduceNeg, ↓eqT nm true])
              refine wp_ite (fun c4 => ?_) (fun c4 => ?_)
              · refine two_pins (o := bl? nm) w [pCLK] [pQ] rfl rfl rfl rfl (by decide) (by decide) (by rcases c4 with c4 | c4 <;> rw [c4] <;> exact ⟨rfl, rfl⟩) fun x y h' q => ?_
                (try simp -dsimp (disch := omega) only [↓pre, sp, sp2, wp_some, Int.cast_ofNat_Int, Nat.reduceAdd, Nat.reduceMul, Nat.reduceSub, Nat.reduceLeDiff, Nat.reduceEqDiff, Nat.reducePow, Int.reduceToNat, Int.reducePow, Int.reduceAdd, Int.reduceSub, Int.reduceMul, Int.reduceLT, Int.reduceLE, Int.reduceEq, Int.reduceNeg]); exact q
              · (try simp -dsimp (disch := omega) only [↓pre, sp, sp2, wp_some, Int.cast_ofNat_Int, Nat.reduceAdd, Nat.reduceMul, Nat.reduceSub, Nat.reduceLeDiff, Nat.reduceEqDiff, Nat.reducePow, Int.reduceToNat, Int.reducePow, Int.reduceAdd, Int.reduceSub, Int.reduceMul, Int.reduceLT, Int.reduceLE, Int.reduceEq, Int.reduceNeg, ↓eqT nm true])
                refine wp_ite (fun c5 => ?_) (fun c5 => ?_)
                · refine two_pins (o := bl? nm) w [pS1, pR] [pQ1] rfl rfl rfl rfl (by decide) (by decide) (by rw [c5]; exact ⟨rfl, rfl⟩) fun x y h' q => ?_
                  (try simp -dsimp (disch := omega) only [↓pre, sp, sp2, wp_some, Int.cast_ofNat_Int, Nat.reduceAdd, Nat.reduceMul, Nat.reduceSub, Nat.reduceLeDiff, Nat.reduceEqDiff, Nat.reducePow, Int.reduceToNat, Int.reducePow, Int.reduceAdd, Int.reduceSub, Int.reduceMul, Int.reduceLT, Int.reduceLE, Int.reduceEq, Int.reduceNeg]); exact q
                · (try simp -dsimp (disch := omega) only [↓pre, sp, sp2, wp_some, Int.cast_ofNat_Int, Nat.reduceAdd, Nat.reduceMul, Nat.reduceSub, Nat.reduceLeDiff, Nat.reduceEqDiff, Nat.reducePow, Int.reduceToNat, Int.reducePow, Int.reduceAdd, Int.reduceSub, Int.reduceMul, Int.reduceLT, Int.reduceLE, Int.reduceEq, Int.reduceNeg, ↓eqT nm true])
                  refine wp_ite (fun c6 => ?_) (fun c6 => ?_)
                  · refine two_pins (o := bl? nm) w [pS, pR1] [pQ1] rfl rfl rfl rfl (by decide) (by decide) (by rw [c6]; exact ⟨rfl, rfl⟩) fun x y h' q => ?_
                    (try simp -dsimp (disch := omega) only [↓pre, sp, sp2, wp_some, Int.cast_ofNat_Int, Nat.reduceAdd, Nat.reduceMul, Nat.reduceSub, Nat.reduceLeDiff, Nat.reduceEqDiff, Nat.reducePow, Int.reduceToNat, Int.reducePow, Int.reduceAdd, Int.reduceSub, Int.reduceMul, Int.reduceLT, Int.reduceLE, Int.reduceEq, Int.reduceNeg]); exact q
                  · (try simp -dsimp (disch := omega) only [↓pre, sp, sp2, wp_some, Int.cast_ofNat_Int, Nat.reduceAdd, Nat.reduceMul, Nat.reduceSub, Nat.reduceLeDiff, Nat.reduceEqDiff, Nat.reducePow, Int.reduceToNat, Int.reducePow, Int.reduceAdd, Int.reduceSub, Int.reduceMul, Int.reduceLT, Int.reduceLE, Int.reduceEq, Int.reduceNeg, ↓eqT nm true])
                    have : bl? nm = none := by
                      cases e : bl? nm with
                      | none => rfl
                      | some b => cases b <;> simp_all
                    rw [this]
                    exact ⟨Ke.refl w, _, _, rfl, Ow.nil _ _ _ (by omega), Ow.nil _ _ _ (by omega), fun i hi => hi.elim, fun i hi => hi.elim⟩
end Go.Proofs.YtindiedfioiejaaDoor.AI
