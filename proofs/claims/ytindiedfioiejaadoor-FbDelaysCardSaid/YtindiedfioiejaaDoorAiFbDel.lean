/- Chapter 17: timers against the clock. -/
import Derived.Test.YtindiedfioiejaaDoorAiFbLaw
namespace Go.Proofs.YtindiedfioiejaaDoor.AI
open Go
set_option linter.unusedSimpArgs false
set_option linter.unusedVariables false
def JTon (was : Bool) (m p since : Int) (t : Told) : Prop := t.k0 = tr was ∧ (was = true → t.k1 = since ∧ 0 ≤ since ∧ since ≤ m ∧ (t.k2 = 1 ∧ m - since ≥ p ∨ t.k2 = 0 ∧ m - since < p))
def JTof (was : Bool) (m p gone : Int) (t : Told) : Prop := t.k0 = tr was ∧ (was = false → gone = -1 ∧ t.k2 = 0 ∨ 0 ≤ gone ∧ gone ≤ m ∧ (t.k2 = 1 ∧ t.k1 = gone ∧ m - gone < p ∨ t.k2 = 0 ∧ m - gone ≥ p))
def JTp (was : Bool) (m p pulse : Int) (t : Told) : Prop := t.k0 = tr was ∧ (t.k2 = 0 ∨ t.k2 = 1 ∨ t.k2 = 2) ∧ (pulse = -1 ∧ t.k2 ≠ 1 ∨ 0 ≤ pulse ∧ pulse ≤ m ∧ (t.k2 = 1 ∧ t.k1 = pulse ∧ m - pulse < p ∨ t.k2 ≠ 1 ∧ m - pulse ≥ p))
def stepT (b : Bl) (on : Bool) (p : Int) (t : Told) (n : Int) : Told := refM b [tr on, p] t.out t.k0 t.k1 t.k2 n
theorem pt_id {p : Int} (h0 : 0 ≤ p) (h1 : p ≤ 39) : max (wrapM 11 p) 0 = p := by rw [w11]; omega
theorem since_0 (n : Int) : sinceM (wrapM 4 n) (wrapM 4 n) = 0 := by
  unfold sinceM
  simp only [w4]
  rw [wr64_small (by omega)]; omega
theorem gi0 (x : Int) (l : List Int) : gi (x :: l) 0 = x := rfl
theorem gi1 (x y : Int) (l : List Int) : gi (x :: y :: l) 1 = y := rfl
theorem tr_one (b : Bool) : (tr b = 1) = (b = true) := by cases b <;> simp [tr]
theorem tr_zero (b : Bool) : (tr b = 0) = (b = false) := by cases b <;> simp [tr]
theorem del_ton {on was : Bool} {m n p since : Int} {t : Told} (hp : 0 ≤ p ∧ p ≤ 39) (hm : 0 ≤ m) (hn : m ≤ n) (hx : n ≤ 2147483647) (j : JTon was m p since t) :
    (gi (stepT .ton on p t n).out 0 = 1 ↔ (on = true ∧ n - (if on && !was then n else since) ≥ p)) ∧ (stepT .ton on p t n).out.length = 2 ∧ JTon on n p (if on && !was then n else since) (stepT .ton on p t n) := by
  obtain ⟨k0, j⟩ := j
  have ha : decide (gi [tr on, p] 0 ≠ 0) = on := tr_ne on
  have hk0 : decide (wrapM 4 t.k0 = 0) = !was := by rw [k0]; cases was <;> rfl
  have hk1 : decide (wrapM 4 t.k0 ≠ 0) = was := by rw [k0]; cases was <;> rfl
  simp only [stepT, refM, timerM, ha, hk0, hk1, gi1, pt_id hp.1 hp.2]
  have hw := w4_id (n := n) (by omega) hx
  cases on
  · simp [gi, JTon, tr]
  · cases was
    · simp only [decide_true, Bool.true_and, Bool.not_false, if_true, since_0, show ¬ ((0 : Int) = 1) by decide, if_false, gi0, tr_one, decide_eq_true_eq]
      refine ⟨⟨fun h => ⟨trivial, by omega⟩, fun h => by have := h.2; omega⟩, rfl, rfl, fun _ => ⟨hw, by omega, by omega, ?_⟩⟩
      by_cases c : 0 ≥ p
      · left; rw [show decide (min 0 p ≥ p) = true from decide_eq_true (by omega)]; exact ⟨rfl, by omega⟩
      · right; rw [show decide (min 0 p ≥ p) = false from decide_eq_false (by omega)]; exact ⟨rfl, by omega⟩
    · obtain ⟨k1, h0, h1, h2⟩ := j rfl
      simp only [Bool.not_true, Bool.and_false, if_false, Bool.false_eq_true, k1, if_true, true_and]
      rcases h2 with ⟨k2, h2⟩ | ⟨k2, h2⟩
      · simp only [k2, w4_1, if_true]
        refine ⟨by simp [gi]; omega, rfl, rfl, fun _ => ⟨w4_id (by omega) (by omega), h0, by omega, .inl ⟨rfl, by omega⟩⟩⟩
      · rw [since_small h0 (by omega) hx]
        simp only [k2, w4_0, show ¬ ((0 : Int) = 1) by decide, if_false, gi0, tr_one, decide_eq_true_eq]
        refine ⟨by omega, rfl, rfl, fun _ => ⟨w4_id (by omega) (by omega), h0, by omega, ?_⟩⟩
        by_cases c : n - since ≥ p
        · left; simp only [show min (n - since) p ≥ p by omega, decide_true]; exact ⟨rfl, by omega⟩
        · right; simp only [show ¬ min (n - since) p ≥ p by omega, decide_false]; exact ⟨rfl, by omega⟩
theorem del_tof {on was : Bool} {m n p gone : Int} {t : Told} (hp : 0 ≤ p ∧ p ≤ 39) (hm : 0 ≤ m) (hn : m ≤ n) (hx : n ≤ 2147483647) (j : JTof was m p gone t) :
    (gi (stepT .tof on p t n).out 0 = 1 ↔ (on = true ∨ (if !on && was then n else gone) ≥ 0 ∧ n - (if !on && was then n else gone) < p)) ∧ (stepT .tof on p t n).out.length = 2 ∧ JTof on n p (if !on && was then n else gone) (stepT .tof on p t n) := by
  obtain ⟨k0, j⟩ := j
  have ha : decide (gi [tr on, p] 0 ≠ 0) = on := tr_ne on
  have hk0 : decide (wrapM 4 t.k0 = 0) = !was := by rw [k0]; cases was <;> rfl
  have hk1 : decide (wrapM 4 t.k0 ≠ 0) = was := by rw [k0]; cases was <;> rfl
  simp only [stepT, refM, timerM, ha, hk0, hk1, gi1, pt_id hp.1 hp.2]
  have hw := w4_id (n := n) (by omega) hx
  cases on
  · cases was
    · simp only [Bool.not_false, Bool.true_and, Bool.false_eq_true, if_false, ne_eq, not_true, decide_false, false_or]
      rcases j rfl with ⟨hg, k2⟩ | ⟨h0, h1, ⟨k2, k1, h2⟩ | ⟨k2, h2⟩⟩
      · simp only [k2, w4_0, not_true, if_false, hg, tr_f]
        refine ⟨by simp [gi], rfl, rfl, fun _ => .inl ⟨rfl, rfl⟩⟩
      · rw [k1, since_small h0 (by omega) hx]
        simp only [k2, w4_1, show ¬ ((1 : Int) = 0) by decide, not_false_eq_true, if_true, gi0, tr_one, decide_eq_true_eq]
        refine ⟨by omega, rfl, rfl, fun _ => .inr ⟨h0, by omega, ?_⟩⟩
        have hk : wrapM 4 gone = gone := w4_id (by omega) (by omega)
        by_cases c : n - gone < p
        · left; rw [if_pos (by omega)]; exact ⟨rfl, hk, by omega⟩
        · right; rw [if_neg (by omega)]; exact ⟨rfl, by omega⟩
      · simp only [k2, w4_0, not_true, if_false, tr_f]
        refine ⟨by simp [gi]; omega, rfl, rfl, fun _ => .inr ⟨h0, by omega, .inr ⟨rfl, by omega⟩⟩⟩
    · simp only [Bool.not_false, Bool.true_and, Bool.false_eq_true, if_false, ne_eq, not_true, decide_false, if_true, since_0, not_false_eq_true, decide_true, show ¬ ((1 : Int) = 0) by decide, gi0, tr_one, decide_eq_true_eq, false_or]
      refine ⟨by omega, rfl, rfl, fun _ => .inr ⟨by omega, by omega, ?_⟩⟩
      by_cases c : 0 < p
      · left; rw [if_pos (by omega)]; exact ⟨rfl, hw, by omega⟩
      · right; rw [if_neg (by omega)]; exact ⟨rfl, by omega⟩
  · simp [gi, JTof, tr]
theorem del_tp {on was : Bool} {m n p pulse q1 q2 : Int} {t : Told} (hp : 0 ≤ p ∧ p ≤ 39) (hm : 0 ≤ m) (hn : m ≤ n) (hx : n ≤ 2147483647) (j : JTp was m p pulse t)
    (h1 : q1 = if pulse ≥ 0 ∧ n - pulse ≥ p then (if on && !was then -2 else -1) else pulse) (h2 : q2 = if q1 = -1 ∧ (on && !was) = true then n else q1) :
    (q2 ≥ 0 ∧ n - q2 < p → gi (stepT .tp on p t n).out 0 = 1) ∧ (q2 = -1 → gi (stepT .tp on p t n).out 0 = 0) ∧ (stepT .tp on p t n).out.length = 2 ∧ (q2 ≠ -2 → JTp on n p q2 (stepT .tp on p t n)) ∧ -2 ≤ q2 ∧ q2 ≤ n := by
  obtain ⟨k0, kr, j⟩ := j
  have ha : decide (gi [tr on, p] 0 ≠ 0) = on := tr_ne on
  have hk0 : decide (wrapM 4 t.k0 = 0) = !was := by rw [k0]; cases was <;> rfl
  have hk1 : decide (wrapM 4 t.k0 ≠ 0) = was := by rw [k0]; cases was <;> rfl
  simp only [stepT, refM, timerM, ha, hk0, hk1, gi1, pt_id hp.1 hp.2]
  have hw := w4_id (n := n) (by omega) hx
  have kw : wrapM 4 t.k2 = t.k2 := w4_id (by omega) (by omega)
  rw [kw]
  have hon : on = false → (on && !was) = false := fun h => by rw [h]; rfl
  generalize (on && !was) = e at *
  rcases j with ⟨rfl, k2⟩ | ⟨g0, g1, ⟨k2, k1, g2⟩ | ⟨k2, g2⟩⟩
  · simp only [show ¬ ((-1 : Int) ≥ 0) by decide, false_and, if_false] at h1
    subst h1
    simp only [true_and] at h2
    simp only [k2, ne_eq, not_false_eq_true, decide_true, Bool.true_and, decide_false]
    cases e
    · simp only [Bool.false_eq_true, if_false] at h2 ⊢
      subst h2
      simp only [k2, not_false_eq_true, decide_false, Bool.false_and, if_false, tr_f, true_and]
      refine ⟨fun h => absurd h.1 (by decide), fun _ => ?_, ?_, fun _ => ?_, by omega, by omega⟩
      · split <;> rfl
      · split <;> rfl
      · split
        · exact ⟨rfl, .inl rfl, .inl ⟨rfl, show (0 : Int) ≠ 1 by decide⟩⟩
        · exact ⟨rfl, kr, .inl ⟨rfl, k2⟩⟩
    · simp only [if_true] at h2 ⊢
      subst h2
      have ho : ¬ on = false := fun h => by simpa using hon h
      simp only [ho, and_false, if_false, since_0, Bool.true_eq_false, reduceCtorEq, decide_true, Bool.true_and, gi0, tr_one, decide_eq_true_eq]
      refine ⟨fun h => by omega, fun h => by omega, rfl, fun _ => ⟨rfl, ?_, .inr ⟨by omega, by omega, ?_⟩⟩, by omega, by omega⟩
      · by_cases c : min 0 p < p
        · rw [if_pos c]; exact .inr (.inl rfl)
        · rw [if_neg c]; exact .inr (.inr rfl)
      · by_cases c : 0 < p
        · left; rw [if_pos (by omega)]; exact ⟨rfl, hw, by omega⟩
        · right; rw [if_neg (by omega)]; exact ⟨show (2 : Int) ≠ 1 by decide, by omega⟩
  · simp only [k2, ne_eq, not_true, decide_false, Bool.false_and, Bool.false_eq_true, if_false, decide_true, Bool.true_and, if_true]
    rw [k1, since_small g0 (by omega) hx]
    have hk : wrapM 4 pulse = pulse := w4_id (by omega) (by omega)
    by_cases c : n - pulse ≥ p
    · rw [if_pos ⟨g0, c⟩] at h1
      have hc : ¬ min (n - pulse) p < p := by omega
      simp only [hc, if_false, decide_false, tr_f, show ¬ ((2 : Int) = 1) by decide, not_false_eq_true, true_and]
      cases e
      · simp only [Bool.false_eq_true, if_false] at h1
        subst h1
        simp only [Bool.false_eq_true, and_false, if_false] at h2
        subst h2
        refine ⟨fun h => absurd h.1 (by decide), fun _ => ?_, ?_, fun _ => ?_, by omega, by omega⟩
        · split <;> rfl
        · split <;> rfl
        · split
          · exact ⟨rfl, .inl rfl, .inl ⟨rfl, show (0 : Int) ≠ 1 by decide⟩⟩
          · exact ⟨rfl, .inr (.inr rfl), .inl ⟨rfl, show (2 : Int) ≠ 1 by decide⟩⟩
      · simp only [if_true] at h1
        subst h1
        simp only [show ¬ ((-2 : Int) = -1) by decide, false_and, if_false] at h2
        subst h2
        refine ⟨fun h => absurd h.1 (by decide), fun h => absurd h (by decide), ?_, fun h => absurd rfl h, by omega, by omega⟩
        split <;> rfl
    · rw [if_neg (fun h => c h.2)] at h1
      subst h1
      rw [if_neg (fun h => by omega)] at h2
      subst h2
      have hc : min (n - q2) p < p := by omega
      simp only [hc, if_true, decide_true, tr_t, not_true, false_and, if_false, gi0]
      refine ⟨fun _ => trivial, fun h => by omega, rfl, fun _ => ⟨rfl, .inr (.inl rfl), .inr ⟨g0, by omega, .inl ⟨rfl, hk, by omega⟩⟩⟩, by omega, by omega⟩
  · rw [if_pos ⟨g0, by omega⟩] at h1
    simp only [k2, ne_eq, not_false_eq_true, decide_true, Bool.true_and, decide_false]
    cases e
    · simp only [Bool.false_eq_true, if_false] at h1
      subst h1
      simp only [Bool.false_eq_true, and_false, if_false] at h2 ⊢
      subst h2
      simp only [k2, not_false_eq_true, decide_false, Bool.false_and, if_false, tr_f, true_and]
      refine ⟨fun h => absurd h.1 (by decide), fun _ => ?_, ?_, fun _ => ?_, by omega, by omega⟩
      · split <;> rfl
      · split <;> rfl
      · split
        · exact ⟨rfl, .inl rfl, .inl ⟨rfl, show (0 : Int) ≠ 1 by decide⟩⟩
        · exact ⟨rfl, kr, .inl ⟨rfl, k2⟩⟩
    · simp only [if_true] at h1
      subst h1
      simp only [show ¬ ((-2 : Int) = -1) by decide, false_and, if_false] at h2
      subst h2
      simp only [if_true]
      refine ⟨fun h => absurd h.1 (by decide), fun h => absurd h (by decide), ?_, fun h => by simp at h, by omega, by omega⟩
      repeat' split
      all_goals rfl
end Go.Proofs.YtindiedfioiejaaDoor.AI
