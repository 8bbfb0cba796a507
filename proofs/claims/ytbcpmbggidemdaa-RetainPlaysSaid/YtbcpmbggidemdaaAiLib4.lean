/- Append of zeros. -/
import Derived.Test.YtbcpmbggidemdaaAiLib3
namespace Go.Proofs.Ytbcpmbggidemdaa.AI
open Go
set_option linter.unusedSimpArgs false
set_option linter.unusedVariables false
variable {h : AH} {v : AVal} {e : TypeId} {sz n : Nat} {c : List AVal}
theorem appendTo_own (w : Wf h) {by_ m : Nat} {d : List AVal} (o : Ow h v e sz n c) (hld : d.length = m * sz) (hc : d.all AVal.isCell = true) (hb : 0 < by_) (hl : 2 * (n + m) * by_ ≤ 2 ^ 48) :
    ∃ v' h', rAppendTo e sz by_ v m d h = some (v', h') ∧ Ow h' v' e sz (n + m) (c ++ d) ∧ Ke (isBk v) h h' ∧ (∀ i, isBk v' i → isBk v i ∨ h.n ≤ i) := by
  obtain ⟨hz, hlc, hcc, ho⟩ := o
  have hcd : (c ++ d).all AVal.isCell = true := by rw [List.all_append, hcc, hc]; rfl
  have hlcd : (c ++ d).length = (n + m) * sz := by simp [hlc, hld, Nat.add_mul]
  unfold rAppendTo
  by_cases h0 : m = 0
  · rw [if_pos h0]
    subst h0
    have : d = [] := List.eq_nil_of_length_eq_zero (by simpa using hld)
    subst this
    rcases ho with ⟨rfl, rfl⟩ | ⟨i, off, cs, opn, par, rfl, hg, h1, h2⟩
    · have : c = [] := List.eq_nil_of_length_eq_zero (by simpa using hlc)
      subst this
      exact ⟨_, _, rfl, Ow.nil h e sz hz, Ke.refl w, fun i hi => .inl hi⟩
    · exact ⟨_, _, rfl, ⟨hz, by simpa using hlc, by simpa using hcc, .inr ⟨i, off, cs, opn, par, rfl, hg, by simpa using h1, by simpa using h2⟩⟩, Ke.refl w, fun i hi => .inl hi⟩
  · rw [if_neg h0]
    rcases ho with ⟨rfl, rfl⟩ | ⟨i, off, cs, opn, par, rfl, hg, h1, h2⟩
    · have : c = [] := List.eq_nil_of_length_eq_zero (by simpa using hlc)
      subst this
      simp only
      rw [if_pos ⟨hb, by simpa using hl⟩]
      unfold AH.newRow
      rw [if_pos hc]
      have k := Kp.push0 w (.row d e true) .rw
      refine ⟨_, _, rfl, ?_, k.ke, fun i hi => .inr (by simp only [isBk] at hi; omega)⟩
      simpa using Ow.new (h := h.push ⟨.row d e true, .rw, []⟩) (n := h.n) (e := e) (o := true) (p := []) (by simp) hz m hld hc
    · simp only [ne_eq, not_true_eq_false, if_false, hg]
      rw [if_neg (by omega), if_pos ⟨hb, hl⟩, if_neg (by simp)]
      have hcap : ¬ (off + n * sz < cs.length) := by omega
      have htake : (cs.drop off).take (n * sz) = c := by rw [h2, ← hlc, List.take_length]
      rw [htake]
      cases opn with
      | false =>
        rw [if_pos (.inr ⟨rfl, h1.symm⟩)]
        unfold AH.newRow
        rw [if_pos hcd]
        have k := Kp.push0 w (.row (c ++ d) e true) .rw
        exact ⟨_, _, rfl, Ow.new (o := true) (p := []) (by simp) hz _ hlcd hcd, k.ke, fun j hj => .inr (by simp only [isBk] at hj; omega)⟩
      | true =>
        rw [if_neg (by simp [hcap]), if_pos (by simp [h1, hc])]
        simp only [if_true]
        have hw2 : Wf (h.set i ⟨.row cs e true, .sup, par⟩) := w.set hg (fun j hj => w.par _ _ hg j hj) (.inl rfl)
        have k2 : Ke (isBk (.slice (some (i, off, sz)) n n)) h (h.set i ⟨.row cs e true, .sup, par⟩) := by
          refine ⟨w, hw2, by simp, fun j b hj hm => ?_⟩
          rw [AH.get_set]
          split
          · rename_i c'
            subst c'
            rw [hg] at hj
            simp only [Option.some.injEq] at hj
            subst hj
            rcases hm with hm | hm
            · cases hm
            · exact absurd rfl hm.2
          · exact hj
        have hpar : ∀ j ∈ i :: par, ∃ b', (h.set i ⟨.row cs e true, .sup, par⟩).get j = some b' ∧ b'.mode ≠ .rw ∧ b'.mode ≠ .ro := by
          intro j hj
          rw [AH.get_set]
          by_cases c' : j = i
          · rw [if_pos c']; exact ⟨_, rfl, by simp, by simp⟩
          · rw [if_neg c']
            rcases List.mem_cons.1 hj with hj | hj
            · exact absurd hj c'
            · exact w.par _ _ hg j hj
        have k3 := Kp.push hw2 (b := ⟨.row (c ++ d) e true, .rw, i :: par⟩) hpar
        refine ⟨_, _, rfl, Ow.new (o := true) (p := i :: par) ?_ hz _ hlcd hcd, k2.trans (Kp.ke k3), fun j hj => .inr (by simp only [isBk] at hj; omega)⟩
        have := AH.get_push (h.set i ⟨.row cs e true, .sup, par⟩) h.n ⟨.row (c ++ d) e true, .rw, i :: par⟩
        simp only [AH.n_set, if_true] at this
        exact this

theorem wp_appendN {Q : AVal → AH → Prop} {K : AVal → AH → Ans} (w : Wf h) {by_ m : Nat} {z : List AVal} {q : IntKind} {i : Int} (o : Ow h v e sz n c) (hi : i = m) (hz : z.length = sz) (hc : z.all AVal.isCell = true) (hb : 0 < by_) (hm : m < 2 ^ 40) (hl : 2 * (n + m) * by_ ≤ 2 ^ 48)
    (k : ∀ v' h', Ow h' v' e sz (n + m) (c ++ manyT m z) → Ke (isBk v) h h' → (∀ i, isBk v' i → isBk v i ∨ h.n ≤ i) → Wp (K v' h') Q) : Wp (ke (rAppendN e sz by_ z v (.int q i) h) K) Q := by
  subst hi
  have hl2 : (manyT m z).length = m * sz := by
    have : ∀ m, (manyT m z).length = m * z.length := fun m => by
      induction m with
      | zero => simp [manyT]
      | succ m ih => simp only [manyT, List.replicate_succ, List.flatten_cons, List.length_append] at ih ⊢; rw [ih, Nat.add_mul]; omega
    rw [this, hz]
  have hc2 : (manyT m z).all AVal.isCell = true := by
    rw [List.all_eq_true] at hc ⊢
    intro x hx
    simp only [manyT, List.mem_flatten, List.mem_replicate] at hx
    obtain ⟨l, ⟨_, rfl⟩, hx⟩ := hx
    exact hc x hx
  obtain ⟨v', h', e1, o', k', f'⟩ := appendTo_own w o hl2 hc2 hb hl
  have hbm : by_ * m ≤ 2 ^ 48 := by
    have h1 : by_ * m = m * by_ := Nat.mul_comm _ _
    have h2 : m * by_ ≤ 2 * (n + m) * by_ := Nat.mul_le_mul_right _ (by omega)
    omega
  have e2 : rAppendN e sz by_ z v (.int q (m : Int)) h = some (v', h') := by
    simp only [rAppendN, Int.toNat_natCast]
    rw [if_pos ⟨by omega, by omega, hbm⟩]
    exact e1
  rw [e2]
  exact k v' h' o' k' f'
theorem wp_kq1 {q : Option AVal} {v : AVal} {K : AVal → Ans} {Q : AVal → AH → Prop} (e : q = some v) (w : Wp (K v) Q) : Wp (kq q K) Q := by subst e; exact w
end Go.Proofs.Ytbcpmbggidemdaa.AI
