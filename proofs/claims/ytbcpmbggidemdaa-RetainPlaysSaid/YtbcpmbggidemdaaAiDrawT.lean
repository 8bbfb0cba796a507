/- Regions that draw their order: the theorem. -/
import Derived.Test.YtbcpmbggidemdaaAiDrawS
namespace Go.Proofs.Ytbcpmbggidemdaa.AI
open Go
set_option linter.unusedSimpArgs false

variable {P : Program} {gl : List Nat} {call : ACall}

structure Stat (P : Program) (ops : Array Oper) (σ : List Nat) : Prop where
  topo : Topo (ancTab ops) σ.reverse
  nodup : σ.Nodup
  full : ∀ i, i < ops.size → i ∈ σ
  edge : ∀ x i q, σ.reverse = x ++ i :: q → ∃ o, ops[i]? = some o ∧ ∀ e ∈ o.after, Region.binds .any e = true → e.on ∈ q ∧ e.on < ops.size
  eff : ∀ x i q, σ.reverse = x ++ i :: q → ∀ e ∈ q, isEff P ops e = true → isAnc (ancTab ops) e i = true
  slots : ∀ i j d o, dstOf ops i = some d → ops[j]? = some o → i ≠ j → (d ∈ slots ops o ∨ o.dst = some d) → isAnc (ancTab ops) i j = true ∨ isAnc (ancTab ops) j i = true
  len : σ.length = ops.size

theorem anc_lt {ops : Array Oper} (he : ∀ o ∈ ops.toList, ∀ e ∈ o.after.toList, Region.binds .any e = true → e.on < ops.size) : ∀ (n i j : Nat), j < n → isAnc (ancTab ops) i j = true → i < ops.size
  | 0, _, _, h, _ => by omega
  | n + 1, i, j, hj, h => by
      obtain ⟨o, ho, e, hm, hb, hi⟩ := isAnc_spec h
      rcases hi with rfl | ⟨hlt, hi⟩
      · exact he o (by simpa using Array.mem_of_getElem? ho) e (by simpa using hm) hb
      · exact anc_lt he n i e.on (by omega) hi

theorem topoB_nodup {ops : Array Oper} {tab : List Nat} : ∀ {p : List Nat}, topoB P ops tab p = true → p.Nodup
  | [], _ => List.nodup_nil
  | i :: p, h => by
      simp only [topoB, Bool.and_eq_true, Bool.not_eq_true', List.contains_eq_mem, decide_eq_false_iff_not] at h
      exact List.nodup_cons.2 ⟨h.1.1.1.1, topoB_nodup h.2⟩
theorem topoB_topo {ops : Array Oper} (hlt : ∀ i j, isAnc (ancTab ops) i j = true → i < ops.size) : ∀ {p : List Nat}, topoB P ops (ancTab ops) p = true → Topo (ancTab ops) p
  | [], _ => .nil
  | i :: p, h => by
      simp only [topoB, Bool.and_eq_true, Bool.not_eq_true', List.contains_eq_mem, decide_eq_false_iff_not, List.all_eq_true, List.mem_range, Bool.or_eq_true, decide_eq_true_eq] at h
      refine .cons h.1.1.1.1 (fun j hj => ?_) (topoB_topo hlt h.2)
      rcases h.1.1.2 j (hlt j i hj) with h1 | h1
      · rw [hj] at h1; cases h1
      · exact h1
theorem topoB_split {ops : Array Oper} {tab : List Nat} : ∀ (x : List Nat) {i : Nat} {q p : List Nat}, topoB P ops tab p = true → p = x ++ i :: q →
    (∃ o, ops[i]? = some o ∧ ∀ e ∈ o.after, Region.binds .any e = true → e.on ∈ q ∧ e.on < ops.size) ∧ ∀ e ∈ q, isEff P ops e = true → isAnc tab e i = true
  | [], i, q, p, h, e => by
      subst e
      simp only [List.nil_append, topoB, Bool.and_eq_true] at h
      obtain ⟨⟨⟨⟨h1, h2⟩, h3⟩, h4⟩, h5⟩ := h
      constructor
      · split at h2
        · rename_i o ho
          refine ⟨o, ho, fun e he hb => ?_⟩
          simp only [List.all_eq_true, Bool.or_eq_true, Bool.not_eq_true', Bool.and_eq_true, List.contains_eq_mem, decide_eq_true_eq] at h2
          rcases h2 e (by simpa using he) with h6 | h6
          · rw [hb] at h6; cases h6
          · exact h6
        · cases h2
      · intro e he hee
        simp only [List.all_eq_true, Bool.or_eq_true, Bool.not_eq_true'] at h4
        rcases h4 e he with h6 | h6
        · rw [hee] at h6; cases h6
        · exact h6
  | y :: x, i, q, p, h, e => by
      subst e
      simp only [List.cons_append, topoB, Bool.and_eq_true] at h
      exact topoB_split x h.2 rfl

theorem drawOk_stat {ops : Array Oper} (h : drawOk P ops = true) : Stat P ops (asap P ops) := by
  unfold drawOk at h
  simp only [Bool.and_eq_true] at h
  obtain ⟨⟨⟨⟨h1, h2⟩, h3⟩, h4⟩, h5⟩ := h
  have he : ∀ o ∈ ops.toList, ∀ e ∈ o.after.toList, Region.binds .any e = true → e.on < ops.size := by
    intro o ho e he hb
    simp only [List.all_eq_true, Bool.or_eq_true, Bool.not_eq_true', decide_eq_true_eq] at h5
    rcases h5 o ho e he with h6 | h6
    · rw [hb] at h6; cases h6
    · exact h6
  have hlt : ∀ i j, isAnc (ancTab ops) i j = true → i < ops.size := fun i j hij => anc_lt he (j + 1) i j (by omega) hij
  refine ⟨topoB_topo hlt h1, ((List.reverse_perm _).nodup_iff).1 (topoB_nodup h1), ?_, fun x i q e => (topoB_split x h1 e).1, fun x i q e => (topoB_split x h1 e).2, ?_, by simpa using h2⟩
  · intro i hi
    simp only [List.all_eq_true, List.mem_range, List.contains_eq_mem, decide_eq_true_eq] at h4
    exact h4 i hi
  · intro i j d o hd ho hij hs
    simp only [slotsB, List.all_eq_true, List.mem_range, Bool.or_eq_true, beq_iff_eq] at h3
    have hi : i < ops.size := by
      unfold dstOf at hd
      cases hx : ops[i]? with
      | none => rw [hx] at hd; cases hd
      | some _ => exact (Array.getElem?_eq_some_iff.1 hx).1
    have hj : j < ops.size := (Array.getElem?_eq_some_iff.1 ho).1
    have := h3 i hi j hj
    rcases this with h6 | h6
    · exact absurd h6 hij
    · rw [hd, ho] at h6
      simp only [Bool.or_eq_true, Bool.not_eq_true', Bool.or_eq_false_iff, List.contains_eq_mem, decide_eq_false_iff_not, beq_eq_false_iff_ne] at h6
      rcases h6 with (h6 | h6) | h6
      · exfalso
        rcases hs with hs | hs
        · exact h6.1 hs
        · exact h6.2 hs
      · exact .inl h6
      · exact .inr h6

/-- What is listed. -/
structure LR (ops : Array Oper) (listed : Array Bool) (p : List Nat) : Prop where
  size : listed.size = ops.size
  mem : ∀ i, i < ops.size → (listed[i]? = some true ↔ i ∈ p)
theorem LR.step {ops : Array Oper} {listed : Array Bool} {p : List Nat} (l : LR ops listed p) {j : Nat} (hj : j < ops.size) : LR ops (listed.setIfInBounds j true) (j :: p) := by
  refine ⟨by simpa using l.size, fun i hi => ?_⟩
  rw [Array.getElem?_setIfInBounds]
  by_cases e : j = i
  · subst e; simp [l.size, hj]
  · rw [if_neg e, l.mem i hi]
    simp [Ne.symm e]
theorem LR.ready {ops : Array Oper} {listed : Array Bool} {p : List Nat} (l : LR ops listed p) {j : Nat} (hr : j ∈ Region.ready .any ops listed) :
    j < ops.size ∧ j ∉ p ∧ ∃ o, ops[j]? = some o ∧ ∀ e ∈ o.after, Region.binds .any e = true → e.on ∈ p ∧ e.on < ops.size := by
  obtain ⟨h0, o, ho, hall⟩ := mem_ready.1 hr
  have hj : j < ops.size := (Array.getElem?_eq_some_iff.1 ho).1
  refine ⟨hj, ?_, o, ho, fun e he hb => ?_⟩
  · intro hp
    have := (l.mem j hj).2 hp
    simp [Array.getD_eq_getD_getElem?, this] at h0
  · have h1 := hall e he hb
    by_cases hlt : e.on < ops.size
    · refine ⟨(l.mem e.on hlt).1 ?_, hlt⟩
      rw [Array.getD_eq_getD_getElem?] at h1
      cases hx : listed[e.on]? with
      | none => rw [hx] at h1; cases h1
      | some b => rw [hx] at h1; simp at h1; rw [h1]
    · exfalso
      rw [Array.getD_eq_getD_getElem?, Array.getElem?_eq_none (by rw [l.size]; omega)] at h1
      cases h1
theorem LR.ready_of {ops : Array Oper} {listed : Array Bool} {p : List Nat} (l : LR ops listed p) {j : Nat} {o : Oper} (ho : ops[j]? = some o) (hj : j ∉ p) (he : ∀ e ∈ o.after, Region.binds .any e = true → e.on ∈ p ∧ e.on < ops.size) :
    j ∈ Region.ready .any ops listed := by
  have hlt : j < ops.size := (Array.getElem?_eq_some_iff.1 ho).1
  refine mem_ready.2 ⟨?_, o, ho, fun e hm hb => ?_⟩
  · cases hx : listed[j]? with
    | none => rw [Array.getElem?_eq_none_iff, l.size] at hx; omega
    | some b =>
      cases b
      · simp [Array.getD_eq_getD_getElem?, hx]
      · exact absurd ((l.mem j hlt).1 hx) hj
  · obtain ⟨h1, h2⟩ := he e hm hb
    simp [Array.getD_eq_getD_getElem?, (l.mem e.on h2).2 h1]

/-- How many are left. -/
def left (σ p : List Nat) : Nat := (σ.filter fun i => decide (i ∉ p)).length
theorem left_step : ∀ {σ p : List Nat} {j : Nat}, σ.Nodup → j ∈ σ → j ∉ p → left σ (j :: p) + 1 = left σ p
  | [], _, _, _, h, _ => by cases h
  | i :: σ, p, j, hn, hj, hp => by
      obtain ⟨h1, h2⟩ := List.nodup_cons.1 hn
      unfold left
      by_cases e : i = j
      · subst e
        have : (σ.filter fun k => decide (k ∉ i :: p)) = σ.filter fun k => decide (k ∉ p) := by
          refine List.filter_congr fun k hk => ?_
          have hki : k ≠ i := fun e => h1 (e ▸ hk)
          simp [hki]
        rw [List.filter_cons_of_neg (by simp), List.filter_cons_of_pos (by simpa using hp), this]
        simp
      · have hj' : j ∈ σ := by
          rcases List.mem_cons.1 hj with h | h
          · exact absurd h.symm e
          · exact h
        have ih := left_step h2 hj' hp
        unfold left at ih
        by_cases hip : i ∈ p
        · rw [List.filter_cons_of_neg (by simp [hip]), List.filter_cons_of_neg (by simp [hip])]
          exact ih
        · rw [List.filter_cons_of_pos (by simp [hip, e]), List.filter_cons_of_pos (by simp [hip])]
          simp only [List.length_cons]; omega
theorem left_zero {σ p : List Nat} (h : left σ p = 0) : ∀ i ∈ σ, i ∈ p := by
  intro i hi
  unfold left at h
  have := List.eq_nil_of_length_eq_zero h
  have h2 := List.filter_eq_nil_iff.1 this i hi
  simpa using h2
theorem left_first : ∀ {σ p : List Nat}, left σ p ≠ 0 → ∃ pre j post, σ = pre ++ j :: post ∧ j ∉ p ∧ ∀ i ∈ pre, i ∈ p
  | [], p, h => by simp [left] at h
  | i :: σ, p, h => by
      by_cases hi : i ∈ p
      · have : left σ p ≠ 0 := by
          unfold left at h ⊢
          rw [List.filter_cons_of_neg (by simp [hi])] at h
          exact h
        obtain ⟨pre, j, post, rfl, hj, hall⟩ := left_first this
        exact ⟨i :: pre, j, post, rfl, hj, fun k hk => by
          rcases List.mem_cons.1 hk with rfl | hk
          · exact hi
          · exact hall k hk⟩
      · exact ⟨[], i, σ, rfl, hi, by simp⟩
theorem Topo.suffix {tab : List Nat} : ∀ {x q : List Nat}, Topo tab (x ++ q) → Topo tab q
  | [], _, h => h
  | _ :: x, _, .cons _ _ h => Topo.suffix (x := x) h

/-- What an operation looks at is as it is in the order that was walked. -/
theorem same_slots {ops : Array Oper} {σ : List Nat} (st : Stat P ops σ) {p : List Nat} (hp : Topo (ancTab ops) p) {j : Nat} {o : Oper} (ho : ops[j]? = some o) (hj : j ∉ p)
    (hanc : ∀ i, isAnc (ancTab ops) i j = true → i ∈ p) {x pre : List Nat} (hσ : σ.reverse = x ++ j :: pre) (V : Nat → AVal) (t0 : List AVal) :
    ∀ s ∈ slots ops o, (tA ops V t0 p)[s]? = (tA ops V t0 pre)[s]? := by
  intro s hs
  have htopo : Topo (ancTab ops) (j :: pre) := Topo.suffix (x := x) (hσ ▸ st.topo)
  cases htopo with
  | cons hn ha hq =>
    rw [tA_get, tA_get]
    rw [hp.same hq (f := fun i => dstOf ops i == some s) ?_ ?_]
    · intro i hi
      have hi' : dstOf ops i = some s := by simpa using hi
      by_cases e : i = j
      · subst e; exact ⟨fun h => absurd h hj, fun h => absurd h hn⟩
      · rcases st.slots i j s o hi' ho e (.inl hs) with h1 | h1
        · exact ⟨fun _ => ha i h1, fun _ => hanc i h1⟩
        · exact ⟨fun h => absurd (hp.anc h h1) hj, fun h => absurd (hq.anc h h1) hn⟩
    · intro i k hi hk hik
      have hi' : dstOf ops i = some s := by simpa using hi
      have hk' : dstOf ops k = some s := by simpa using hk
      unfold dstOf at hk'
      cases hok : ops[k]? with
      | none => rw [hok] at hk'; cases hk'
      | some ok =>
        rw [hok] at hk'
        exact st.slots i k s ok hi' hok hik (.inr (by simpa using hk'))
theorem same_all {ops : Array Oper} {σ : List Nat} (st : Stat P ops σ) {p q : List Nat} (hp : Topo (ancTab ops) p) (hq : Topo (ancTab ops) q) (hs : ∀ i, i ∈ p ↔ i ∈ q) (V : Nat → AVal) (t0 : List AVal) : tA ops V t0 p = tA ops V t0 q := by
  apply List.ext_getElem?
  intro s
  rw [tA_get, tA_get, hp.same hq (f := fun i => dstOf ops i == some s) (fun i _ => hs i) ?_]
  intro i k hi hk hik
  have hi' : dstOf ops i = some s := by simpa using hi
  have hk' : dstOf ops k = some s := by simpa using hk
  unfold dstOf at hk'
  cases hok : ops[k]? with
  | none => rw [hok] at hk'; cases hk'
  | some ok =>
    rw [hok] at hk'
    exact st.slots i k s ok hi' hok hik (.inr (by simpa using hk'))
end Go.Proofs.Ytbcpmbggidemdaa.AI
