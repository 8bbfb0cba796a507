/- Lib3, Lib4, Lib5 of the machine, joined. -/
import Derived.Test.YtfppdfmffdkogaaAiExt
import Derived.Test.YtfppdfmffdkogaaAiLib2
import Derived.Test.YtfppdfmffdkogaaAiOpsM
namespace Go.Proofs.Ytfppdfmffdkogaa.AI
open Go
set_option linter.unusedSimpArgs false
set_option linter.unusedVariables false
variable {h : AH} {i off : Nat} {cs : List AVal} {e : TypeId} {o : Bool} {par : List Nat} {k : IntKind} {x y : Int}
theorem lt_of_at {cs : List AVal} {off : Nat} {x : AVal} (hx : cs[off]? = some x) : off < cs.length := by
  rcases Nat.lt_or_ge off cs.length with h | h
  · exact h
  · rw [List.getElem?_eq_none h] at hx; cases hx
theorem xLoad_eq (hr : h.row i = some cs) (hx : cs[off]? = some (.int k x)) : xLoad k [.ptr (some (i, off))] h = some (.int k x, h) := by
  unfold xLoad
  simp only [hr, Option.bind_some, hx, if_true]
theorem xAdd_wp (w : Wf h) (g : h.get i = some ⟨.row cs e o, .rw, par⟩) (hx : cs[off]? = some (.int k x)) :
    Wp (xAdd k [.ptr (some (i, off)), .int k y] h) fun r h1 => r = .int k (k.wrap (x + y)) ∧ Ke (· = i) h h1 ∧ h1.n = h.n ∧ h1.get i = some ⟨.row (splice cs off [.int k (k.wrap (x + y))]) e o, .rw, []⟩ := by
  have hlt := lt_of_at hx
  obtain ⟨h', e1, e2, e3, e4⟩ := write_own w (off := off) (vs := [.int k (k.wrap (x + y))]) g (by simp only [List.length_cons, List.length_nil]; omega) rfl
  unfold xAdd
  simp only [row_rw g, Option.bind_some, hx, and_self, if_true, e1, Option.map_some]
  exact Wp.ret ⟨rfl, e3, e4, e2⟩
theorem xStore_wp (w : Wf h) (g : h.get i = some ⟨.row cs e o, .rw, par⟩) (hlt : off < cs.length) :
    Wp (xStore k [.ptr (some (i, off)), .int k y] h) fun r h1 => r = .tuple [] ∧ Ke (· = i) h h1 ∧ h1.n = h.n ∧ h1.get i = some ⟨.row (splice cs off [.int k y]) e o, .rw, []⟩ := by
  obtain ⟨h', e1, e2, e3, e4⟩ := write_own w (off := off) (vs := [.int k y]) g (by simp only [List.length_cons, List.length_nil]; omega) rfl
  unfold xStore
  simp only [if_true, e1, Option.map_some]
  exact Wp.ret ⟨rfl, e3, e4, e2⟩
theorem xCas_wp (w : Wf h) (g : h.get i = some ⟨.row cs e o, .rw, par⟩) (hx : cs[off]? = some (.int k x)) :
    Wp (xCas k [.ptr (some (i, off)), .int k x, .int k y] h) fun r h1 => r = .bool true ∧ Ke (· = i) h h1 ∧ h1.n = h.n ∧ h1.get i = some ⟨.row (splice cs off [.int k y]) e o, .rw, []⟩ := by
  have hlt := lt_of_at hx
  obtain ⟨h', e1, e2, e3, e4⟩ := write_own w (off := off) (vs := [.int k y]) g (by simp only [List.length_cons, List.length_nil]; omega) rfl
  unfold xCas
  simp only [row_rw g, Option.bind_some, hx, and_self, if_true, e1, Option.map_some]
  exact Wp.ret ⟨rfl, e3, e4, e2⟩
/-- Bytes of one's own become bytes that are read alone. -/
theorem convB_wp (w : Wf h) (g : h.get i = some ⟨.row cs e o, .rw, par⟩) {n c sz : Nat} (hn : 0 < n) :
    Wp (rConvB (.slice (some (i, off, sz)) n c) h) fun r h1 => r = .slice (some (i, off, sz)) n c ∧ Ke (· = i) h h1 ∧ h1.n = h.n ∧ h1.get i = some ⟨.row cs e o, .ro, par⟩ := by
  unfold rConvB
  simp only [if_pos hn, g]
  refine Wp.ret ⟨rfl, ⟨w, w.set g (fun j hj => w.par _ _ g j hj) (.inl rfl), by simp, fun j b hj hm => ?_⟩, by simp, by simp⟩
  rw [AH.get_set]
  split
  · rename_i c
    subst c
    rw [hj] at g
    simp only [Option.some.injEq] at g
    subst g
    rcases hm with hm | hm
    · cases hm
    · exact absurd rfl hm.2
  · exact hj

/-! A slice of its own with room behind it. -/
def Oc (h : AH) (v : AVal) (e : TypeId) (sz n : Nat) (c : List AVal) : Prop :=
  0 < sz ∧ c.length = n * sz ∧ c.all AVal.isCell = true ∧ ((v = .slice none 0 0 ∧ n = 0) ∨ ∃ i off cap cs opn par, v = .slice (some (i, off, sz)) n cap ∧ h.get i = some ⟨.row cs e opn, .rw, par⟩ ∧ n ≤ cap ∧ cs.length = off + cap * sz ∧ (cs.drop off).take (n * sz) = c)
theorem Ow.oc {v : AVal} {sz n : Nat} {c : List AVal} (o : Ow h v e sz n c) : Oc h v e sz n c := by
  obtain ⟨hz, hl, hc, ho⟩ := o
  refine ⟨hz, hl, hc, ?_⟩
  rcases ho with ho | ⟨i, off, cs, opn, par, rfl, hg, h1, h2⟩
  · exact .inl ho
  · exact .inr ⟨i, off, n, cs, opn, par, rfl, hg, Nat.le_refl _, h1, by rw [h2, ← hl, List.take_length]⟩
theorem Oc.rd {v : AVal} {sz n : Nat} {c : List AVal} (o : Oc h v e sz n c) : Sz h v sz n c .rw := by
  obtain ⟨hz, hl, hc, ho⟩ := o
  rcases ho with ⟨rfl, rfl⟩ | ⟨i, off, cap, cs, opn, par, rfl, hg, hn, h1, h2⟩
  · have : c = [] := List.eq_nil_of_length_eq_zero (by simpa using hl)
    subst this; exact Sz.nil h sz hz _
  · have : n * sz ≤ cap * sz := Nat.mul_le_mul_right _ hn
    exact ⟨_, _, rfl, hl, hn, hz, .inr (.inr ⟨i, off, rfl, ⟨⟨cs, e, opn, par, hg, by omega, by rw [hl]; exact h2⟩, .inr rfl⟩⟩)⟩
theorem Oc.ke {S : Nat → Prop} {h' : AH} {v : AVal} {sz n : Nat} {c : List AVal} (o : Oc h v e sz n c) (k : Ke S h h') (hS : ∀ i, isBk v i → ¬ S i) : Oc h' v e sz n c := by
  obtain ⟨hz, hl, hc, ho⟩ := o
  refine ⟨hz, hl, hc, ?_⟩
  rcases ho with ho | ⟨i, off, cap, cs, opn, par, rfl, hg, h1⟩
  · exact .inl ho
  · exact .inr ⟨i, off, cap, cs, opn, par, rfl, k.gt hg (hS i rfl), h1⟩
theorem Oc.to {v : AVal} {sz n n' : Nat} {c c' : List AVal} (o : Oc h v e sz n c) (hc : c = c') (hn : n = n') : Oc h v e sz n' c' := by subst hc hn; exact o
theorem Oc.bk_lt {v : AVal} {sz n : Nat} {c : List AVal} (w : Wf h) (o : Oc h v e sz n c) {i : Nat} (hi : isBk v i) : i < h.n := by
  obtain ⟨_, _, _, ho⟩ := o
  rcases ho with ⟨rfl, _⟩ | ⟨j, off, cap, cs, opn, par, rfl, hg, _⟩
  · exact hi.elim
  · simp only [isBk] at hi; subst hi; exact w.lt _ _ hg
theorem append_oc (w : Wf h) {v x : AVal} {sz n by_ m : Nat} {c d : List AVal} {md : AMode} (oc : Oc h v e sz n c) (s : Sz h x sz m d md) (hc : d.all AVal.isCell = true) (hb : 0 < by_) (hl : 2 * (n + m) * by_ ≤ 2 ^ 48) :
    ∃ v' h', rAppend e sz by_ v x h = some (v', h') ∧ Oc h' v' e sz (n + m) (c ++ d) ∧ Ke (isBk v) h h' ∧ (∀ i, isBk v' i → isBk v i ∨ h.n ≤ i) := by
  have hcc : (c ++ d).all AVal.isCell = true := by rw [List.all_append, oc.2.2.1, hc]; rfl
  obtain ⟨hz, hlc, hc0, ho⟩ := oc
  have hld := s.clen
  have hlcd : (c ++ d).length = (n + m) * sz := by simp [hlc, hld, Nat.add_mul]
  rcases ho with ⟨rfl, rfl⟩ | ⟨i, off, cap, cs, opn, par, rfl, hg, hn, h1, h2⟩
  · have : c = [] := List.eq_nil_of_length_eq_zero (by simpa using hlc)
    subst this
    obtain ⟨v', h', e1, o', k', f'⟩ := append_own w (Ow.nil h e sz hz) s hc hb hl
    exact ⟨v', h', e1, o'.oc, k', f'⟩
  · unfold rAppend
    rw [s.src]
    unfold rAppendTo
    simp only [Option.bind_some]
    by_cases h0 : m = 0
    · rw [if_pos h0]
      subst h0
      have : d = [] := List.eq_nil_of_length_eq_zero (by simpa using hld)
      subst this
      exact ⟨_, _, rfl, ⟨hz, by simpa using hlc, by simpa using hc0, .inr ⟨i, off, cap, cs, opn, par, rfl, hg, hn, h1, by simpa using h2⟩⟩, Ke.refl w, fun i hi => .inl hi⟩
    · rw [if_neg h0]
      simp only [ne_eq, not_true_eq_false, if_false]
      by_cases hcap : n + m ≤ cap
      · rw [if_pos hcap]
        have hmul : (n + m) * sz ≤ cap * sz := Nat.mul_le_mul_right _ hcap
        rw [Nat.add_mul] at hmul
        obtain ⟨h', e1, e2, e3, e4⟩ := write_own w (off := off + n * sz) (vs := d) hg (by omega) hc
        rw [e1]
        refine ⟨_, _, rfl, ⟨hz, hlcd, hcc, .inr ⟨i, off, cap, _, opn, [], rfl, e2, hcap, by rw [splice_len (by omega)]; exact h1, ?_⟩⟩, e3.mono fun j hj => hj, fun j hj => .inl hj⟩
        rw [splice_drop (by omega)]
        unfold splice
        rw [h2, List.append_assoc, ← List.append_assoc]
        rw [List.take_left' (by rw [hlcd])]
      · rw [if_neg hcap, if_pos ⟨hb, hl⟩]
        simp only [hg, reduceCtorEq, if_false]
        have htake : (cs.drop off).take (n * sz) = c := h2
        rw [htake]
        have k0 := Kp.push0 w (.row (c ++ d) e true) .rw
        by_cases ho2 : off + cap * sz < cs.length ∨ (opn = false ∧ off + cap * sz = cs.length)
        · rw [if_pos ho2]
          unfold AH.newRow
          rw [if_pos hcc]
          exact ⟨_, _, rfl, (Ow.new (o := true) (p := []) (by simp) hz _ hlcd hcc).oc, k0.ke, fun j hj => .inr (by simp only [isBk] at hj; omega)⟩
        · rw [if_neg ho2, if_pos ⟨trivial, trivial, h1.symm, hc⟩]
          by_cases hlen : n = cap
          · rw [if_pos hlen]
            obtain ⟨v', h', e1, o', k', f'⟩ := append_own w (v := .slice (some (i, off, sz)) n n) (e := e) (sz := sz) (n := n) (c := c) ⟨hz, hlc, hc0, .inr ⟨i, off, cs, opn, par, rfl, hg, by rw [h1, hlen], by rw [← h2]; rw [List.take_of_length_le (by rw [List.length_drop, h1, hlen]; omega)]⟩⟩ s hc hb hl
            unfold rAppend at e1
            rw [s.src] at e1
            unfold rAppendTo at e1
            simp only [Option.bind_some, if_neg h0, ne_eq, not_true_eq_false, if_false] at e1
            rw [if_neg (by omega), if_pos ⟨hb, hl⟩] at e1
            simp only [hg, reduceCtorEq, if_false] at e1
            rw [if_neg (by rw [hlen]; exact ho2), if_pos ⟨trivial, trivial, by rw [hlen]; exact h1.symm, hc⟩] at e1
            simp only [if_true, htake] at e1
            exact ⟨v', h', by rw [← e1], o'.oc, k', f'⟩
          · rw [if_neg hlen]
            have k1 := Ke.kill par w (w.par _ _ hg)
            have hg1 : (h.kill par).get i = some ⟨.row cs e opn, .rw, par⟩ := k1.gt hg
            have k2 : Ke (isBk (.slice (some (i, off, sz)) n cap)) (h.kill par) ((h.kill par).kill1 i) := by
              have w2 : Wf ((h.kill par).kill1 i) := by
                unfold AH.kill1
                rw [hg1]
                exact k1.w'.set hg1 (b' := ⟨.row cs e opn, .dead, par⟩) (fun j hj => k1.w'.par _ _ hg1 j hj) (.inl rfl)
              refine ⟨k1.w', w2, by simp, fun j b hj hm => ?_⟩
              rw [kill1_get]
              split
              · rename_i c'
                subst c'
                rw [hg1] at hj
                simp only [Option.some.injEq] at hj
                subst hj
                rcases hm with hm | hm
                · cases hm
                · exact absurd rfl hm.2
              · exact hj
            have hn2 : ((h.kill par).kill1 i).n = h.n := by rw [kill1_n, kill_n]
            have k3 := Kp.push0 k2.w' (.row (c ++ d) e true) .rw
            refine ⟨_, _, rfl, (Ow.new (h := ((h.kill par).kill1 i).push ⟨.row (c ++ d) e true, .rw, []⟩) (n := h.n) (o := true) (p := []) ?_ hz _ hlcd hcc).oc, ((Kp.ke k1).trans k2).trans k3.ke, fun j hj => .inr (by simp only [isBk] at hj; omega)⟩
            rw [← hn2]; simp
theorem wp_appendOc {Q : AVal → AH → Prop} {K : AVal → AH → Ans} (w : Wf h) {v x : AVal} {sz n by_ m : Nat} {c d : List AVal} {md : AMode} (o : Oc h v e sz n c) (s : Sz h x sz m d md) (hc : d.all AVal.isCell = true) (hb : 0 < by_) (hl : 2 * (n + m) * by_ ≤ 2 ^ 48)
    (k : ∀ v' h', Oc h' v' e sz (n + m) (c ++ d) → Ke (isBk v) h h' → (∀ i, isBk v' i → isBk v i ∨ h.n ≤ i) → Wp (K v' h') Q) : Wp (ke (rAppend e sz by_ v x h) K) Q := by
  obtain ⟨v', h', e1, o', k', f⟩ := append_oc w o s hc hb hl
  rw [e1]
  exact k v' h' o' k' f
/-- Its beginning. -/
theorem Oc.cutR {v : AVal} {sz n : Nat} {c : List AVal} (o : Oc h v e sz n c) {q : IntKind} {b : Int} (h0 : 0 ≤ b) (hbn : b ≤ n) :
    ∃ v', rCut sz v none (some (.int q b)) none = some v' ∧ Oc h v' e sz b.toNat (c.take (b.toNat * sz)) ∧ ∀ i, isBk v' i → isBk v i := by
  obtain ⟨hz, hl, hc, ho⟩ := o
  have hmul : b.toNat * sz ≤ n * sz := Nat.mul_le_mul_right _ (by omega)
  have hct : (c.take (b.toNat * sz)).all AVal.isCell = true := by
    rw [List.all_eq_true] at hc ⊢
    intro x hx
    exact hc x (List.mem_of_mem_take hx)
  have hlt : (c.take (b.toNat * sz)).length = b.toNat * sz := by rw [List.length_take]; omega
  rcases ho with ⟨rfl, rfl⟩ | ⟨i, off, cap, cs, opn, par, rfl, hg, hn, h1, h2⟩
  · have b0 : b = 0 := by omega
    subst b0
    have : c = [] := List.eq_nil_of_length_eq_zero (by simpa using hl)
    subst this
    exact ⟨.slice none 0 0, by simp [rCut, aBound], ⟨hz, by simp, by simp, .inl ⟨rfl, rfl⟩⟩, fun i hi => hi⟩
  · refine ⟨.slice (some (i, off, sz)) b.toNat cap, ?_, ⟨hz, hlt, hct, .inr ⟨i, off, cap, cs, opn, par, rfl, hg, by omega, h1, ?_⟩⟩, fun i hi => hi⟩
    · unfold rCut
      have e1 : aBound (some (.int q b)) n cap = some b.toNat := aBound_int h0 (by omega)
      simp only [aBound_none, e1, Option.bind_some]
      rw [if_neg (by omega), if_pos (by simp [hz]; omega)]
      simp
    · rw [← h2, List.take_take, Nat.min_eq_left (by omega)]
theorem Ke.new_pp {a c : AH} (k : Ke (fun i => a.n ≤ i) a c) : Kp a c := Ke.new_p (Ke.refl k.w) k fun _ h => h
end Go.Proofs.Ytfppdfmffdkogaa.AI
namespace Go.Proofs.Ytfppdfmffdkogaa.AI
open Go
set_option linter.unusedSimpArgs false
set_option linter.unusedVariables false
variable {h : AH} {v : AVal} {e : TypeId} {sz n : Nat} {c : List AVal}
theorem appendTo_own (w : Wf h) {by_ m : Nat} {d : List AVal} (o : Ow h v e sz n c) (hld : d.length = m * sz) (hc : d.all AVal.isCell = true) (hb : 0 < by_) (hl : 2 * (n + m) * by_ ≤ 2 ^ 48) :
    ∃ v' h', rAppendTo e sz by_ v m d h = some (v', h') ∧ Ow h' v' e sz (n + m) (c ++ d) ∧ Ke (isBk v) h h' ∧ (∀ i, isBk v' i → isBk v i ∨ h.n ≤ i) := by
  obtain ⟨hz, hlc, hcc, ho⟩ := o
  have hcd : (c ++ d).all AVal.isCell = true := by rw [List.all_append, hcc, hc]; rfl
  have hlcd : (c ++ d).length = (n + m) * sz := by simp [hlc, hld, Nat.add_mul]
  unfold rAppendTo
  by_cases h0 : m = 0
  · rw [if_pos h0]
    subst h0
    have : d = [] := List.eq_nil_of_length_eq_zero (by simpa using hld)
    subst this
    rcases ho with ⟨rfl, rfl⟩ | ⟨i, off, cs, opn, par, rfl, hg, h1, h2⟩
    · have : c = [] := List.eq_nil_of_length_eq_zero (by simpa using hlc)
      subst this
      exact ⟨_, _, rfl, Ow.nil h e sz hz, Ke.refl w, fun i hi => .inl hi⟩
    · exact ⟨_, _, rfl, ⟨hz, by simpa using hlc, by simpa using hcc, .inr ⟨i, off, cs, opn, par, rfl, hg, by simpa using h1, by simpa using h2⟩⟩, Ke.refl w, fun i hi => .inl hi⟩
  · rw [if_neg h0]
    rcases ho with ⟨rfl, rfl⟩ | ⟨i, off, cs, opn, par, rfl, hg, h1, h2⟩
    · have : c = [] := List.eq_nil_of_length_eq_zero (by simpa using hlc)
      subst this
      simp only
      rw [if_pos ⟨hb, by simpa using hl⟩]
      unfold AH.newRow
      rw [if_pos hc]
      have k := Kp.push0 w (.row d e true) .rw
      refine ⟨_, _, rfl, ?_, k.ke, fun i hi => .inr (by simp only [isBk] at hi; omega)⟩
      simpa using Ow.new (h := h.push ⟨.row d e true, .rw, []⟩) (n := h.n) (e := e) (o := true) (p := []) (by simp) hz m hld hc
    · simp only [ne_eq, not_true_eq_false, if_false, hg]
      rw [if_neg (by omega), if_pos ⟨hb, hl⟩, if_neg (by simp)]
      have hcap : ¬ (off + n * sz < cs.length) := by omega
      have htake : (cs.drop off).take (n * sz) = c := by rw [h2, ← hlc, List.take_length]
      rw [htake]
      cases opn with
      | false =>
        rw [if_pos (.inr ⟨rfl, h1.symm⟩)]
        unfold AH.newRow
        rw [if_pos hcd]
        have k := Kp.push0 w (.row (c ++ d) e true) .rw
        exact ⟨_, _, rfl, Ow.new (o := true) (p := []) (by simp) hz _ hlcd hcd, k.ke, fun j hj => .inr (by simp only [isBk] at hj; omega)⟩
      | true =>
        rw [if_neg (by simp [hcap]), if_pos (by simp [h1, hc])]
        simp only [if_true]
        have hw2 : Wf (h.set i ⟨.row cs e true, .sup, par⟩) := w.set hg (fun j hj => w.par _ _ hg j hj) (.inl rfl)
        have k2 : Ke (isBk (.slice (some (i, off, sz)) n n)) h (h.set i ⟨.row cs e true, .sup, par⟩) := by
          refine ⟨w, hw2, by simp, fun j b hj hm => ?_⟩
          rw [AH.get_set]
          split
          · rename_i c'
            subst c'
            rw [hg] at hj
            simp only [Option.some.injEq] at hj
            subst hj
            rcases hm with hm | hm
            · cases hm
            · exact absurd rfl hm.2
          · exact hj
        have hpar : ∀ j ∈ i :: par, ∃ b', (h.set i ⟨.row cs e true, .sup, par⟩).get j = some b' ∧ b'.mode ≠ .rw ∧ b'.mode ≠ .ro := by
          intro j hj
          rw [AH.get_set]
          by_cases c' : j = i
          · rw [if_pos c']; exact ⟨_, rfl, by simp, by simp⟩
          · rw [if_neg c']
            rcases List.mem_cons.1 hj with hj | hj
            · exact absurd hj c'
            · exact w.par _ _ hg j hj
        have k3 := Kp.push hw2 (b := ⟨.row (c ++ d) e true, .rw, i :: par⟩) hpar
        refine ⟨_, _, rfl, Ow.new (o := true) (p := i :: par) ?_ hz _ hlcd hcd, k2.trans (Kp.ke k3), fun j hj => .inr (by simp only [isBk] at hj; omega)⟩
        have := AH.get_push (h.set i ⟨.row cs e true, .sup, par⟩) h.n ⟨.row (c ++ d) e true, .rw, i :: par⟩
        simp only [AH.n_set, if_true] at this
        exact this

theorem wp_appendN {Q : AVal → AH → Prop} {K : AVal → AH → Ans} (w : Wf h) {by_ m : Nat} {z : List AVal} {q : IntKind} {i : Int} (o : Ow h v e sz n c) (hi : i = m) (hz : z.length = sz) (hc : z.all AVal.isCell = true) (hb : 0 < by_) (hm : m < 2 ^ 40) (hl : 2 * (n + m) * by_ ≤ 2 ^ 48)
    (k : ∀ v' h', Ow h' v' e sz (n + m) (c ++ manyT m z) → Ke (isBk v) h h' → (∀ i, isBk v' i → isBk v i ∨ h.n ≤ i) → Wp (K v' h') Q) : Wp (ke (rAppendN e sz by_ z v (.int q i) h) K) Q := by
  subst hi
  have hl2 : (manyT m z).length = m * sz := by
    have : ∀ m, (manyT m z).length = m * z.length := fun m => by
      induction m with
      | zero => simp [manyT]
      | succ m ih => simp only [manyT, List.replicate_succ, List.flatten_cons, List.length_append] at ih ⊢; rw [ih, Nat.add_mul]; omega
    rw [this, hz]
  have hc2 : (manyT m z).all AVal.isCell = true := by
    rw [List.all_eq_true] at hc ⊢
    intro x hx
    simp only [manyT, List.mem_flatten, List.mem_replicate] at hx
    obtain ⟨l, ⟨_, rfl⟩, hx⟩ := hx
    exact hc x hx
  obtain ⟨v', h', e1, o', k', f'⟩ := appendTo_own w o hl2 hc2 hb hl
  have hbm : by_ * m ≤ 2 ^ 48 := by
    have h1 : by_ * m = m * by_ := Nat.mul_comm _ _
    have h2 : m * by_ ≤ 2 * (n + m) * by_ := Nat.mul_le_mul_right _ (by omega)
    omega
  have e2 : rAppendN e sz by_ z v (.int q (m : Int)) h = some (v', h') := by
    simp only [rAppendN, Int.toNat_natCast]
    rw [if_pos ⟨by omega, by omega, hbm⟩]
    exact e1
  rw [e2]
  exact k v' h' o' k' f'
theorem wp_kq1 {q : Option AVal} {v : AVal} {K : AVal → Ans} {Q : AVal → AH → Prop} (e : q = some v) (w : Wp (K v) Q) : Wp (kq q K) Q := by subst e; exact w
end Go.Proofs.Ytfppdfmffdkogaa.AI
namespace Go.Proofs.Ytfppdfmffdkogaa.AI
open Go
set_option linter.unusedSimpArgs false
set_option linter.unusedVariables false
set_option linter.unusedSectionVars false
variable {h : AH} {α β : Type} [DecidableEq α] {kind : TypeDesc} {ek : α → AVal} {ev : β → AVal} {z : β}

/-- What a list of entries says of a key. -/
def lkp (z : β) (k : α) : List (α × β) → β
  | [] => z
  | p :: l => if k = p.1 then p.2 else lkp z k l
def pos (k : α) : List (α × β) → Option Nat
  | [] => none
  | p :: l => if k = p.1 then some 0 else (pos k l).map (· + 1)
def ents (ek : α → AVal) (ev : β → AVal) (L : List (α × β)) : List (AVal × AVal) := L.map fun p => (ek p.1, ev p.2)
/-- Keys are told apart. -/
def KeyOk (kind : TypeDesc) (ek : α → AVal) : Prop := ∀ a b, aSameNow kind (ek a) (ek b) = some (decide (a = b))
theorem keyStr : KeyOk .string AVal.str := fun a b => by
  show some (a == b) = some (decide (a = b))
  congr 1
  by_cases c : a = b <;> simp [c]
theorem keyInt (k : IntKind) : KeyOk (.int k) (AVal.int k) := fun a b => by
  
  simp only [aSameNow, if_true, Option.some.injEq]
  by_cases c : a = b <;> simp [c]
theorem aFind_enc (ok : KeyOk kind ek) (k : α) : ∀ (L : List (α × β)) (i : Nat), aFind kind (ek k) (ents ek ev L) i = some ((pos k L).map fun j => (i + j, ev (lkp z k L)))
  | [], i => rfl
  | p :: L, i => by
      simp only [ents, List.map_cons, aFind, ok k p.1, pos, lkp]
      by_cases c : k = p.1
      · simp [c]
      · simp only [c, decide_false, if_false]
        have := aFind_enc ok k L (i + 1)
        simp only [ents] at this
        rw [this]
        cases pos k L <;> simp <;> omega
theorem lkp_none {k : α} : ∀ {L : List (α × β)}, pos k L = none → lkp z k L = z
  | [], _ => rfl
  | p :: L, e => by
      simp only [pos] at e
      split at e
      · cases e
      · rename_i c
        simp only [lkp, c, if_false]
        exact lkp_none (by simpa using e)
theorem lkp_app {k x : α} {v : β} : ∀ {L : List (α × β)}, pos k L = none → lkp z x (L ++ [(k, v)]) = if x = k then v else lkp z x L
  | [], _ => rfl
  | p :: L, e => by
      simp only [pos] at e
      split at e
      · cases e
      · rename_i c
        have ih := lkp_app (x := x) (v := v) (L := L) (by simpa using e)
        simp only [List.cons_append, lkp, ih]
        by_cases c1 : x = p.1
        · simp only [c1, if_true]; rw [if_neg (fun h => c h.symm)]
        · simp only [c1, if_false]
theorem pos_app {k : α} {v : β} : ∀ {L : List (α × β)}, pos k L = none → pos k (L ++ [(k, v)]) = some L.length
  | [], _ => by simp [pos]
  | p :: L, e => by
      simp only [pos] at e
      split at e
      · cases e
      · rename_i c
        simp only [List.cons_append, pos, c, if_false, pos_app (v := v) (L := L) (by simpa using e)]
        simp
theorem pos_get {k : α} : ∀ {L : List (α × β)} {j : Nat}, pos k L = some j → L[j]? = some (k, lkp z k L)
  | [], j, e => by cases e
  | p :: L, j, e => by
      simp only [pos] at e
      split at e
      · rename_i c
        simp only [Option.some.injEq] at e; subst e
        simp [lkp, c]
      · rename_i c
        simp only [Option.map_eq_some_iff] at e
        obtain ⟨j', e, rfl⟩ := e
        simp only [lkp, c, if_false]
        simpa using pos_get e
theorem pos_set {k : α} {v : β} : ∀ {L : List (α × β)} {j : Nat}, pos k L = some j → pos k (L.set j (k, v)) = some j
  | [], j, e => by cases e
  | p :: L, j, e => by
      simp only [pos] at e
      split at e
      · rename_i c
        simp only [Option.some.injEq] at e; subst e
        simp [pos]
      · rename_i c
        simp only [Option.map_eq_some_iff] at e
        obtain ⟨j', e, rfl⟩ := e
        simp only [List.set_cons_succ, pos, c, if_false, pos_set e, Option.map_some]
theorem lkp_set {k x : α} {v : β} : ∀ {L : List (α × β)} {j : Nat}, pos k L = some j → lkp z x (L.set j (k, v)) = if x = k then v else lkp z x L
  | [], j, e => by cases e
  | p :: L, j, e => by
      simp only [pos] at e
      split at e
      · rename_i c
        simp only [Option.some.injEq] at e; subst e
        simp only [List.set_cons_zero, lkp]
        by_cases cx : x = k
        · simp [cx]
        · simp only [cx, if_false]
          rw [if_neg (fun h => cx (h.trans c.symm))]
      · rename_i c
        simp only [Option.map_eq_some_iff] at e
        obtain ⟨j', e, rfl⟩ := e
        simp only [List.set_cons_succ, lkp, lkp_set e]
        by_cases c1 : x = p.1
        · simp only [c1, if_true]; rw [if_neg (fun h => c h.symm)]
        · simp only [c1, if_false]
theorem pos_lt {k : α} {L : List (α × β)} {j : Nat} (e : pos k L = some j) : j < L.length := by
  have : L[j]? ≠ none := by
    have : ∀ {L : List (α × β)} {j : Nat}, pos k L = some j → L[j]? ≠ none := by
      intro L
      induction L with
      | nil => intro j e; cases e
      | cons p L ih =>
        intro j e
        simp only [pos] at e
        split at e
        · simp only [Option.some.injEq] at e; subst e; simp
        · simp only [Option.map_eq_some_iff] at e
          obtain ⟨j', e, rfl⟩ := e
          simpa using ih e
    exact this e
  rcases Nat.lt_or_ge j L.length with h | h
  · exact h
  · exact absurd (List.getElem?_eq_none h) this
def upd (f : α → β) (k : α) (v : β) : α → β := fun x => if x = k then v else f x

/-- A map that says what f says. -/
def Mp (ek : α → AVal) (ev : β → AVal) (z : β) (h : AH) (i : Nat) (f : α → β) : Prop := ∃ L, h.get i = some ⟨.map (ents ek ev L), .rw, []⟩ ∧ ∀ k, lkp z k L = f k
/-- .. with an entry for a key at a place. -/
def En (ek : α → AVal) (ev : β → AVal) (z : β) (h : AH) (i : Nat) (f : α → β) (k : α) (j : Nat) : Prop := ∃ L, h.get i = some ⟨.map (ents ek ev L), .rw, []⟩ ∧ (∀ k, lkp z k L = f k) ∧ pos k L = some j
theorem En.mp {f : α → β} {i j : Nat} {k : α} (e : En ek ev z h i f k j) : Mp ek ev z h i f := let ⟨L, a, b, _⟩ := e; ⟨L, a, b⟩
theorem Mp.ke {S : Nat → Prop} {h' : AH} {i : Nat} {f : α → β} (m : Mp ek ev z h i f) (k : Ke S h h') (hS : ¬ S i) : Mp ek ev z h' i f := let ⟨L, a, b⟩ := m; ⟨L, k.gt a hS, b⟩
theorem En.ke {S : Nat → Prop} {h' : AH} {i j : Nat} {f : α → β} {x : α} (m : En ek ev z h i f x j) (k : Ke S h h') (hS : ¬ S i) : En ek ev z h' i f x j := let ⟨L, a, b, c⟩ := m; ⟨L, k.gt a hS, b, c⟩
theorem Mp.kp {h' : AH} {i : Nat} {f : α → β} (m : Mp ek ev z h i f) (k : Kp h h') : Mp ek ev z h' i f := m.ke k id
theorem Mp.mapOf {i : Nat} {f : α → β} (m : Mp ek ev z h i f) : ∃ L, h.mapOf i = some (ents ek ev L) ∧ ∀ k, lkp z k L = f k := by
  obtain ⟨L, a, b⟩ := m
  exact ⟨L, by unfold AH.mapOf; rw [a]; rfl, b⟩
theorem Mp.look (ok : KeyOk kind ek) {i : Nat} {f : α → β} (m : Mp ek ev z h i f) (k : α) : rLook kind (ev z) false (.map (some i)) (ek k) h = some (ev (f k)) := by
  obtain ⟨L, a, b⟩ := m.mapOf
  simp only [rLook, a, aFind_enc ok (z := z)]
  cases e : pos k L with
  | none => simp [← b, lkp_none e]
  | some j => simp [b]
theorem ents_set (L : List (α × β)) (j : Nat) (k : α) (v : β) : (ents ek ev L).set j (ek k, ev v) = ents ek ev (L.set j (k, v)) := by simp [ents, List.map_set]
theorem ents_app (L : List (α × β)) (k : α) (v : β) : ents ek ev L ++ [(ek k, ev v)] = ents ek ev (L ++ [(k, v)]) := by simp [ents]
theorem Ke.setAny {h : AH} (w : Wf h) {i : Nat} {o o' : AObj} (e : h.get i = some ⟨o, .rw, []⟩) : Ke (· = i) h (h.set i ⟨o', .rw, []⟩) := Ke.set w e
theorem wp_mset {Q : AVal → AH → Prop} {K : AVal → AH → Ans} (ok : KeyOk kind ek) (w : Wf h) {i : Nat} {f : α → β} (m : Mp ek ev z h i f) (k : α) (v : β)
    (c : ∀ h1, Ke (· = i) h h1 → h1.n = h.n → Mp ek ev z h1 i (upd f k v) → Wp (K (.tuple []) h1) Q) : Wp (ke ((rMapSet kind (.map (some i)) (ek k) (ev v) h).map fun h' => (.tuple [], h')) K) Q := by
  obtain ⟨L, a, b⟩ := m
  have hs : rMapSet kind (.map (some i)) (ek k) (ev v) h = some (h.set i ⟨.map (setAt (ents ek ev L) ((pos k L).map fun j => (0 + j, ev (lkp z k L))) (ek k) (ev v)), .rw, []⟩) := by
    simp only [rMapSet, a, aFind_enc ok (z := z)]
  rw [hs]
  refine c _ (Ke.set w a) rfl ?_
  cases e : pos k L with
  | none => exact ⟨L ++ [(k, v)], by simp [setAt, ents_app], fun x => by rw [lkp_app e]; simp only [upd, b]⟩
  | some j => exact ⟨L.set j (k, v), by simp [setAt, ents_set], fun x => by rw [lkp_set e]; simp only [upd, b]⟩
theorem wp_ment {Q : AVal → AH → Prop} {K : AVal → AH → Ans} (ok : KeyOk kind ek) (w : Wf h) {i : Nat} {f : α → β} (m : Mp ek ev z h i f) (k : α)
    (c : ∀ h1 (j : Nat), Ke (· = i) h h1 → h1.n = h.n → En ek ev z h1 i f k j → Wp (K (.tuple [ev (f k), .int .i64 j]) h1) Q) : Wp (ke (rMapEnt kind (ev z) (.map (some i)) (ek k) h) K) Q := by
  obtain ⟨L, a, b⟩ := m
  cases e : pos k L with
  | none =>
    have hs : rMapEnt kind (ev z) (.map (some i)) (ek k) h = some (.tuple [ev z, .int .i64 (ents ek ev L).length], h.set i ⟨.map (ents ek ev L ++ [(ek k, ev z)]), .rw, []⟩) := by
      simp only [rMapEnt, a, aFind_enc ok (z := z), e, Option.map_none]
    rw [hs, ke_some]
    have := c (h.set i ⟨.map (ents ek ev L ++ [(ek k, ev z)]), .rw, []⟩) L.length (Ke.set w a) rfl
      ⟨L ++ [(k, z)], by simp [ents_app], fun x => by
        rw [lkp_app e, ← b]
        split
        · rename_i c; subst c; exact (lkp_none e).symm
        · rfl, pos_app e⟩
    rw [← b, lkp_none e] at this
    simpa [ents] using this
  | some j =>
    have hs : rMapEnt kind (ev z) (.map (some i)) (ek k) h = some (.tuple [ev (lkp z k L), .int .i64 ((0 + j : Nat) : Int)], h.set i ⟨.map ((ents ek ev L).set (0 + j) (ek k, ev (lkp z k L))), .rw, []⟩) := by
      simp only [rMapEnt, a, aFind_enc ok (z := z), e, Option.map_some]
    rw [hs, ke_some]
    have := c (h.set i ⟨.map ((ents ek ev L).set (0 + j) (ek k, ev (lkp z k L))), .rw, []⟩) j (Ke.set w a) rfl
      ⟨L.set j (k, lkp z k L), by simp [ents_set], fun x => by
        rw [lkp_set e, ← b]
        split
        · rename_i c; subst c; rfl
        · rfl, pos_set e⟩
    rw [← b] at this
    simpa using this
theorem wp_eset {Q : AVal → AH → Prop} {K : AVal → AH → Ans} (w : Wf h) {i j : Nat} {f : α → β} {k : α} (m : En ek ev z h i f k j) (v : β)
    (c : ∀ h1, Ke (· = i) h h1 → h1.n = h.n → Mp ek ev z h1 i (upd f k v) → Wp (K (.tuple []) h1) Q) : Wp (ke ((rEntSet (.map (some i)) (.int .i64 j) (ev v) h).map fun h' => (.tuple [], h')) K) Q := by
  obtain ⟨L, a, b, e⟩ := m
  have hg := pos_get (β := β) (z := z) e
  have hs : rEntSet (.map (some i)) (.int .i64 j) (ev v) h = some (h.set i ⟨.map (ents ek ev (L.set j (k, v))), .rw, []⟩) := by
    have h0 : decide ((0 : Int) ≤ (j : Int)) = true := by simp
    have h1 : (ents ek ev L)[((j : Int)).toNat]? = some (ek k, ev (lkp z k L)) := by simp [ents, hg]
    simp only [rEntSet, a, h0, h1]
    rw [Int.toNat_natCast, ents_set]
  rw [hs]
  exact c _ (Ke.set w a) rfl ⟨L.set j (k, v), by simp, fun x => by rw [lkp_set e]; simp only [upd, b]⟩
theorem wp_map {Q : AVal → AH → Prop} {K : AVal → AH → Ans} (w : Wf h) (ek : α → AVal) (ev : β → AVal) (z : β)
    (k : ∀ (p : Nat) (h1 : AH), p = h.n → Kp h h1 → h1.n = h.n + 1 → Mp ek ev z h1 p (fun _ => z) → Wp (K (.map (some p)) h1) Q) : Wp (km (some pMap) h K) Q :=
  k h.n _ rfl (Kp.push0 w _ _) (by simp) ⟨[], by simp [pMap, ents], fun _ => rfl⟩
theorem kt_eq (J : AVal → Ans) (B : (AVal → Ans) → Ans) : kt J B = B J := rfl
theorem kth_eq (J : AVal → AH → Ans) (B : (AVal → AH → Ans) → Ans) : kth J B = B J := rfl
/-- Steps on strings, arrays, interfaces. -/
theorem rAtArr_ptr {len sz i off : Nat} {q : IntKind} {n : Int} (h0 : 0 ≤ n) (h1 : n < len) : rAtArr len sz (.ptr (some (i, off))) (.int q n) = some (.ptr (some (i, off + n.toNat * sz))) := by simp [rAtArr, h0, h1]
theorem rBin_sneq (e : EqK) (c : Bool) (x y : List UInt8) : rBin .neq e c (.str x) (.str y) = some (.bool (decide (¬ x = y))) := by
  show some (AVal.bool (x != y)) = _
  by_cases c : x = y <;> simp [c]
theorem rBin_sadd (e : EqK) (c : Bool) (x y : List UInt8) (hl : x.length + y.length ≤ 4611686018427387904) : rBin .add e c (.str x) (.str y) = some (.str (x ++ y)) := by
  show (if x.length + y.length ≤ 2 ^ 62 then some (AVal.str (x ++ y)) else none) = _
  rw [if_pos (by omega)]
theorem sp5 :
    (∀ {len sz i off : Nat} {q : IntKind} {n : Int}, 0 ≤ n → n < len → rAtArr len sz (.ptr (some (i, off))) (.int q n) = some (.ptr (some (i, off + n.toNat * sz)))) ∧
    (∀ (e : EqK) (c : Bool) (x y : List UInt8), rBin .neq e c (.str x) (.str y) = some (.bool (decide (¬ x = y)))) ∧
    (∀ (e : EqK) (c : Bool) (x y : List UInt8), x.length + y.length ≤ 4611686018427387904 → rBin .add e c (.str x) (.str y) = some (.str (x ++ y))) ∧
    (∀ s : List UInt8, rLenS (.str s) = some (.int .i64 s.length)) ∧
    (∀ (c : Bool) (t : TypeId) (v : AVal), rBin .eql .iface c (.iface t v) .nilIface = some (.bool false)) ∧
    (∀ (c : Bool) (t : TypeId) (v : AVal), rBin .neq .iface c (.iface t v) .nilIface = some (.bool true)) ∧
    (rBin .eql .iface true .nilIface .nilIface = some (.bool true)) ∧ (rBin .neq .iface true .nilIface .nilIface = some (.bool false)) ∧
    (∀ (call : ACall) (f : Nat) (a b l : List AVal) (h : AH), rCallV call (.func (.func f) a b) l h = call f (a ++ l ++ b) h) :=
  ⟨rAtArr_ptr, rBin_sneq, rBin_sadd, fun _ => rfl, fun _ _ _ => rfl, fun _ _ _ => rfl, rfl, rfl, fun _ _ _ _ _ _ => rfl⟩
end Go.Proofs.Ytfppdfmffdkogaa.AI
