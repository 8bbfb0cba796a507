/- The model's own functions, stepped over. -/
import Derived.Test.YtbcpmbggidemdaaAiExt
import Derived.Test.YtbcpmbggidemdaaAiLib2
namespace Go.Proofs.Ytbcpmbggidemdaa.AI
open Go
set_option linter.unusedSimpArgs false
set_option linter.unusedVariables false
variable {h : AH} {i off : Nat} {cs : List AVal} {e : TypeId} {o : Bool} {par : List Nat} {k : IntKind} {x y : Int}
theorem lt_of_at {cs : List AVal} {off : Nat} {x : AVal} (hx : cs[off]? = some x) : off < cs.length := by
  rcases Nat.lt_or_ge off cs.length with h | h
  · exact h
  · rw [List.getElem?_eq_none h] at hx; cases hx
theorem xLoad_eq (hr : h.row i = some cs) (hx : cs[off]? = some (.int k x)) : xLoad k [.ptr (some (i, off))] h = some (.int k x, h) := by
  unfold xLoad
  simp only [hr, Option.bind_some, hx, if_true]
theorem xAdd_wp (w : Wf h) (g : h.get i = some ⟨.row cs e o, .rw, par⟩) (hx : cs[off]? = some (.int k x)) :
    Wp (xAdd k [.ptr (some (i, off)), .int k y] h) fun r h1 => r = .int k (k.wrap (x + y)) ∧ Ke (· = i) h h1 ∧ h1.n = h.n ∧ h1.get i = some ⟨.row (splice cs off [.int k (k.wrap (x + y))]) e o, .rw, []⟩ := by
  have hlt := lt_of_at hx
  obtain ⟨h', e1, e2, e3, e4⟩ := write_own w (off := off) (vs := [.int k (k.wrap (x + y))]) g (by simp only [List.length_cons, List.length_nil]; omega) rfl
  unfold xAdd
  simp only [row_rw g, Option.bind_some, hx, and_self, if_true, e1, Option.map_some]
  exact Wp.ret ⟨rfl, e3, e4, e2⟩
theorem xStore_wp (w : Wf h) (g : h.get i = some ⟨.row cs e o, .rw, par⟩) (hlt : off < cs.length) :
    Wp (xStore k [.ptr (some (i, off)), .int k y] h) fun r h1 => r = .tuple [] ∧ Ke (· = i) h h1 ∧ h1.n = h.n ∧ h1.get i = some ⟨.row (splice cs off [.int k y]) e o, .rw, []⟩ := by
  obtain ⟨h', e1, e2, e3, e4⟩ := write_own w (off := off) (vs := [.int k y]) g (by simp only [List.length_cons, List.length_nil]; omega) rfl
  unfold xStore
  simp only [if_true, e1, Option.map_some]
  exact Wp.ret ⟨rfl, e3, e4, e2⟩
theorem xCas_wp (w : Wf h) (g : h.get i = some ⟨.row cs e o, .rw, par⟩) (hx : cs[off]? = some (.int k x)) :
    Wp (xCas k [.ptr (some (i, off)), .int k x, .int k y] h) fun r h1 => r = .bool true ∧ Ke (· = i) h h1 ∧ h1.n = h.n ∧ h1.get i = some ⟨.row (splice cs off [.int k y]) e o, .rw, []⟩ := by
  have hlt := lt_of_at hx
  obtain ⟨h', e1, e2, e3, e4⟩ := write_own w (off := off) (vs := [.int k y]) g (by simp only [List.length_cons, List.length_nil]; omega) rfl
  unfold xCas
  simp only [row_rw g, Option.bind_some, hx, and_self, if_true, e1, Option.map_some]
  exact Wp.ret ⟨rfl, e3, e4, e2⟩
/-- Bytes of one's own become bytes that are read alone. -/
theorem convB_wp (w : Wf h) (g : h.get i = some ⟨.row cs e o, .rw, par⟩) {n c sz : Nat} (hn : 0 < n) :
    Wp (rConvB (.slice (some (i, off, sz)) n c) h) fun r h1 => r = .slice (some (i, off, sz)) n c ∧ Ke (· = i) h h1 ∧ h1.n = h.n ∧ h1.get i = some ⟨.row cs e o, .ro, par⟩ := by
  unfold rConvB
  simp only [if_pos hn, g]
  refine Wp.ret ⟨rfl, ⟨w, w.set g (fun j hj => w.par _ _ g j hj) (.inl rfl), by simp, fun j b hj hm => ?_⟩, by simp, by simp⟩
  rw [AH.get_set]
  split
  · rename_i c
    subst c
    rw [hj] at g
    simp only [Option.some.injEq] at g
    subst g
    rcases hm with hm | hm
    · cases hm
    · exact absurd rfl hm.2
  · exact hj

/-! A slice of its own with room behind it. -/
def Oc (h : AH) (v : AVal) (e : TypeId) (sz n : Nat) (c : List AVal) : Prop :=
  0 < sz ∧ c.length = n * sz ∧ c.all AVal.isCell = true ∧ ((v = .slice none 0 0 ∧ n = 0) ∨ ∃ i off cap cs opn par, v = .slice (some (i, off, sz)) n cap ∧ h.get i = some ⟨.row cs e opn, .rw, par⟩ ∧ n ≤ cap ∧ cs.length = off + cap * sz ∧ (cs.drop off).take (n * sz) = c)
theorem Ow.oc {v : AVal} {sz n : Nat} {c : List AVal} (o : Ow h v e sz n c) : Oc h v e sz n c := by
  obtain ⟨hz, hl, hc, ho⟩ := o
  refine ⟨hz, hl, hc, ?_⟩
  rcases ho with ho | ⟨i, off, cs, opn, par, rfl, hg, h1, h2⟩
  · exact .inl ho
  · exact .inr ⟨i, off, n, cs, opn, par, rfl, hg, Nat.le_refl _, h1, by rw [h2, ← hl, List.take_length]⟩
theorem Oc.rd {v : AVal} {sz n : Nat} {c : List AVal} (o : Oc h v e sz n c) : Sz h v sz n c .rw := by
  obtain ⟨hz, hl, hc, ho⟩ := o
  rcases ho with ⟨rfl, rfl⟩ | ⟨i, off, cap, cs, opn, par, rfl, hg, hn, h1, h2⟩
  · have : c = [] := List.eq_nil_of_length_eq_zero (by simpa using hl)
    subst this; exact Sz.nil h sz hz _
  · have : n * sz ≤ cap * sz := Nat.mul_le_mul_right _ hn
    exact ⟨_, _, rfl, hl, hn, hz, .inr (.inr ⟨i, off, rfl, ⟨⟨cs, e, opn, par, hg, by omega, by rw [hl]; exact h2⟩, .inr rfl⟩⟩)⟩
theorem Oc.ke {S : Nat → Prop} {h' : AH} {v : AVal} {sz n : Nat} {c : List AVal} (o : Oc h v e sz n c) (k : Ke S h h') (hS : ∀ i, isBk v i → ¬ S i) : Oc h' v e sz n c := by
  obtain ⟨hz, hl, hc, ho⟩ := o
  refine ⟨hz, hl, hc, ?_⟩
  rcases ho with ho | ⟨i, off, cap, cs, opn, par, rfl, hg, h1⟩
  · exact .inl ho
  · exact .inr ⟨i, off, cap, cs, opn, par, rfl, k.gt hg (hS i rfl), h1⟩
theorem Oc.to {v : AVal} {sz n n' : Nat} {c c' : List AVal} (o : Oc h v e sz n c) (hc : c = c') (hn : n = n') : Oc h v e sz n' c' := by subst hc hn; exact o
theorem Oc.bk_lt {v : AVal} {sz n : Nat} {c : List AVal} (w : Wf h) (o : Oc h v e sz n c) {i : Nat} (hi : isBk v i) : i < h.n := by
  obtain ⟨_, _, _, ho⟩ := o
  rcases ho with ⟨rfl, _⟩ | ⟨j, off, cap, cs, opn, par, rfl, hg, _⟩
  · exact hi.elim
  · simp only [isBk] at hi; subst hi; exact w.lt _ _ hg
theorem append_oc (w : Wf h) {v x : AVal} {sz n by_ m : Nat} {c d : List AVal} {md : AMode} (oc : Oc h v e sz n c) (s : Sz h x sz m d md) (hc : d.all AVal.isCell = true) (hb : 0 < by_) (hl : 2 * (n + m) * by_ ≤ 2 ^ 48) :
    ∃ v' h', rAppend e sz by_ v x h = some (v', h') ∧ Oc h' v' e sz (n + m) (c ++ d) ∧ Ke (isBk v) h h' ∧ (∀ i, isBk v' i → isBk v i ∨ h.n ≤ i) := by
  have hcc : (c ++ d).all AVal.isCell = true := by rw [List.all_append, oc.2.2.1, hc]; rfl
  obtain ⟨hz, hlc, hc0, ho⟩ := oc
  have hld := s.clen
  have hlcd : (c ++ d).length = (n + m) * sz := by simp [hlc, hld, Nat.add_mul]
  rcases ho with ⟨rfl, rfl⟩ | ⟨i, off, cap, cs, opn, par, rfl, hg, hn, h1, h2⟩
  · have : c = [] := List.eq_nil_of_length_eq_zero (by simpa using hlc)
    subst this
    obtain ⟨v', h', e1, o', k', f'⟩ := append_own w (Ow.nil h e sz hz) s hc hb hl
    exact ⟨v', h', e1, o'.oc, k', f'⟩
  · unfold rAppend
    rw [s.src]
    unfold rAppendTo
    simp only [Option.bind_some]
    by_cases h0 : m = 0
    · rw [if_pos h0]
      subst h0
      have : d = [] := List.eq_nil_of_length_eq_zero (by simpa using hld)
      subst this
      exact ⟨_, _, rfl, ⟨hz, by simpa using hlc, by simpa using hc0, .inr ⟨i, off, cap, cs, opn, par, rfl, hg, hn, h1, by simpa using h2⟩⟩, Ke.refl w, fun i hi => .inl hi⟩
    · rw [if_neg h0]
      simp only [ne_eq, not_true_eq_false, if_false]
      by_cases hcap : n + m ≤ cap
      · rw [if_pos hcap]
        have hmul : (n + m) * sz ≤ cap * sz := Nat.mul_le_mul_right _ hcap
        rw [Nat.add_mul] at hmul
        obtain ⟨h', e1, e2, e3, e4⟩ := write_own w (off := off + n * sz) (vs := d) hg (by omega) hc
        rw [e1]
        refine ⟨_, _, rfl, ⟨hz, hlcd, hcc, .inr ⟨i, off, cap, _, opn, [], rfl, e2, hcap, by rw [splice_len (by omega)]; exact h1, ?_⟩⟩, e3.mono fun j hj => hj, fun j hj => .inl hj⟩
        rw [splice_drop (by omega)]
        unfold splice
        rw [h2, List.append_assoc, ← List.append_assoc]
        rw [List.take_left' (by rw [hlcd])]
      · rw [if_neg hcap, if_pos ⟨hb, hl⟩]
        simp only [hg, reduceCtorEq, if_false]
        have htake : (cs.drop off).take (n * sz) = c := h2
        rw [htake]
        have k0 := Kp.push0 w (.row (c ++ d) e true) .rw
        by_cases ho2 : off + cap * sz < cs.length ∨ (opn = false ∧ off + cap * sz = cs.length)
        · rw [if_pos ho2]
          unfold AH.newRow
          rw [if_pos hcc]
          exact ⟨_, _, rfl, (Ow.new (o := true) (p := []) (by simp) hz _ hlcd hcc).oc, k0.ke, fun j hj => .inr (by simp only [isBk] at hj; omega)⟩
        · rw [if_neg ho2, if_pos ⟨trivial, trivial, h1.symm, hc⟩]
          by_cases hlen : n = cap
          · rw [if_pos hlen]
            obtain ⟨v', h', e1, o', k', f'⟩ := append_own w (v := .slice (some (i, off, sz)) n n) (e := e) (sz := sz) (n := n) (c := c) ⟨hz, hlc, hc0, .inr ⟨i, off, cs, opn, par, rfl, hg, by rw [h1, hlen], by rw [← h2]; rw [List.take_of_length_le (by rw [List.length_drop, h1, hlen]; omega)]⟩⟩ s hc hb hl
            unfold rAppend at e1
            rw [s.src] at e1
            unfold rAppendTo at e1
            simp only [Option.bind_some, if_neg h0, ne_eq, not_true_eq_false, if_false] at e1
            rw [if_neg (by omega), if_pos ⟨hb, hl⟩] at e1
            simp only [hg, reduceCtorEq, if_false] at e1
            rw [if_neg (by rw [hlen]; exact ho2), if_pos ⟨trivial, trivial, by rw [hlen]; exact h1.symm, hc⟩] at e1
            simp only [if_true, htake] at e1
            exact ⟨v', h', by rw [← e1], o'.oc, k', f'⟩
          · rw [if_neg hlen]
            have k1 := Ke.kill par w (w.par _ _ hg)
            have hg1 : (h.kill par).get i = some ⟨.row cs e opn, .rw, par⟩ := k1.gt hg
            have k2 : Ke (isBk (.slice (some (i, off, sz)) n cap)) (h.kill par) ((h.kill par).kill1 i) := by
              have w2 : Wf ((h.kill par).kill1 i) := by
                unfold AH.kill1
                rw [hg1]
                exact k1.w'.set hg1 (b' := ⟨.row cs e opn, .dead, par⟩) (fun j hj => k1.w'.par _ _ hg1 j hj) (.inl rfl)
              refine ⟨k1.w', w2, by simp, fun j b hj hm => ?_⟩
              rw [kill1_get]
              split
              · rename_i c'
                subst c'
                rw [hg1] at hj
                simp only [Option.some.injEq] at hj
                subst hj
                rcases hm with hm | hm
                · cases hm
                · exact absurd rfl hm.2
              · exact hj
            have hn2 : ((h.kill par).kill1 i).n = h.n := by rw [kill1_n, kill_n]
            have k3 := Kp.push0 k2.w' (.row (c ++ d) e true) .rw
            refine ⟨_, _, rfl, (Ow.new (h := ((h.kill par).kill1 i).push ⟨.row (c ++ d) e true, .rw, []⟩) (n := h.n) (o := true) (p := []) ?_ hz _ hlcd hcc).oc, ((Kp.ke k1).trans k2).trans k3.ke, fun j hj => .inr (by simp only [isBk] at hj; omega)⟩
            rw [← hn2]; simp
theorem wp_appendOc {Q : AVal → AH → Prop} {K : AVal → AH → Ans} (w : Wf h) {v x : AVal} {sz n by_ m : Nat} {c d : List AVal} {md : AMode} (o : Oc h v e sz n c) (s : Sz h x sz m d md) (hc : d.all AVal.isCell = true) (hb : 0 < by_) (hl : 2 * (n + m) * by_ ≤ 2 ^ 48)
    (k : ∀ v' h', Oc h' v' e sz (n + m) (c ++ d) → Ke (isBk v) h h' → (∀ i, isBk v' i → isBk v i ∨ h.n ≤ i) → Wp (K v' h') Q) : Wp (ke (rAppend e sz by_ v x h) K) Q := by
  obtain ⟨v', h', e1, o', k', f⟩ := append_oc w o s hc hb hl
  rw [e1]
  exact k v' h' o' k' f
/-- Its beginning. -/
theorem Oc.cutR {v : AVal} {sz n : Nat} {c : List AVal} (o : Oc h v e sz n c) {q : IntKind} {b : Int} (h0 : 0 ≤ b) (hbn : b ≤ n) :
    ∃ v', rCut sz v none (some (.int q b)) none = some v' ∧ Oc h v' e sz b.toNat (c.take (b.toNat * sz)) ∧ ∀ i, isBk v' i → isBk v i := by
  obtain ⟨hz, hl, hc, ho⟩ := o
  have hmul : b.toNat * sz ≤ n * sz := Nat.mul_le_mul_right _ (by omega)
  have hct : (c.take (b.toNat * sz)).all AVal.isCell = true := by
    rw [List.all_eq_true] at hc ⊢
    intro x hx
    exact hc x (List.mem_of_mem_take hx)
  have hlt : (c.take (b.toNat * sz)).length = b.toNat * sz := by rw [List.length_take]; omega
  rcases ho with ⟨rfl, rfl⟩ | ⟨i, off, cap, cs, opn, par, rfl, hg, hn, h1, h2⟩
  · have b0 : b = 0 := by omega
    subst b0
    have : c = [] := List.eq_nil_of_length_eq_zero (by simpa using hl)
    subst this
    exact ⟨.slice none 0 0, by simp [rCut, aBound], ⟨hz, by simp, by simp, .inl ⟨rfl, rfl⟩⟩, fun i hi => hi⟩
  · refine ⟨.slice (some (i, off, sz)) b.toNat cap, ?_, ⟨hz, hlt, hct, .inr ⟨i, off, cap, cs, opn, par, rfl, hg, by omega, h1, ?_⟩⟩, fun i hi => hi⟩
    · unfold rCut
      have e1 : aBound (some (.int q b)) n cap = some b.toNat := aBound_int h0 (by omega)
      simp only [aBound_none, e1, Option.bind_some]
      rw [if_neg (by omega), if_pos (by simp [hz]; omega)]
      simp
    · rw [← h2, List.take_take, Nat.min_eq_left (by omega)]
theorem Ke.new_pp {a c : AH} (k : Ke (fun i => a.n ≤ i) a c) : Kp a c := Ke.new_p (Ke.refl k.w) k fun _ h => h
end Go.Proofs.Ytbcpmbggidemdaa.AI
