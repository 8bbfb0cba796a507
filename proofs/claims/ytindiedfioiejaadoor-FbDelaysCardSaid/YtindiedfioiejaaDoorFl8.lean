/- Chapter 17: slices of slices. -/
import Derived.Test.YtindiedfioiejaaDoorFh
namespace Go.Proofs.YtindiedfioiejaaDoor.AI
open Go
set_option linter.unusedSimpArgs false
set_option linter.unusedVariables false
variable {ov : AOver} {h : AH}
/-- A slice of slices of numbers; no block of it is one of these. -/
def Ol (h : AH) (B : Nat) (N : Nat → Prop) (v : AVal) (LL : List (List Int)) : Prop :=
  ∃ vs, Ow h v T___int64 1 LL.length vs ∧ (∀ i, isBk v i → B ≤ i ∧ ¬ N i) ∧ ∀ i, i < LL.length → ∃ sv, vs[i]? = some sv ∧ Oi h sv (LL.getD i []) ∧ ∀ j, isBk sv j → B ≤ j ∧ ¬ N j ∧ ¬ isBk v j
variable {B q : Nat} {N N' : Nat → Prop} {v x : AVal} {LL : List (List Int)}
theorem Ol.ke {S : Nat → Prop} {h' : AH} (o : Ol h B N v LL) (k : Ke S h h') (hS : ∀ j, S j → N j ∨ j < B) : Ol h' B N v LL := by
  obtain ⟨vs, a, b, c⟩ := o
  refine ⟨vs, a.ke k fun i hi e => ?_, b, fun i hi => ?_⟩
  · rcases hS i e with h | h
    · exact (b i hi).2 h
    · have := (b i hi).1; omega
  · obtain ⟨sv, e, o, f⟩ := c i hi
    refine ⟨sv, e, Ow.ke o k fun j hj e => ?_, f⟩
    rcases hS j e with h | h
    · exact (f j hj).2.1 h
    · have := (f j hj).1; omega
theorem Ol.kp {h' : AH} (o : Ol h B N v LL) (k : Kp h h') : Ol h' B N v LL := o.ke k fun j hj => hj.elim
theorem Ol.reN (o : Ol h B N v LL) (w : Wf h) (hN : ∀ j, N' j → N j ∨ h.n ≤ j) : Ol h B N' v LL := by
  obtain ⟨vs, a, b, c⟩ := o
  refine ⟨vs, a, fun i hi => ⟨(b i hi).1, fun e => ?_⟩, fun i hi => ?_⟩
  · rcases hN i e with h | h
    · exact (b i hi).2 h
    · have := ow_lt a w hi; omega
  · obtain ⟨sv, e, o, f⟩ := c i hi
    refine ⟨sv, e, o, fun j hj => ⟨(f j hj).1, fun e => ?_, (f j hj).2.2⟩⟩
    rcases hN j e with h | h
    · exact (f j hj).2.1 h
    · have := ow_lt o w hj; omega
theorem Ol.nil (h : AH) (B : Nat) : Ol h B N (.slice none 0 0) [] := ⟨[], Ow.nil _ _ _ (by omega), fun i hi => hi.elim, fun i hi => by simp at hi⟩
theorem Ol.len (o : Ol h B N v LL) : rLen v = some (.int .i64 LL.length) := let ⟨vs, a, _⟩ := o; (Ow.rd a).len
theorem Ol.at (o : Ol h B N v LL) {k : IntKind} {i : Int} (h0 : 0 ≤ i) (h1 : i < LL.length) : rAt 1 v (.int k i) = some (ea v (i.toNat * 1)) := let ⟨vs, a, _⟩ := o; (Ow.rd a).at h0 h1
theorem Ol.ld (o : Ol h B N v LL) {i : Nat} (hi : i < LL.length) : ∃ sv, rLoad (ea v i) h = some sv ∧ Oi h sv (LL.getD i []) := by
  obtain ⟨vs, a, b, c⟩ := o
  obtain ⟨sv, e, o, f⟩ := c i hi
  refine ⟨sv, ?_, o⟩
  have hl : vs.length = LL.length := by have := a.2.1; omega
  rw [(Ow.rd a).ld (by omega), e]
theorem Ol.lt (o : Ol h B N v LL) (w : Wf h) {i : Nat} (hi : isBk v i) : i < h.n := let ⟨vs, a, _⟩ := o; ow_lt a w hi
theorem Ol.to {LL' : List (List Int)} (o : Ol h B N v LL) (e : LL = LL') : Ol h B N v LL' := e ▸ o
/-- One more, behind. -/
theorem wp_snoc (w : Wf h) (o : Ol h B N v LL) {sv : AVal} {l : List Int} (s : Oi h sv l) (fs : ∀ j, isBk sv j → B ≤ j ∧ ¬ N j ∧ ¬ isBk v j) (hB : B ≤ h.n) (hN : ∀ j, N j → j < h.n) (hl : LL.length ≤ 1000) {Q : AVal → AH → Prop} {K : AVal → AH → Ans}
    (c : ∀ x h', Ke (isBk v) h h' → Ol h' B N x (LL ++ [l]) → (∀ i, isBk x i → isBk v i ∨ h.n ≤ i) → Wp (K x h') Q) :
    Wp (km (mBuildSl T___int64 1 [(.slice none 0 0)] 1 [(0, sv)]) h fun u h1 => ke (rAppend T___int64 1 24 v u h1) K) Q := by
  obtain ⟨vs, a, b, cc⟩ := o
  have hsc : sv.isCell = true := Ow.isCell s
  refine wp_buildSl (cs := [sv]) w (by simp) ?_ (by simp [hsc]) fun q h1 hq k1 n1 g1 => ?_
  · show aFill _ [.slice none 0 0] [(0, sv)] = _
    rw [aFill_cons]
    simp only [cells_of hsc]
    rfl
  have s1 : Sz h1 (.slice (some (q, 0, 1)) 1 1) 1 1 [sv] .rw := Ow.rd (Ow.new g1 (by omega) 1 rfl (by simp [hsc]))
  refine wp_append k1.w' (a.kp k1) s1 (by simp [hsc]) (by omega) (by omega) fun x h2 o2 k2 f2 => ?_
  have kk : Ke (isBk v) h h2 := (Kp.ke k1).trans k2
  have fx : ∀ i, isBk x i → isBk v i ∨ h.n ≤ i := fun i hi => by
    rcases f2 i hi with h | h
    · exact .inl h
    · right; have := k1.n; omega
  refine c x h2 kk ⟨vs ++ [sv], o2.to rfl (by simp), fun i hi => ?_, fun i hi => ?_⟩ fx
  · rcases fx i hi with h | h
    · exact b i h
    · exact ⟨by omega, fun e => by have := hN i e; omega⟩
  · have hl : vs.length = LL.length := by have := a.2.1; omega
    have sep : ∀ {u : AVal} {lu : List Int}, Oi h u lu → (∀ j, isBk u j → ¬ isBk v j) → ∀ j, isBk u j → ¬ isBk x j := fun ou hs j hj hx => by
      rcases fx j hx with h | h
      · exact hs j hj h
      · have := ow_lt ou w hj; omega
    by_cases ci : i < LL.length
    · obtain ⟨su, e, ou, fu⟩ := cc i ci
      refine ⟨su, by rw [List.getElem?_append_left (by omega)]; exact e, ?_, fun j hj => ⟨(fu j hj).1, (fu j hj).2.1, sep ou (fun j hj => (fu j hj).2.2) j hj⟩⟩
      have : (LL ++ [l]).getD i [] = LL.getD i [] := by simp [List.getElem?_append_left ci]
      rw [this]
      exact Ow.ke ou kk fun j hj e => (fu j hj).2.2 e
    · have ei : i = LL.length := by simp at hi; omega
      subst ei
      refine ⟨sv, by rw [List.getElem?_append_right (by omega), hl]; simp, ?_, fun j hj => ⟨(fs j hj).1, (fs j hj).2.1, sep s (fun j hj => (fs j hj).2.2) j hj⟩⟩
      have : (LL ++ [l]).getD LL.length [] = l := by simp
      rw [this]
      exact Ow.ke s kk fun j hj e => (fs j hj).2.2 e
end Go.Proofs.YtindiedfioiejaaDoor.AI
