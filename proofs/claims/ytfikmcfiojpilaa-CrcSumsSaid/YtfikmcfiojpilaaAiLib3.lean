/- The model's own functions, stepped over. -/
import Derived.Test.YtfikmcfiojpilaaAiExt
import Derived.Test.YtfikmcfiojpilaaAiLib2
namespace Go.Proofs.Ytfikmcfiojpilaa.AI
open Go
set_option linter.unusedSimpArgs false
set_option linter.unusedVariables false
variable {h : AH} {i off : Nat} {cs : List AVal} {e : TypeId} {o : Bool} {par : List Nat} {k : IntKind} {x y : Int}
theorem lt_of_at {cs : List AVal} {off : Nat} {x : AVal} (hx : cs[off]? = some x) : off < cs.length := by
  rcases Nat.lt_or_ge off cs.length with h | h
  · exact h
  · rw [List.getElem?_eq_none h] at hx; cases hx
theorem xLoad_eq (hr : h.row i = some cs) (hx : cs[off]? = some (.int k x)) : xLoad k [.ptr (some (i, off))] h = some (.int k x, h) := by
  unfold xLoad
  simp only [hr, Option.bind_some, hx, if_true]
theorem xAdd_wp (w : Wf h) (g : h.get i = some ⟨.row cs e o, .rw, par⟩) (hx : cs[off]? = some (.int k x)) :
    Wp (xAdd k [.ptr (some (i, off)), .int k y] h) fun r h1 => r = .int k (k.wrap (x + y)) ∧ Ke (· = i) h h1 ∧ h1.n = h.n ∧ h1.get i = some ⟨.row (splice cs off [.int k (k.wrap (x + y))]) e o, .rw, []⟩ := by
  have hlt := lt_of_at hx
  obtain ⟨h', e1, e2, e3, e4⟩ := write_own w (off := off) (vs := [.int k (k.wrap (x + y))]) g (by simp only [List.length_cons, List.length_nil]; omega) rfl
  unfold xAdd
  simp only [row_rw g, Option.bind_some, hx, and_self, if_true, e1, Option.map_some]
  exact Wp.ret ⟨rfl, e3, e4, e2⟩
theorem xStore_wp (w : Wf h) (g : h.get i = some ⟨.row cs e o, .rw, par⟩) (hlt : off < cs.length) :
    Wp (xStore k [.ptr (some (i, off)), .int k y] h) fun r h1 => r = .tuple [] ∧ Ke (· = i) h h1 ∧ h1.n = h.n ∧ h1.get i = some ⟨.row (splice cs off [.int k y]) e o, .rw, []⟩ := by
  obtain ⟨h', e1, e2, e3, e4⟩ := write_own w (off := off) (vs := [.int k y]) g (by simp only [List.length_cons, List.length_nil]; omega) rfl
  unfold xStore
  simp only [if_true, e1, Option.map_some]
  exact Wp.ret ⟨rfl, e3, e4, e2⟩
theorem xCas_wp (w : Wf h) (g : h.get i = some ⟨.row cs e o, .rw, par⟩) (hx : cs[off]? = some (.int k x)) :
    Wp (xCas k [.ptr (some (i, off)), .int k x, .int k y] h) fun r h1 => r = .bool true ∧ Ke (· = i) h h1 ∧ h1.n = h.n ∧ h1.get i = some ⟨.row (splice cs off [.int k y]) e o, .rw, []⟩ := by
  have hlt := lt_of_at hx
  obtain ⟨h', e1, e2, e3, e4⟩ := write_own w (off := off) (vs := [.int k y]) g (by simp only [List.length_cons, List.length_nil]; omega) rfl
  unfold xCas
  simp only [row_rw g, Option.bind_some, hx, and_self, if_true, e1, Option.map_some]
  exact Wp.ret ⟨rfl, e3, e4, e2⟩
/-- Bytes of one's own become bytes that are read alone. -/
theorem convB_wp (w : Wf h) (g : h.get i = some ⟨.row cs e o, .rw, par⟩) {n c sz : Nat} (hn : 0 < n) :
    Wp (rConvB (.slice (some (i, off, sz)) n c) h) fun r h1 => r = .slice (some (i, off, sz)) n c ∧ Ke (· = i) h h1 ∧ h1.n = h.n ∧ h1.get i = some ⟨.row cs e o, .ro, par⟩ := by
  unfold rConvB
  simp only [if_pos hn, g]
  refine Wp.ret ⟨rfl, ⟨w, w.set g (fun j hj => w.par _ _ g j hj) (.inl rfl), by simp, fun j b hj hm => ?_⟩, by simp, by simp⟩
  rw [AH.get_set]
  split
  · rename_i c
    subst c
    rw [hj] at g
    simp only [Option.some.injEq] at g
    subst g
    rcases hm with hm | hm
    · cases hm
    · exact absurd rfl hm.2
  · exact hj
end Go.Proofs.Ytfikmcfiojpilaa.AI
