/- The model's own functions, stepped over. -/
import Derived.Test.YtoaghkjeioionaaAiExt
import Derived.Test.YtoaghkjeioionaaAiLib2
namespace Go.Proofs.Ytoaghkjeioionaa.AI
open Go
set_option linter.unusedSimpArgs false
set_option linter.unusedVariables false
variable {h : AH} {i off : Nat} {cs : List AVal} {e : TypeId} {o : Bool} {par : List Nat} {k : IntKind} {x y : Int}
theorem lt_of_at {cs : List AVal} {off : Nat} {x : AVal} (hx : cs[off]? = some x) : off < cs.length := by
  rcases Nat.lt_or_ge off cs.length with h | h
  · exact h
  · rw [List.getElem?_eq_none h] at hx; cases hx
theorem xLoad_eq (hr : h.row i = some cs) (hx : cs[off]? = some (.int k x)) : xLoad k [.ptr (some (i, off))] h = some (.int k x, h) := by
  unfold xLoad
  simp only [hr, Option.bind_some, hx, if_true]
theorem xAdd_wp (w : Wf h) (g : h.get i = some ⟨.row cs e o, .rw, par⟩) (hx : cs[off]? = some (.int k x)) :
    Wp (xAdd k [.ptr (some (i, off)), .int k y] h) fun r h1 => r = .int k (k.wrap (x + y)) ∧ Ke (· = i) h h1 ∧ h1.n = h.n ∧ h1.get i = some ⟨.row (splice cs off [.int k (k.wrap (x + y))]) e o, .rw, []⟩ := by
  have hlt := lt_of_at hx
  obtain ⟨h', e1, e2, e3, e4⟩ := write_own w (off := off) (vs := [.int k (k.wrap (x + y))]) g (by simp only [List.length_cons, List.length_nil]; omega) rfl
  unfold xAdd
  simp only [row_rw g, Option.bind_some, hx, and_self, if_true, e1, Option.map_some]
  exact Wp.ret ⟨rfl, e3, e4, e2⟩
theorem xStore_wp (w : Wf h) (g : h.get i = some ⟨.row cs e o, .rw, par⟩) (hlt : off < cs.length) :
    Wp (xStore k [.ptr (some (i, off)), .int k y] h) fun r h1 => r = .tuple [] ∧ Ke (· = i) h h1 ∧ h1.n = h.n ∧ h1.get i = some ⟨.row (splice cs off [.int k y]) e o, .rw, []⟩ := by
  obtain ⟨h', e1, e2, e3, e4⟩ := write_own w (off := off) (vs := [.int k y]) g (by simp only [List.length_cons, List.length_nil]; omega) rfl
  unfold xStore
  simp only [if_true, e1, Option.map_some]
  exact Wp.ret ⟨rfl, e3, e4, e2⟩
theorem xCas_wp (w : Wf h) (g : h.get i = some ⟨.row cs e o, .rw, par⟩) (hx : cs[off]? = some (.int k x)) :
    Wp (xCas k [.ptr (some (i, off)), .int k x, .int k y] h) fun r h1 => r = .bool true ∧ Ke (· = i) h h1 ∧ h1.n = h.n ∧ h1.get i = some ⟨.row (splice cs off [.int k y]) e o, .rw, []⟩ := by
  have hlt := lt_of_at hx
  obtain ⟨h', e1, e2, e3, e4⟩ := write_own w (off := off) (vs := [.int k y]) g (by simp only [List.length_cons, List.length_nil]; omega) rfl
  unfold xCas
  simp only [row_rw g, Option.bind_some, hx, and_self, if_true, e1, Option.map_some]
  exact Wp.ret ⟨rfl, e3, e4, e2⟩
end Go.Proofs.Ytoaghkjeioionaa.AI
