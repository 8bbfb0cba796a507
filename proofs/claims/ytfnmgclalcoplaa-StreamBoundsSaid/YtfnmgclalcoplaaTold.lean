/- What a stream of bytes tells: its frames, one behind the other, up to the first error. -/
import Derived.Test.YtfnmgclalcoplaaRef3m
namespace Go.Proofs.Ytfnmgclalcoplaa.AI
open Go
set_option linter.unusedSimpArgs false
set_option linter.unusedVariables false

/-- Identifier, unit, PDU. -/
abbrev Frm := Nat × Nat × List UInt8
/-- What openM says is that nothing can be told yet. -/
def waits (l : List UInt8) : Prop := (openM l).2.2.2.1 = 0 ∧ (openM l).2.2.2.2 = 0
theorem openM_cases (l : List UInt8) : openM l = (0, 0, [], 0, 0) ∨ openM l = (0, 0, [], 0, 41) ∨ openM l = (0, 0, [], 0, 40) ∨
    (∃ n, openM l = (gb l 0 * 256 + gb l 1, gb l 6, (l.take n).drop 7, n, 0) ∧ 8 ≤ n ∧ n ≤ l.length ∧ n ≤ 260 ∧ n = 6 + (gb l 4 * 256 + gb l 5)) := by
  unfold openM
  by_cases c1 : l.length < 6
  · left; rw [if_pos c1]
  rw [if_neg c1]
  by_cases c2 : gb l 2 ≠ 0 ∨ gb l 3 ≠ 0
  · right; left; rw [if_pos c2]
  rw [if_neg c2]
  by_cases c3 : gb l 4 * 256 + gb l 5 < 2 ∨ 254 < gb l 4 * 256 + gb l 5
  · right; right; left; rw [if_pos c3]
  rw [if_neg c3]
  by_cases c4 : l.length < 6 + (gb l 4 * 256 + gb l 5)
  · left; rw [if_pos c4]
  rw [if_neg c4]
  right; right; right
  exact ⟨_, rfl, by omega, by omega, by omega, rfl⟩
theorem openM_n (l : List UInt8) : (openM l).2.2.2.1 ≤ l.length ∧ (openM l).2.2.2.1 ≤ 260 ∧ ((openM l).2.2.2.1 ≠ 0 → (openM l).2.2.2.2 = 0 ∧ 0 < (openM l).2.2.1.length ∧ (openM l).2.2.1.length ≤ 253) ∧ (openM l).2.2.2.2 ≤ 41 ∧ ((openM l).2.2.2.1 = 0 → (openM l).1 = 0 ∧ (openM l).2.1 = 0 ∧ (openM l).2.2.1 = []) := by
  rcases openM_cases l with e | e | e | ⟨n, e, h1, h2, h3, h4⟩ <;> rw [e] <;> simp <;> omega
/-- What waits is shorter than any frame. -/
theorem waits_short {l : List UInt8} (h : waits l) : l.length < 260 := by
  have h4 := gb_lt l 4; have h5 := gb_lt l 5
  unfold waits openM at h
  by_cases c1 : l.length < 6
  · omega
  rw [if_neg c1] at h
  by_cases c2 : gb l 2 ≠ 0 ∨ gb l 3 ≠ 0
  · rw [if_pos c2] at h; simp at h
  rw [if_neg c2] at h
  by_cases c3 : gb l 4 * 256 + gb l 5 < 2 ∨ 254 < gb l 4 * 256 + gb l 5
  · rw [if_pos c3] at h; simp at h
  rw [if_neg c3] at h
  by_cases c4 : l.length < 6 + (gb l 4 * 256 + gb l 5)
  · omega
  rw [if_neg c4] at h
  simp at h
theorem gb_append {l : List UInt8} (m : List UInt8) {i : Nat} (h : i < l.length) : gb (l ++ m) i = gb l i := by
  unfold gb
  rw [List.getD_eq_getElem?_getD, List.getElem?_append_left h, ← List.getD_eq_getElem?_getD]
/-- What is told, is told whatever comes behind. -/
theorem openM_append {l : List UInt8} (m : List UInt8) (h : ¬ waits l) : openM (l ++ m) = openM l := by
  unfold waits at h
  have hl : ¬ l.length < 6 := fun c => by unfold openM at h; rw [if_pos c] at h; simp at h
  unfold openM at h ⊢
  rw [gb_append m (by omega), gb_append m (by omega), gb_append m (by omega), gb_append m (by omega), gb_append m (by omega), gb_append m (by omega)]
  rw [if_neg hl] at h ⊢
  rw [if_neg (by simp; omega)]
  by_cases c2 : gb l 2 ≠ 0 ∨ gb l 3 ≠ 0
  · rw [if_pos c2, if_pos c2]
  rw [if_neg c2] at h ⊢
  rw [if_neg c2]
  by_cases c3 : gb l 4 * 256 + gb l 5 < 2 ∨ 254 < gb l 4 * 256 + gb l 5
  · rw [if_pos c3, if_pos c3]
  rw [if_neg c3] at h ⊢
  rw [if_neg c3]
  by_cases c4 : l.length < 6 + (gb l 4 * 256 + gb l 5)
  · rw [if_pos c4] at h; simp at h
  rw [if_neg c4, if_neg (by simp; omega)]
  rw [gb_append m (by omega), List.take_append_of_le_length (by omega)]
/-- A frame, as it is told. -/
def frmOf (l : List UInt8) : Frm := ((openM l).1, (openM l).2.1, (openM l).2.2.1)
/-- All that is told, and the error (0: none). -/
def toldN : Nat → List UInt8 → List Frm × Nat
  | 0, _ => ([], 0)
  | k + 1, l => if (openM l).2.2.2.2 ≠ 0 then ([], (openM l).2.2.2.2) else if (openM l).2.2.2.1 = 0 then ([], 0) else
      (frmOf l :: (toldN k (l.drop (openM l).2.2.2.1)).1, (toldN k (l.drop (openM l).2.2.2.1)).2)
theorem toldN_big : ∀ (k : Nat) (l : List UInt8), l.length < k → toldN k l = toldN (l.length + 1) l
  | 0, l, h => by omega
  | k + 1, l, h => by
      unfold toldN
      by_cases c1 : (openM l).2.2.2.2 ≠ 0
      · rw [if_pos c1, if_pos c1]
      rw [if_neg c1, if_neg c1]
      by_cases c2 : (openM l).2.2.2.1 = 0
      · rw [if_pos c2, if_pos c2]
      rw [if_neg c2, if_neg c2]
      have h1 := openM_n l
      have hd : (l.drop (openM l).2.2.2.1).length = l.length - (openM l).2.2.2.1 := List.length_drop
      rw [toldN_big k _ (by omega)]
      by_cases c3 : l.length = (l.drop (openM l).2.2.2.1).length + 1
      · rw [← c3]
      · rw [toldN_big l.length _ (by omega)]
def told (l : List UInt8) : List Frm × Nat := toldN (l.length + 1) l
theorem told_err {l : List UInt8} (h : (openM l).2.2.2.2 ≠ 0) : told l = ([], (openM l).2.2.2.2) := by unfold told toldN; rw [if_pos h]
theorem told_wait {l : List UInt8} (h : waits l) : told l = ([], 0) := by unfold told toldN; rw [if_neg (by rw [h.2]; simp), if_pos h.1]
theorem told_frame {l : List UInt8} (h : (openM l).2.2.2.1 ≠ 0) : told l = (frmOf l :: (told (l.drop (openM l).2.2.2.1)).1, (told (l.drop (openM l).2.2.2.1)).2) := by
  have h1 := openM_n l
  unfold told
  have hd : (l.drop (openM l).2.2.2.1).length = l.length - (openM l).2.2.2.1 := List.length_drop
  rw [show toldN (l.length + 1) l = _ from by unfold toldN; rw [if_neg (by rw [(h1.2.2.1 h).1]; simp), if_neg h]]
  rw [toldN_big l.length _ (by omega)]
theorem openM_kinds (l : List UInt8) : waits l ∨ (openM l).2.2.2.2 ≠ 0 ∨ (openM l).2.2.2.1 ≠ 0 := by
  unfold waits; omega
/-- The same, of what is held and what comes behind. -/
theorem told_err' {l m : List UInt8} (h : (openM l).2.2.2.2 ≠ 0) : told (l ++ m) = ([], (openM l).2.2.2.2) := by
  have e := openM_append m (l := l) (fun w => h w.2)
  rw [told_err (by rw [e]; exact h), e]
theorem told_frame' {l m : List UInt8} (h : (openM l).2.2.2.1 ≠ 0) : told (l ++ m) = (frmOf l :: (told (l.drop (openM l).2.2.2.1 ++ m)).1, (told (l.drop (openM l).2.2.2.1 ++ m)).2) := by
  have e := openM_append m (l := l) (fun w => h w.1)
  have h1 := openM_n l
  rw [told_frame (by rw [e]; exact h), e, List.drop_append_of_le_length h1.1]
  unfold frmOf
  rw [e]
/-- A frame's bytes open as the frame, whatever stands behind them. -/
theorem openM_head {id un : Nat} (hid : id < 65536) (hun : un < 256) {l m : List UInt8} (h1 : ¬ (l.length < 1 ∨ 253 < l.length)) : openM (headOf id un (l.length + 1) ++ l ++ m) = (id, un, l, l.length + 7, 0) := by
  have e0 : gb (headOf id un (l.length + 1) ++ l ++ m) 0 = id / 256 := by simp [gb, headOf]; omega
  have e1 : gb (headOf id un (l.length + 1) ++ l ++ m) 1 = id % 256 := by simp [gb, headOf]
  have e2 : gb (headOf id un (l.length + 1) ++ l ++ m) 2 = 0 := by simp [gb, headOf]
  have e3 : gb (headOf id un (l.length + 1) ++ l ++ m) 3 = 0 := by simp [gb, headOf]
  have e4 : gb (headOf id un (l.length + 1) ++ l ++ m) 4 = (l.length + 1) / 256 := by simp [gb, headOf]; omega
  have e5 : gb (headOf id un (l.length + 1) ++ l ++ m) 5 = (l.length + 1) % 256 := by simp [gb, headOf]
  have e6 : gb (headOf id un (l.length + 1) ++ l ++ m) 6 = un := by simp [gb, headOf]; omega
  have el : (headOf id un (l.length + 1) ++ l ++ m).length = 7 + l.length + m.length := by simp [headOf]; omega
  unfold openM
  rw [e0, e1, e2, e3, e4, e5, e6, el, if_neg (by omega), if_neg (by omega), if_neg (by omega), if_neg (by omega)]
  have ed : (List.take (6 + ((l.length + 1) / 256 * 256 + (l.length + 1) % 256)) (headOf id un (l.length + 1) ++ l ++ m)).drop 7 = l := by
    rw [show 6 + ((l.length + 1) / 256 * 256 + (l.length + 1) % 256) = (headOf id un (l.length + 1) ++ l).length by simp [headOf]; omega, List.take_left,
      show 7 = (headOf id un (l.length + 1)).length by simp [headOf], List.drop_left]
  rw [ed]
  simp only [Prod.mk.injEq, true_and, and_true]
  omega
/-- A frame's bytes. -/
def frB (f : Frm) : List UInt8 := headOf f.1 f.2.1 (f.2.2.length + 1) ++ f.2.2
def okF (f : Frm) : Prop := f.1 < 65536 ∧ f.2.1 < 256 ∧ ¬ (f.2.2.length < 1 ∨ 253 < f.2.2.length)
theorem told_nil : told [] = ([], 0) := told_wait (by unfold waits openM; simp)
theorem told_frames : ∀ fs : List Frm, (∀ f ∈ fs, okF f) → told ((fs.map frB).flatten) = (fs, 0)
  | [], _ => told_nil
  | f :: fs, h => by
      have ⟨h1, h2, h3⟩ := h f (by simp)
      have ih := told_frames fs fun g hg => h g (by simp [hg])
      have eo := openM_head h1 h2 (m := (fs.map frB).flatten) h3
      have hn : (openM (headOf f.1 f.2.1 (f.2.2.length + 1) ++ f.2.2 ++ (fs.map frB).flatten)).2.2.2.1 ≠ 0 := by rw [eo]; simp
      have hd : (headOf f.1 f.2.1 (f.2.2.length + 1) ++ f.2.2 ++ (fs.map frB).flatten).drop (f.2.2.length + 7) = (fs.map frB).flatten := by
        rw [show f.2.2.length + 7 = (headOf f.1 f.2.1 (f.2.2.length + 1) ++ f.2.2).length by simp [headOf], List.drop_left]
      simp only [List.map_cons, List.flatten_cons]
      rw [show frB f = headOf f.1 f.2.1 (f.2.2.length + 1) ++ f.2.2 from rfl, told_frame hn]
      unfold frmOf
      rw [eo]
      simp only
      rw [hd, ih]
end Go.Proofs.Ytfnmgclalcoplaa.AI
