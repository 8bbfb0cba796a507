/- The operations on memory, more. -/
import Derived.Test.YtbcpmbggidemdaaAiOpsH
import Derived.Laws.Tables
import Derived.Laws.Append
namespace Go.Proofs.Ytbcpmbggidemdaa.AI
open Go
set_option linter.unusedSimpArgs false

variable {P : Program} {μ : Mu} {h : AH} {w : World}

/-- The operands of a literal's parts. -/
theorem aBuild_good {t : TypeId} {parts : List (Nat × AVal)} {parts' : Array (Nat × Value)} {v : AVal} (hb : aBuild P t parts = some v)
    (hv : VRs μ (parts.map (·.2)) (parts'.toList.map (·.2))) (hi : parts.map (·.1) = parts'.toList.map (·.1)) : Good P μ w (Instr.build t parts') v := by
  unfold aBuild at hb
  split at hb
  · rename_i fs z hu hz
    simp only [Option.bind_eq_some_iff, Option.map_eq_some_iff] at hb
    obtain ⟨pl, hpl, out, hf, rfl⟩ := hb
    obtain ⟨Z, hZ, hZr⟩ := zeroCells_good (P := P) (μ := μ) (w := w) hz
    obtain ⟨C', hC', hr, _⟩ := aFill_good parts parts'.toList z Z.cells out hv hi hZr hf
    refine ⟨.agg C', ?_, .agg hr⟩
    have hp := run_places (P := P) w fs.toList pl hpl
    simp [Instr.build, hZ, und_run t hu, Array.mapM_eq_mapM_toList, hp, hC']
  · rename_i n e z hu hz
    simp only [Option.bind_eq_some_iff, Option.map_eq_some_iff] at hb
    obtain ⟨sz, hs, out, hf, rfl⟩ := hb
    obtain ⟨Z, hZ, hZr⟩ := zeroCells_good (P := P) (μ := μ) (w := w) hz
    obtain ⟨C', hC', hr, _⟩ := aFill_good parts parts'.toList z Z.cells out hv hi hZr hf
    refine ⟨.agg C', ?_, .agg hr⟩
    simp [Instr.build, hZ, und_run t hu, size_run e hs, hC']
  · cases hb

theorem range0 : Array.range 0 = #[] := rfl
theorem newRow_make (r : Rel μ h w) {cs : List AVal} {e : TypeId} {opn : Bool} {i : Nat} {h' : AH} (hn : h.newRow cs e opn = some (i, h')) {C : Array Value} {fr : Nat × Nat} (hC : VRs μ cs (C.toList.take cs.length))
    (hlen : cs.length ≤ C.size) (hop : opn = false → C.size = cs.length) (hfr : ∀ o, o < C.size → ¬ (fr.1 ≤ o ∧ o < fr.2)) (dr : Nat) :
    i = h.n ∧ Rel (muNew μ h.n ⟨w.heap.size, 0, cs.length, C.size, opn⟩) h' { w with heap := w.heap.push (.cells C e fr), drawn := dr } ∧
    Ext μ h w (muNew μ h.n ⟨w.heap.size, 0, cs.length, C.size, opn⟩) h' { w with heap := w.heap.push (.cells C e fr), drawn := dr } := by
  unfold AH.newRow at hn
  split at hn
  · simp only [Option.some.injEq, Prod.mk.injEq] at hn
    obtain ⟨rfl, rfl⟩ := hn
    exact ⟨rfl, newRow_good r hC hlen hop (by simp) hfr dr⟩
  · cases hn

theorem aBuildSlice_good (r : Rel μ h w) {t : TypeId} {len : Nat} {parts : List (Nat × AVal)} {parts' : Array (Nat × Value)} {v : AVal} {h' : AH} (hb : aBuildSlice P t len parts h = some (v, h'))
    (hv : VRs μ (parts.map (·.2)) (parts'.toList.map (·.2))) (hi : parts.map (·.1) = parts'.toList.map (·.1)) : GoodH P μ h w (Instr.buildSlice t len parts') v h' := by
  unfold aBuildSlice at hb
  split at hb
  · rename_i e hu
    simp only [Option.bind_eq_some_iff] at hb
    obtain ⟨sz, hs, z, hz, hb⟩ := hb
    split at hb
    · rename_i hc
      obtain ⟨hc1, hc2, hc3⟩ := hc
      simp only [Option.bind_eq_some_iff, Option.map_eq_some_iff, Prod.exists, Prod.mk.injEq] at hb
      obtain ⟨cs, hf, i, h1, hn, rfl, rfl⟩ := hb
      obtain ⟨Z, hZ, hZr⟩ := zeroCells_good (P := P) (μ := μ) (w := w) hz
      have hzl := hZr.length
      have hmany := VRs.many hZr len default
      rw [hc2] at hmany
      obtain ⟨C', hC', hr, hsz⟩ := aFill_good parts parts'.toList (manyT len z) _ cs hv hi hmany hf
      have hsz' : C'.size = len * sz := by rw [hsz]; simp
      have hcl := hr.length
      simp at hcl
      obtain ⟨rfl, hrel, hext⟩ := newRow_make r hn (C := C') (fr := (0, 0)) (by rw [List.take_of_length_le (by simp; omega)]; exact hr) (by omega) (fun _ => by omega) (by simp) w.drawn
      refine ⟨_, _, _, ?_, .slice (m := ⟨w.heap.size, 0, cs.length, C'.size, false⟩) (by simp [muNew]) hc3 (Nat.le_refl _) (by simp; omega) (.inl rfl) (by simp; omega), hrel, hext⟩
      have hZs : Z.cells.size = sz := by simp at hzl; omega
      by_cases h0 : len * sz = 0
      · have hl0 : len = 0 := by
          rcases Nat.mul_eq_zero.1 h0 with h' | h'
          · exact h'
          · omega
        subst hl0
        simp [range0] at hC'
        simp [Instr.buildSlice, und_run t hu, size_run e hs, hC', newRow, range0]
      · simp only [Instr.buildSlice, Sem.run_bind, und_run t hu, Result.andThen_ok, size_run e hs]
        rw [if_neg (by omega)]
        simp only [h0, if_false, Sem.run_bind, hZ, Result.andThen_ok, Sem.run_pure, getBang, hC']
        simp [newRow]
    · cases hb
  · cases hb

theorem aMakeSlice_good (r : Rel μ h w) {t : TypeId} {l c : AVal} {v : AVal} {h' : AH} (hb : aMakeSlice P t l c h = some (v, h')) {lv cv : Value} (hl : VR μ l lv) (hc : VR μ c cv) : GoodH P μ h w (Instr.makeSlice t lv cv) v h' := by
  unfold aMakeSlice at hb
  split at hb
  · rename_i e k l k2 c hu
    simp only [Option.bind_eq_some_iff] at hb
    obtain ⟨sz, hs, by_, hby, z, hz, hb⟩ := hb
    split at hb
    · rename_i hcond
      obtain ⟨h1, h2, h3, h4, h5, h6⟩ := hcond
      simp only [Option.map_eq_some_iff, Prod.exists, Prod.mk.injEq] at hb
      obtain ⟨i, h1', hn, rfl, rfl⟩ := hb
      cases hl; cases hc
      obtain ⟨Z, hZ, hZr⟩ := zeroCells_good (P := P) (μ := μ) (w := w) hz
      have hzl := hZr.length
      have hmany := VRs.many hZr c.toNat default
      rw [h5] at hmany
      obtain ⟨ti, hti, hbt⟩ := run_typeInfo_by (w := w) e hby
      have hml : (manyT c.toNat z).length = c.toNat * sz := by rw [manyT_length, h5]
      obtain ⟨C, hCe⟩ : ∃ C, C = (Array.range (c.toNat * sz)).map fun j => Z.cells.getD (j % Z.cells.size) default := ⟨_, rfl⟩
      rw [← hCe] at hmany
      have hCs : C.size = c.toNat * sz := by rw [hCe]; simp
      obtain ⟨rfl, hrel, hext⟩ := newRow_make r hn (C := C) (fr := (0, 0)) (by rw [List.take_of_length_le (by simp; omega)]; exact hmany) (by omega) (fun _ => by omega) (by simp) w.drawn
      refine ⟨_, _, _, ?_, .slice (m := ⟨w.heap.size, 0, (manyT c.toNat z).length, C.size, false⟩) (by simp [muNew]) h6 (by omega) (by show 0 + c.toNat * sz ≤ (manyT c.toNat z).length; omega) (.inl rfl) (by show 0 + c.toNat * sz ≤ C.size; omega), hrel, hext⟩
      have hwl : IntKind.i64.wrap l = l := by
        unfold IntKind.wrap; simp [IntKind.bits, IntKind.signed]; split <;> omega
      have hwc : IntKind.i64.wrap c = c := by
        unfold IntKind.wrap; simp [IntKind.bits, IntKind.signed]; split <;> omega
      have hZs : Z.cells.size = sz := by simp at hzl; omega
      simp only [Instr.makeSlice, Sem.run_bind, und_run t hu, Result.andThen_ok, asInt_good, hti, hwl, hwc, hbt]
      rw [if_neg (by simp only [Bool.or_eq_true, decide_eq_true_eq, not_or]; omega)]
      simp only [Sem.run_pure, Sem.run_bind, Result.andThen_ok, run_askRoom, size_run e hs]
      rw [hCe]
      by_cases h0 : c.toNat * sz = 0
      · simp [h0, newRow, range0]
      · simp only [h0, if_false, Sem.run_bind, hZ, Result.andThen_ok, Sem.run_pure, getBang]
        simp [newRow]
    · cases hb
  · cases hb

theorem aLen_good (r : Rel μ h w) {ts : Array TypeId} {ty : TypeId} {x v : AVal} (hl : aLen P ts.toList x h = some v) {xv : Value} (hx : VR μ x xv) : Good P μ w (Builtin.len_ ts ty #[xv]) v := by
  unfold aLen at hl
  split at hl
  · rename_i t tl hts
    have ht : ts[0]? = some t := by
      have : ts.toList[0]? = some t := by rw [hts]; rfl
      simpa using this
    split at hl
    · rename_i s hu
      simp only [Option.some.injEq] at hl
      subst hl
      cases hx
      exact ⟨_, by simp [Builtin.len_, ht, und_run t hu, goInt, size_mk], .int _ _⟩
    · rename_i n e y hu
      simp only [Option.some.injEq] at hl
      subst hl
      exact ⟨_, by simp [Builtin.len_, ht, und_run t hu, goInt], .int _ _⟩
    · rename_i e a n c hu
      simp only [Option.some.injEq] at hl
      subst hl
      cases hx <;> exact ⟨_, by simp [Builtin.len_, ht, und_run t hu, goInt], .int _ _⟩
    · rename_i kt et hu
      simp only [Option.some.injEq] at hl
      subst hl
      cases hx
      exact ⟨_, by simp [Builtin.len_, ht, und_run t hu, goInt], .int _ _⟩
    · rename_i kt et i hu
      split at hl
      · rename_i es md par hg
        split at hl
        · cases hl
        · rename_i hd
          simp only [Option.some.injEq] at hl
          subst hl
          cases hx with
          | map hm hb =>
            obtain ⟨_, E, hE, hk, _, _⟩ := r.lies i _ _ hm hg hd
            have := hk.length
            simp at this
            exact ⟨_, by simp [Builtin.len_, ht, und_run t hu, goInt, getObj, Sem.run, hE, this], .int _ _⟩
      · cases hl
    · cases hl
  · cases hl

theorem aCap_good (r : Rel μ h w) {ts : Array TypeId} {ty : TypeId} {x v : AVal} (hl : aCap P ts.toList x h = some v) {xv : Value} (hx : VR μ x xv) : Good P μ w (Builtin.cap_ ts ty #[xv]) v := by
  unfold aCap at hl
  split at hl
  · rename_i t tl hts
    have ht : ts[0]? = some t := by
      have : ts.toList[0]? = some t := by rw [hts]; rfl
      simpa using this
    split at hl
    · rename_i e l n hu
      simp only [Option.some.injEq] at hl
      subst hl
      cases hx
      exact ⟨_, by simp [Builtin.cap_, ht, und_run t hu, goInt], .int _ _⟩
    · rename_i e i off z l n hu
      split at hl
      · rename_i cs el opn md par hg
        split at hl
        · rename_i hc
          simp only [Option.some.injEq] at hl
          subst hl
          cases hx with
          | slice hm hz hle hcc hcap hr =>
            obtain ⟨g1, g2, _⟩ := r.lies i _ _ hm hg hc.1
            have : ∀ {cap' : Nat} {m : MuAt}, m.len = cs.length → m.opn = opn → (cap' = n ∨ (m.opn = true ∧ off + n * z = m.len ∧ n ≤ cap')) → cap' = n := by
              intro cap' m e1 e2 hcap
              rcases hcap with rfl | ⟨h3, h4, _⟩
              · rfl
              · rcases hc.2 with h5 | ⟨h5, _⟩
                · omega
                · rw [e2, h5] at h3; cases h3
            obtain rfl := this g1 g2 hcap
            exact ⟨_, by simp [Builtin.cap_, ht, und_run t hu, goInt], .int _ _⟩
          | sliceE => exact ⟨_, by simp [Builtin.cap_, ht, und_run t hu, goInt], .int _ _⟩
        · cases hl
      · cases hl
    · cases hl
  · cases hl
end Go.Proofs.Ytbcpmbggidemdaa.AI
