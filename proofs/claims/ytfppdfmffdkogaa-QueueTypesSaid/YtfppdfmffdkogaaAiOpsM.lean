/- OpsH, OpsI, OpsJ, OpsK, OpsM of the machine, joined. -/
import Derived.Test.YtfppdfmffdkogaaAiMake
import Derived.Laws.Tables
import Derived.Laws.Append
namespace Go.Proofs.Ytfppdfmffdkogaa.AI
open Go

variable {P : Program} {μ : Mu} {h : AH} {w : World}

/-- The run ends, with a value and a world that are as v and h' say. -/
def GoodH (P : Program) (μ : Mu) (h : AH) (w : World) (s : Sem Value) (v : AVal) (h' : AH) : Prop :=
  ∃ v' w' μ', s.run P w = .ok v' w' ∧ VR μ' v v' ∧ Rel μ' h' w' ∧ Ext μ h w μ' h' w'
theorem Good.goodH (r : Rel μ h w) {s : Sem Value} {v : AVal} (g : Good P μ w s v) : GoodH P μ h w s v h := by
  obtain ⟨v', hr, hv⟩ := g
  exact ⟨v', w, μ, hr, hv, r, Ext.refl _ _ _⟩

theorem aStore_good (r : Rel μ h w) {t : TypeId} {a v : AVal} {h' : AH} (hs : aStore P t a v h = some h') {av vv : Value} (ha : VR μ a av) (hv : VR μ v vv) :
    ∃ w', (Instr.storeAt t av vv).run P w = .ok () w' ∧ Rel μ h' w' ∧ Ext μ h w μ h' w' := by
  unfold aStore at hs
  split at hs
  · rename_i i off cs n hc hn
    split at hs
    · rename_i hl
      cases ha with
      | ptr hm =>
        have hcs := hv.cells hc
        obtain ⟨w', hrun, hrel, hext⟩ := write_good (P := P) r hs hm hcs
        refine ⟨w', ?_, hrel, hext⟩
        have hsz : vv.cells.size = n := by have := hcs.length; simp at this; omega
        simp only [Instr.storeAt, Instr.sureAddr, storeVar, Sem.run_bind, Sem.run_pure, Result.andThen_ok, size_run t hn]
        simp [hsz, hrun]
    · cases hs
  · cases hs

theorem aBox_good (r : Rel μ h w) {e : TypeId} {v : AVal} {v' : AVal} {h' : AH} (hb : aBox e v h = some (v', h')) {vv : Value} (hv : VR μ v vv) : GoodH P μ h w (do pure (.pointer (some (← newVar e vv)))) v' h' := by
  unfold aBox AH.newRow at hb
  simp only [Option.bind_eq_some_iff] at hb
  obtain ⟨cs, hc, hb⟩ := hb
  split at hb
  · simp only [Option.map_some, Option.some.injEq, Prod.mk.injEq] at hb
    obtain ⟨rfl, rfl⟩ := hb
    have hcs := hv.cells hc
    have hlen := hcs.length
    have := newRow_good r (e := e) (opn := false) (par := []) (C := vv.cells) (fr := (0, 0)) (cs := cs) (by rw [hlen, List.take_length]; exact hcs) (by simp at hlen; omega) (fun _ => by simp at hlen; omega) (by simp) (by simp) w.drawn
    exact ⟨_, _, _, by simp [newVar, newRow], .ptr (m := ⟨w.heap.size, 0, cs.length, vv.cells.size, false⟩) (by simp [muNew]), this.1, this.2⟩
  · cases hb
theorem aAlloc_good (r : Rel μ h w) {e : TypeId} {v' : AVal} {h' : AH} (ha : aAlloc P e h = some (v', h')) : GoodH P μ h w (Instr.alloc e true (.tuple #[])) v' h' := by
  unfold aAlloc at ha
  simp only [Option.bind_eq_some_iff] at ha
  obtain ⟨z, hz, ha⟩ := ha
  obtain ⟨zv, hzr, hzv⟩ := zero_run (μ := μ) (w := w) e hz
  obtain ⟨v, w', μ', hr, hv, hrel, hext⟩ := aBox_good (P := P) r ha hzv
  refine ⟨v, w', μ', ?_, hv, hrel, hext⟩
  simp only [Instr.alloc, Sem.run_bind, hzr, Result.andThen_ok]
  exact hr

theorem aMakeMap_good (r : Rel μ h w) {v' : AVal} {h' : AH} (hm : aMakeMap h = (v', h')) (t : TypeId) : GoodH P μ h w (Instr.makeMap t none) v' h' := by
  unfold aMakeMap at hm
  simp only [Prod.mk.injEq] at hm
  obtain ⟨rfl, rfl⟩ := hm
  have := new_good r (b := ⟨.map [], .rw, []⟩) (m := ⟨w.heap.size, 0, 0, 0, false⟩) (o := .map #[] 0) rfl (by simp) ⟨rfl, #[], by simp, .nil, .nil, by simp⟩ w.drawn
  exact ⟨_, _, _, by simp [Instr.makeMap], .map (m := ⟨w.heap.size, 0, 0, 0, false⟩) (by simp [muNew]) rfl, this.1, this.2⟩

/-! ### Many cells -/
theorem manyT_get {z : List AVal} : ∀ (n j : Nat), j < n * z.length → (manyT n z)[j]? = z[j % z.length]?
  | 0, j, hj => by simp at hj
  | n + 1, j, hj => by
      have e : manyT (n + 1) z = z ++ manyT n z := by simp [manyT, List.replicate_succ]
      rw [e]
      by_cases h1 : j < z.length
      · rw [List.getElem?_append_left h1, Nat.mod_eq_of_lt h1]
      · have h2 : z.length ≤ j := by omega
        rw [List.getElem?_append_right h2, manyT_get n (j - z.length) (by rw [Nat.add_mul] at hj; omega)]
        congr 1
        exact (Nat.mod_eq_sub_mod h2).symm
theorem manyT_length (n : Nat) (z : List AVal) : (manyT n z).length = n * z.length := by simp [manyT, List.length_flatten, List.map_replicate, List.sum_replicate_nat]
theorem VRs.many {z : List AVal} {Z : Array Value} (hz : VRs μ z Z.toList) (n : Nat) (d : Value) : VRs μ (manyT n z) ((Array.range (n * z.length)).map fun j => Z.getD (j % Z.size) d).toList := by
  have hl := hz.length
  refine VRs.of_get (by simp [manyT_length]) ?_
  intro i x y hx hy
  have hi : i < n * z.length := by
    rcases Nat.lt_or_ge i (n * z.length) with h' | h'
    · exact h'
    · rw [List.getElem?_eq_none (by rw [manyT_length]; exact h')] at hx; cases hx
  rw [manyT_get n i hi] at hx
  obtain ⟨u, hu, huv⟩ := hz.get hx
  have hzl : 0 < z.length := by
    rcases Nat.eq_zero_or_pos z.length with h0 | h0
    · rw [h0] at hi; simp at hi
    · exact h0
  have hm : i % z.length < z.length := Nat.mod_lt _ hzl
  simp at hl
  simp [hi] at hy
  rw [← hl] at hy
  have : Z[i % z.length]? = some u := by simpa using hu
  rw [this] at hy
  simp at hy
  rw [← hy]; exact huv

theorem getBang (Z : Array Value) (j : Nat) : Z[j]! = Z.getD j default := by rw [getElem!_def]; simp only [Array.getD_eq_getD_getElem?]; cases Z[j]? <;> rfl
theorem zeroCells_good {e : TypeId} {z : List AVal} (hz : zeroCellsT P e = some z) : ∃ Z : Value, (zeroValue e).run P w = .ok Z w ∧ VRs μ z Z.cells.toList := by
  unfold zeroCellsT at hz
  simp only [Option.bind_eq_some_iff] at hz
  obtain ⟨v, hv, hc⟩ := hz
  obtain ⟨zv, hzr, hzv⟩ := zero_run (μ := μ) (w := w) e hv
  exact ⟨zv, hzr, hzv.cells hc⟩

theorem foldl_set {α : Type} [Inhabited α] : ∀ (l : List α) (k off : Nat) (cs : Array α), off + k + l.length ≤ cs.size →
    (((l.zipIdx k).foldl (fun cs (x : α × Nat) => cs.setIfInBounds (off + x.2) x.1) cs).toList) = cs.toList.take (off + k) ++ l ++ cs.toList.drop (off + k + l.length)
  | [], k, off, cs, _ => by simp
  | x :: l, k, off, cs, h => by
      simp only [List.zipIdx_cons, List.foldl_cons, List.length_cons] at h ⊢
      rw [foldl_set l (k + 1) off _ (by simp; omega)]
      simp only [Array.toList_setIfInBounds]
      apply List.ext_getElem?
      intro j
      simp only [List.append_assoc]
      by_cases h1 : j < off + k
      · rw [List.getElem?_append_left (by simp; omega), List.getElem?_append_left (by simp; omega), List.getElem?_take_of_lt (by omega), List.getElem?_take_of_lt h1, List.getElem?_set, if_neg (by omega)]
      · by_cases h2 : j = off + k
        · subst h2
          rw [List.getElem?_append_left (by simp; omega), List.getElem?_take_of_lt (by omega), List.getElem?_set, if_pos rfl, if_pos (by simp; omega), List.getElem?_append_right (by simp; omega)]
          simp; rw [show off + k - min (off + k) cs.size = 0 by omega]; simp
        · have e1 : (List.take (off + (k + 1)) (cs.toList.set (off + k) x)).length = off + k + 1 := by simp; omega
          have e2 : (List.take (off + k) cs.toList).length = off + k := by simp; omega
          rw [List.getElem?_append_right (l₁ := List.take (off + (k + 1)) (cs.toList.set (off + k) x)) (by omega), List.getElem?_append_right (l₁ := List.take (off + k) cs.toList) (by omega), e1, e2]
          rw [show j - (off + k) = (j - (off + k + 1)) + 1 by omega, List.cons_append, List.getElem?_cons_succ, List.getElem?_append, List.getElem?_append]
          split
          · rfl
          · rw [List.getElem?_drop, List.getElem?_drop, List.getElem?_set, if_neg (by omega)]
            congr 1; omega

theorem aFill_good {pl : Nat → Option (Nat × Nat)} : ∀ (parts : List (Nat × AVal)) (parts' : List (Nat × Value)) (cells : List AVal) (C : Array Value) (out : List AVal),
    VRs μ (parts.map (·.2)) (parts'.map (·.2)) → parts.map (·.1) = parts'.map (·.1) → VRs μ cells C.toList → aFill pl cells parts = some out → ∃ C', Instr.fill pl C parts' = some C' ∧ VRs μ out C'.toList ∧ C'.size = C.size
  | [], [], cells, C, out, _, _, hc, hf => by
      simp only [aFill, Option.some.injEq] at hf
      subst hf
      exact ⟨C, rfl, hc, rfl⟩
  | [], _ :: _, _, _, _, hv, _, _, _ => by cases hv
  | _ :: _, [], _, _, _, hv, _, _, _ => by cases hv
  | (i, v) :: rest, (i', v') :: rest', cells, C, out, hv, hi, hc, hf => by
      simp only [List.map_cons, List.cons.injEq] at hi hv
      obtain ⟨rfl, hi⟩ := hi
      cases hv with
      | cons hv0 hvr =>
        simp only [aFill] at hf
        split at hf
        · rename_i off size vs hp hcs
          split at hf
          · rename_i hb
            have hvs := hv0.cells hcs
            have hl := hvs.length
            have hcl := hc.length
            simp at hl hcl
            have hset := foldl_set v'.cells.toList 0 off C (by simp; omega)
            have h1 : ¬ (v'.cells.size ≠ size ∨ off + v'.cells.size > C.size) := by omega
            obtain ⟨C', hC', hr, hsz⟩ := aFill_good rest rest' (splice cells off vs) (v'.cells.zipIdx.foldl (fun cs (c, j) => cs.setIfInBounds (off + j) c) C) out hvr hi (by
              have e : (v'.cells.zipIdx.foldl (fun cs (c, j) => cs.setIfInBounds (off + j) c) C) = (v'.cells.toList.zipIdx 0).foldl (fun cs (x : Value × Nat) => cs.setIfInBounds (off + x.2) x.1) C := by
                rw [← Array.foldl_toList]; simp
              rw [e, hset]
              unfold splice
              rw [Nat.add_zero, show v'.cells.toList.length = vs.length by simp [hl]]
              exact ((hc.take off).append hvs).append (hc.drop _)) hf
            refine ⟨C', ?_, hr, ?_⟩
            · simp only [Instr.fill, hp]
              rw [if_neg (by simpa using h1)]
              exact hC'
            · rw [hsz]
              have e : (v'.cells.zipIdx.foldl (fun cs (c, j) => cs.setIfInBounds (off + j) c) C) = (v'.cells.toList.zipIdx 0).foldl (fun cs (x : Value × Nat) => cs.setIfInBounds (off + x.2) x.1) C := by
                rw [← Array.foldl_toList]; simp
              rw [e, ← Array.length_toList, hset]
              simp; omega
          · cases hf
        · cases hf
end Go.Proofs.Ytfppdfmffdkogaa.AI
namespace Go.Proofs.Ytfppdfmffdkogaa.AI
open Go
set_option linter.unusedSimpArgs false

variable {P : Program} {μ : Mu} {h : AH} {w : World}

/-- The operands of a literal's parts. -/
theorem aBuild_good {t : TypeId} {parts : List (Nat × AVal)} {parts' : Array (Nat × Value)} {v : AVal} (hb : aBuild P t parts = some v)
    (hv : VRs μ (parts.map (·.2)) (parts'.toList.map (·.2))) (hi : parts.map (·.1) = parts'.toList.map (·.1)) : Good P μ w (Instr.build t parts') v := by
  unfold aBuild at hb
  split at hb
  · rename_i fs z hu hz
    simp only [Option.bind_eq_some_iff, Option.map_eq_some_iff] at hb
    obtain ⟨pl, hpl, out, hf, rfl⟩ := hb
    obtain ⟨Z, hZ, hZr⟩ := zeroCells_good (P := P) (μ := μ) (w := w) hz
    obtain ⟨C', hC', hr, _⟩ := aFill_good parts parts'.toList z Z.cells out hv hi hZr hf
    refine ⟨.agg C', ?_, .agg hr⟩
    have hp := run_places (P := P) w fs.toList pl hpl
    simp [Instr.build, hZ, und_run t hu, Array.mapM_eq_mapM_toList, hp, hC']
  · rename_i n e z hu hz
    simp only [Option.bind_eq_some_iff, Option.map_eq_some_iff] at hb
    obtain ⟨sz, hs, out, hf, rfl⟩ := hb
    obtain ⟨Z, hZ, hZr⟩ := zeroCells_good (P := P) (μ := μ) (w := w) hz
    obtain ⟨C', hC', hr, _⟩ := aFill_good parts parts'.toList z Z.cells out hv hi hZr hf
    refine ⟨.agg C', ?_, .agg hr⟩
    simp [Instr.build, hZ, und_run t hu, size_run e hs, hC']
  · cases hb

theorem range0 : Array.range 0 = #[] := rfl
theorem newRow_make (r : Rel μ h w) {cs : List AVal} {e : TypeId} {opn : Bool} {i : Nat} {h' : AH} (hn : h.newRow cs e opn = some (i, h')) {C : Array Value} {fr : Nat × Nat} (hC : VRs μ cs (C.toList.take cs.length))
    (hlen : cs.length ≤ C.size) (hop : opn = false → C.size = cs.length) (hfr : ∀ o, o < C.size → ¬ (fr.1 ≤ o ∧ o < fr.2)) (dr : Nat) :
    i = h.n ∧ Rel (muNew μ h.n ⟨w.heap.size, 0, cs.length, C.size, opn⟩) h' { w with heap := w.heap.push (.cells C e fr), drawn := dr } ∧
    Ext μ h w (muNew μ h.n ⟨w.heap.size, 0, cs.length, C.size, opn⟩) h' { w with heap := w.heap.push (.cells C e fr), drawn := dr } := by
  unfold AH.newRow at hn
  split at hn
  · simp only [Option.some.injEq, Prod.mk.injEq] at hn
    obtain ⟨rfl, rfl⟩ := hn
    exact ⟨rfl, newRow_good r hC hlen hop (by simp) hfr dr⟩
  · cases hn

theorem aBuildSlice_good (r : Rel μ h w) {t : TypeId} {len : Nat} {parts : List (Nat × AVal)} {parts' : Array (Nat × Value)} {v : AVal} {h' : AH} (hb : aBuildSlice P t len parts h = some (v, h'))
    (hv : VRs μ (parts.map (·.2)) (parts'.toList.map (·.2))) (hi : parts.map (·.1) = parts'.toList.map (·.1)) : GoodH P μ h w (Instr.buildSlice t len parts') v h' := by
  unfold aBuildSlice at hb
  split at hb
  · rename_i e hu
    simp only [Option.bind_eq_some_iff] at hb
    obtain ⟨sz, hs, z, hz, hb⟩ := hb
    split at hb
    · rename_i hc
      obtain ⟨hc1, hc2, hc3⟩ := hc
      simp only [Option.bind_eq_some_iff, Option.map_eq_some_iff, Prod.exists, Prod.mk.injEq] at hb
      obtain ⟨cs, hf, i, h1, hn, rfl, rfl⟩ := hb
      obtain ⟨Z, hZ, hZr⟩ := zeroCells_good (P := P) (μ := μ) (w := w) hz
      have hzl := hZr.length
      have hmany := VRs.many hZr len default
      rw [hc2] at hmany
      obtain ⟨C', hC', hr, hsz⟩ := aFill_good parts parts'.toList (manyT len z) _ cs hv hi hmany hf
      have hsz' : C'.size = len * sz := by rw [hsz]; simp
      have hcl := hr.length
      simp at hcl
      obtain ⟨rfl, hrel, hext⟩ := newRow_make r hn (C := C') (fr := (0, 0)) (by rw [List.take_of_length_le (by simp; omega)]; exact hr) (by omega) (fun _ => by omega) (by simp) w.drawn
      refine ⟨_, _, _, ?_, .slice (m := ⟨w.heap.size, 0, cs.length, C'.size, false⟩) (by simp [muNew]) hc3 (Nat.le_refl _) (by simp; omega) (.inl rfl) (by simp; omega), hrel, hext⟩
      have hZs : Z.cells.size = sz := by simp at hzl; omega
      by_cases h0 : len * sz = 0
      · have hl0 : len = 0 := by
          rcases Nat.mul_eq_zero.1 h0 with h' | h'
          · exact h'
          · omega
        subst hl0
        simp [range0] at hC'
        simp [Instr.buildSlice, und_run t hu, size_run e hs, hC', newRow, range0]
      · simp only [Instr.buildSlice, Sem.run_bind, und_run t hu, Result.andThen_ok, size_run e hs]
        rw [if_neg (by omega)]
        simp only [h0, if_false, Sem.run_bind, hZ, Result.andThen_ok, Sem.run_pure, getBang, hC']
        simp [newRow]
    · cases hb
  · cases hb

theorem aMakeSlice_good (r : Rel μ h w) {t : TypeId} {l c : AVal} {v : AVal} {h' : AH} (hb : aMakeSlice P t l c h = some (v, h')) {lv cv : Value} (hl : VR μ l lv) (hc : VR μ c cv) : GoodH P μ h w (Instr.makeSlice t lv cv) v h' := by
  unfold aMakeSlice at hb
  split at hb
  · rename_i e k l k2 c hu
    simp only [Option.bind_eq_some_iff] at hb
    obtain ⟨sz, hs, by_, hby, z, hz, hb⟩ := hb
    split at hb
    · rename_i hcond
      obtain ⟨h1, h2, h3, h4, h5, h6⟩ := hcond
      simp only [Option.map_eq_some_iff, Prod.exists, Prod.mk.injEq] at hb
      obtain ⟨i, h1', hn, rfl, rfl⟩ := hb
      cases hl; cases hc
      obtain ⟨Z, hZ, hZr⟩ := zeroCells_good (P := P) (μ := μ) (w := w) hz
      have hzl := hZr.length
      have hmany := VRs.many hZr c.toNat default
      rw [h5] at hmany
      obtain ⟨ti, hti, hbt⟩ := run_typeInfo_by (w := w) e hby
      have hml : (manyT c.toNat z).length = c.toNat * sz := by rw [manyT_length, h5]
      obtain ⟨C, hCe⟩ : ∃ C, C = (Array.range (c.toNat * sz)).map fun j => Z.cells.getD (j % Z.cells.size) default := ⟨_, rfl⟩
      rw [← hCe] at hmany
      have hCs : C.size = c.toNat * sz := by rw [hCe]; simp
      obtain ⟨rfl, hrel, hext⟩ := newRow_make r hn (C := C) (fr := (0, 0)) (by rw [List.take_of_length_le (by simp; omega)]; exact hmany) (by omega) (fun _ => by omega) (by simp) w.drawn
      refine ⟨_, _, _, ?_, .slice (m := ⟨w.heap.size, 0, (manyT c.toNat z).length, C.size, false⟩) (by simp [muNew]) h6 (by omega) (by show 0 + c.toNat * sz ≤ (manyT c.toNat z).length; omega) (.inl rfl) (by show 0 + c.toNat * sz ≤ C.size; omega), hrel, hext⟩
      have hwl : IntKind.i64.wrap l = l := by
        unfold IntKind.wrap; simp [IntKind.bits, IntKind.signed]; split <;> omega
      have hwc : IntKind.i64.wrap c = c := by
        unfold IntKind.wrap; simp [IntKind.bits, IntKind.signed]; split <;> omega
      have hZs : Z.cells.size = sz := by simp at hzl; omega
      simp only [Instr.makeSlice, Sem.run_bind, und_run t hu, Result.andThen_ok, asInt_good, hti, hwl, hwc, hbt]
      rw [if_neg (by simp only [Bool.or_eq_true, decide_eq_true_eq, not_or]; omega)]
      simp only [Sem.run_pure, Sem.run_bind, Result.andThen_ok, run_askRoom, size_run e hs]
      rw [hCe]
      by_cases h0 : c.toNat * sz = 0
      · simp [h0, newRow, range0]
      · simp only [h0, if_false, Sem.run_bind, hZ, Result.andThen_ok, Sem.run_pure, getBang]
        simp [newRow]
    · cases hb
  · cases hb

theorem aLen_good (r : Rel μ h w) {ts : Array TypeId} {ty : TypeId} {x v : AVal} (hl : aLen P ts.toList x h = some v) {xv : Value} (hx : VR μ x xv) : Good P μ w (Builtin.len_ ts ty #[xv]) v := by
  unfold aLen at hl
  split at hl
  · rename_i t tl hts
    have ht : ts[0]? = some t := by
      have : ts.toList[0]? = some t := by rw [hts]; rfl
      simpa using this
    split at hl
    · rename_i s hu
      simp only [Option.some.injEq] at hl
      subst hl
      cases hx
      exact ⟨_, by simp [Builtin.len_, ht, und_run t hu, goInt, size_mk], .int _ _⟩
    · rename_i n e y hu
      simp only [Option.some.injEq] at hl
      subst hl
      exact ⟨_, by simp [Builtin.len_, ht, und_run t hu, goInt], .int _ _⟩
    · rename_i e a n c hu
      simp only [Option.some.injEq] at hl
      subst hl
      cases hx <;> exact ⟨_, by simp [Builtin.len_, ht, und_run t hu, goInt], .int _ _⟩
    · rename_i kt et hu
      simp only [Option.some.injEq] at hl
      subst hl
      cases hx
      exact ⟨_, by simp [Builtin.len_, ht, und_run t hu, goInt], .int _ _⟩
    · rename_i kt et i hu
      split at hl
      · rename_i es md par hg
        split at hl
        · cases hl
        · rename_i hd
          simp only [Option.some.injEq] at hl
          subst hl
          cases hx with
          | map hm hb =>
            obtain ⟨_, E, hE, hk, _, _⟩ := r.lies i _ _ hm hg hd
            have := hk.length
            simp at this
            exact ⟨_, by simp [Builtin.len_, ht, und_run t hu, goInt, getObj, Sem.run, hE, this], .int _ _⟩
      · cases hl
    · cases hl
  · cases hl

theorem aCap_good (r : Rel μ h w) {ts : Array TypeId} {ty : TypeId} {x v : AVal} (hl : aCap P ts.toList x h = some v) {xv : Value} (hx : VR μ x xv) : Good P μ w (Builtin.cap_ ts ty #[xv]) v := by
  unfold aCap at hl
  split at hl
  · rename_i t tl hts
    have ht : ts[0]? = some t := by
      have : ts.toList[0]? = some t := by rw [hts]; rfl
      simpa using this
    split at hl
    · rename_i e l n hu
      simp only [Option.some.injEq] at hl
      subst hl
      cases hx
      exact ⟨_, by simp [Builtin.cap_, ht, und_run t hu, goInt], .int _ _⟩
    · rename_i e i off z l n hu
      split at hl
      · rename_i cs el opn md par hg
        split at hl
        · rename_i hc
          simp only [Option.some.injEq] at hl
          subst hl
          cases hx with
          | slice hm hz hle hcc hcap hr =>
            obtain ⟨g1, g2, _⟩ := r.lies i _ _ hm hg hc.1
            have : ∀ {cap' : Nat} {m : MuAt}, m.len = cs.length → m.opn = opn → (cap' = n ∨ (m.opn = true ∧ off + n * z = m.len ∧ n ≤ cap')) → cap' = n := by
              intro cap' m e1 e2 hcap
              rcases hcap with rfl | ⟨h3, h4, _⟩
              · rfl
              · rcases hc.2 with h5 | ⟨h5, _⟩
                · omega
                · rw [e2, h5] at h3; cases h3
            obtain rfl := this g1 g2 hcap
            exact ⟨_, by simp [Builtin.cap_, ht, und_run t hu, goInt], .int _ _⟩
          | sliceE => exact ⟨_, by simp [Builtin.cap_, ht, und_run t hu, goInt], .int _ _⟩
        · cases hl
      · cases hl
    · cases hl
  · cases hl
end Go.Proofs.Ytfppdfmffdkogaa.AI
namespace Go.Proofs.Ytfppdfmffdkogaa.AI
open Go
set_option linter.unusedSimpArgs false

variable {P : Program} {μ : Mu} {h : AH} {w : World}

theorem bytesOf_VRs (s : List UInt8) : VRs μ (bytesOf s) (s.map fun b => Value.int .u8 b.toNat) := by
  induction s with
  | nil => exact .nil
  | cons b l ih => exact .cons (.int _ _) ih

theorem aSource_good (r : Rel μ h w) {sz n : Nat} {x : AVal} {xs : List AVal} (hs : aSource sz x h = some (n, xs)) {xv : Value} (hx : VR μ x xv) :
    xs.length = n * sz ∧ (∀ d, (Builtin.lenOf xv).run P { w with drawn := d } = .ok n { w with drawn := d }) ∧
    ∀ k, k ≤ n → ∃ C : Array Value, (∀ d, (Builtin.firstCells sz k xv).run P { w with drawn := d } = .ok C { w with drawn := d }) ∧ VRs μ (xs.take (k * sz)) C.toList := by
  unfold aSource at hs
  split at hs
  · simp only [Option.some.injEq, Prod.mk.injEq] at hs
    obtain ⟨rfl, rfl⟩ := hs
    cases hx
    refine ⟨by simp, fun _ => rfl, fun k _ => ⟨#[], fun _ => rfl, by simp; exact .nil⟩⟩
  · rename_i i off z len cap
    split at hs
    · rename_i hl
      subst hl
      simp only [Option.some.injEq, Prod.mk.injEq] at hs
      obtain ⟨rfl, rfl⟩ := hs
      refine ⟨by simp, fun _ => by cases hx <;> rfl, fun k hk => ⟨#[], fun d => ?_, by simp; exact .nil⟩⟩
      obtain rfl : k = 0 := by omega
      cases hx <;> simp [Builtin.firstCells, loadCells, loadCellsFrom]
    · rename_i hl
      split at hs
      · rename_i hz
        subst hz
        simp only [Option.map_eq_some_iff, Prod.mk.injEq] at hs
        obtain ⟨cs, hr, rfl, rfl⟩ := hs
        cases hx with
        | slice hm hz hle hc hcap hroom =>
          rename_i cap' m
          unfold AH.read at hr
          simp only [Option.bind_eq_some_iff] at hr
          obtain ⟨row, hrow, hr⟩ := hr
          split at hr
          · rename_i hb
            simp only [Option.some.injEq] at hr
            subst hr
            obtain ⟨g1, g2, C, e, fr, g3, g4, g5⟩ := r.row hm hrow
            refine ⟨by simp; omega, fun _ => rfl, fun k hk => ?_⟩
            have hkz : k * z ≤ len * z := Nat.mul_le_mul_right _ hk
            refine ⟨C.extract (m.base + off) (m.base + off + k * z), fun d => ?_, ?_⟩
            · simp only [Builtin.firstCells]
              exact loadCells_run (w := { w with drawn := d }) g3 (by omega)
            · rw [Array.toList_extract, List.extract_eq_take_drop, show m.base + off + k * z - (m.base + off) = k * z by omega, List.take_take, Nat.min_eq_left hkz]
              have := (g5.drop off).take (k * z)
              rw [List.drop_take, List.drop_drop, List.take_take, Nat.min_eq_left (by omega)] at this
              exact this
          · cases hr
        | sliceE => exact absurd rfl hl
      · cases hs
  · rename_i s
    split at hs
    · rename_i hz
      subst hz
      simp only [Option.some.injEq, Prod.mk.injEq] at hs
      obtain ⟨rfl, rfl⟩ := hs
      cases hx
      refine ⟨by simp [bytesOf], fun _ => by simp [Builtin.lenOf, size_mk], fun k hk => ?_⟩
      refine ⟨((ByteArray.mk s.toArray).extract 0 k).data.map fun b => Value.int .u8 b.toNat, fun _ => rfl, ?_⟩
      have e : (((ByteArray.mk s.toArray).extract 0 k).data.map fun b => Value.int .u8 b.toNat).toList = (s.take k).map fun b => Value.int .u8 b.toNat := by
        simp [ByteArray.data_extract, List.extract_eq_take_drop]
      rw [e, Nat.mul_one]
      have : (bytesOf s).take k = bytesOf (s.take k) := by simp [bytesOf, List.map_take]
      rw [this]
      exact bytesOf_VRs _
    · cases hs
  · cases hs

theorem cut_ge (need old : Nat) (e : TypeId) (t : Nat) : need ≤ (Question.appendCap need old e).cut t := by
  simp only [Question.cut]
  exact Nat.le_add_right _ _

section app
variable {ts : Array TypeId} {ty st e xt : TypeId} {d : TypeDesc} {base : Option Addr} {sLen sCap sz n by_ : Nat} {xv : Value}

theorem app_room (h0 : ts[0]? = some st) (hu : P.underlying st = some (.slice e)) (hs : szT P e = some sz) (h1 : ts[1]? = some xt) (hd : P.underlying xt = some d) (hz : ∀ k, d ≠ .int k)
    (hn : (Builtin.lenOf xv).run P w = .ok n w) (hle : sLen + n ≤ sCap) {X : Array Value} (hX : (Builtin.firstCells sz n xv).run P w = .ok X w) {w' : World}
    (hst : (match base with | some a => storeCells (a.add (sLen * sz)) X.toList | none => pure ()).run P w = .ok () w') :
    (Builtin.append_ ts ty #[.slice base sLen sCap, xv]).run P w = .ok (.slice base (sLen + n) sCap) w' := by
  have hdd : ∀ {α : Type} (a b : α), (match d with | TypeDesc.int _ => a | _ => b) = b := by intro α a b; cases d <;> first | rfl | exact absurd rfl (hz _)
  simp only [Builtin.append_, h0, Sem.run_bind, und_run st hu, Result.andThen_ok, size_run e hs, h1, und_run xt hd, Sem.run_pure]
  simp [hn, hdd, und_run st hu, size_run e hs, und_run xt hd, hle, hX]
  cases base with
  | none => simp at hst ⊢; exact hst
  | some a => simp at hst ⊢; rw [hst]; rfl

theorem app_grow (h0 : ts[0]? = some st) (hu : P.underlying st = some (.slice e)) (hs : szT P e = some sz) (hb : byT P e = some by_) (h1 : ts[1]? = some xt) (hd : P.underlying xt = some d) (hz : ∀ k, d ≠ .int k)
    (hn : (Builtin.lenOf xv).run P w = .ok n w) (hle : sCap < sLen + n) (hfit : 2 * (sLen + n) * by_ ≤ 2 ^ 48) (hb0 : 0 < by_) {O X : Array Value} {Z : Value}
    (hO : ∀ d, (Builtin.firstCells sz sLen (.slice base sLen sCap)).run P { w with drawn := d } = .ok O { w with drawn := d })
    (hX : ∀ d, (Builtin.firstCells sz n xv).run P { w with drawn := d } = .ok X { w with drawn := d }) (hZ : ∀ d, (zeroValue e).run P { w with drawn := d } = .ok Z { w with drawn := d }) :
    ∃ nc, sLen + n ≤ nc ∧ (Builtin.append_ ts ty #[.slice base sLen sCap, xv]).run P w = .ok (.slice (some ⟨w.heap.size, 0, none⟩) (sLen + n) nc)
      { w with heap := w.heap.push (.cells (O ++ X ++ Builtin.zeroCells Z.cells (nc - (sLen + n))) e), drawn := w.drawn + 1 } := by
  have hdd : ∀ {α : Type} (a b : α), (match d with | TypeDesc.int _ => a | _ => b) = b := by intro α a b; cases d <;> first | rfl | exact absurd rfl (hz _)
  obtain ⟨ti, hti⟩ : ∃ i, P.info? e = some i ∧ i.bytes = by_ := by
    simp only [byT, Option.map_eq_some_iff] at hb
    exact hb
  have htr : ∀ w : World, (typeInfo e).run P w = .ok ti w := fun w => by simp [typeInfo, hti.1]
  have hns : ¬ (281474976710656 < Builtin.nextslicecap (sLen + n) sCap * by_) := by
    have := nextslicecap_le hle
    have := Nat.mul_le_mul_right by_ this
    omega
  refine ⟨_, cut_ge (sLen + n) sCap e (w.tape w.drawn (Question.appendCap (sLen + n) sCap e)), ?_⟩
  simp only [Builtin.append_, h0, Sem.run_bind, und_run st hu, Result.andThen_ok, size_run e hs, h1, und_run xt hd, Sem.run_pure]
  have hX' : (Builtin.firstCells sz n xv).run P w.drew = .ok X w.drew := hX (w.drawn + 1)
  have hO' : (Builtin.firstCells sz sLen (.slice base sLen sCap)).run P w.drew = .ok O w.drew := hO (w.drawn + 1)
  have hZ' : (zeroValue e).run P w.drew = .ok Z w.drew := hZ (w.drawn + 1)
  have hb1 : by_ ≠ 0 := by omega
  simp [hn, hdd, und_run st hu, size_run e hs, und_run xt hd, Nat.not_le.2 hle, htr, hti.2, hns, Question.forced, hb1]
  simp [htr, hX', hO', hZ', newRow]
  rfl

theorem app0_room (h0 : ts[0]? = some st) (hu : P.underlying st = some (.slice e)) (hs : szT P e = some sz) (h1 : ts[1]? = some xt) {k k2 : IntKind} (hd : P.underlying xt = some (.int k))
    {q : Int} (hq : 0 ≤ q ∧ q < 2 ^ 48) (hb : byT P e = some by_) (hq2 : by_ * q.toNat ≤ 2 ^ 48) (hle : sLen + q.toNat ≤ sCap) {X : Array Value} (hX : (if q.toNat * sz = 0 then pure #[] else (fun a => Builtin.zeroCells a.cells q.toNat) <$> zeroValue e : Sem (Array Value)).run P w = .ok X w) {w' : World}
    (hst : (match base with | some a => storeCells (a.add (sLen * sz)) X.toList | none => pure ()).run P w = .ok () w') :
    (Builtin.append_ ts ty #[.slice base sLen sCap, .int k2 q]).run P w = .ok (.slice base (sLen + q.toNat) sCap) w' := by
  obtain ⟨ti, hti⟩ : ∃ i, P.info? e = some i ∧ i.bytes = by_ := by
    simp only [byT, Option.map_eq_some_iff] at hb
    exact hb
  have htr : ∀ w : World, (typeInfo e).run P w = .ok ti w := fun w => by simp [typeInfo, hti.1]
  have hwl : IntKind.i64.wrap q = q := by
    unfold IntKind.wrap; simp [IntKind.bits, IntKind.signed]; split <;> omega
  have h3 : ¬ (281474976710656 < q * (by_ : Int)) := by
    have : (by_ : Int) * (q.toNat : Int) ≤ 2 ^ 48 := by exact_mod_cast hq2
    rw [Int.toNat_of_nonneg hq.1] at this
    rw [Int.mul_comm]; omega
  have h4 : ¬ q < 0 := by omega
  simp only [Builtin.append_, h0, Sem.run_bind, und_run st hu, Result.andThen_ok, size_run e hs, h1, und_run xt hd, Sem.run_pure]
  simp [und_run st hu, size_run e hs, und_run xt hd, asInt_good, hwl, h4, htr, hti.2, h3, hle]
  by_cases hq0 : q.toNat * sz = 0
  · rw [if_pos hq0] at hX
    simp only [Sem.run_pure, Result.ok.injEq, and_true] at hX
    subst hX
    rw [if_pos hq0]
    cases base with
    | none => simp at hst ⊢; exact hst
    | some a => simp at hst ⊢; rw [hst]; rfl
  · rw [if_neg hq0] at hX
    simp only [Sem.run_map] at hX
    rw [if_neg hq0, hX]
    cases base with
    | none => simp at hst ⊢; exact hst
    | some a => simp at hst ⊢; rw [hst]; rfl

theorem app0_grow (h0 : ts[0]? = some st) (hu : P.underlying st = some (.slice e)) (hs : szT P e = some sz) (hb : byT P e = some by_) (h1 : ts[1]? = some xt) {k k2 : IntKind} (hd : P.underlying xt = some (.int k))
    {q : Int} (hq : 0 ≤ q ∧ q < 2 ^ 48) (hle : sCap < sLen + q.toNat) (hfit : 2 * (sLen + q.toNat) * by_ ≤ 2 ^ 48) (hb0 : 0 < by_) {O X : Array Value} {Z : Value}
    (hO : ∀ d, (Builtin.firstCells sz sLen (.slice base sLen sCap)).run P { w with drawn := d } = .ok O { w with drawn := d })
    (hX : ∀ d, (if q.toNat * sz = 0 then pure #[] else (fun a => Builtin.zeroCells a.cells q.toNat) <$> zeroValue e : Sem (Array Value)).run P { w with drawn := d } = .ok X { w with drawn := d })
    (hZ : ∀ d, (zeroValue e).run P { w with drawn := d } = .ok Z { w with drawn := d }) :
    ∃ nc, sLen + q.toNat ≤ nc ∧ (Builtin.append_ ts ty #[.slice base sLen sCap, .int k2 q]).run P w = .ok (.slice (some ⟨w.heap.size, 0, none⟩) (sLen + q.toNat) nc)
      { w with heap := w.heap.push (.cells (O ++ X ++ Builtin.zeroCells Z.cells (nc - (sLen + q.toNat))) e), drawn := w.drawn + 1 } := by
  obtain ⟨ti, hti⟩ : ∃ i, P.info? e = some i ∧ i.bytes = by_ := by
    simp only [byT, Option.map_eq_some_iff] at hb
    exact hb
  have htr : ∀ w : World, (typeInfo e).run P w = .ok ti w := fun w => by simp [typeInfo, hti.1]
  have hwl : IntKind.i64.wrap q = q := by
    unfold IntKind.wrap; simp [IntKind.bits, IntKind.signed]; split <;> omega
  have hns : ¬ (281474976710656 < Builtin.nextslicecap (sLen + q.toNat) sCap * by_) := by
    have := nextslicecap_le hle
    have := Nat.mul_le_mul_right by_ this
    omega
  have hqb : by_ * q.toNat ≤ 2 ^ 48 := by
    have h6 : by_ * q.toNat ≤ 2 * (sLen + q.toNat) * by_ := by
      rw [Nat.mul_comm by_]
      exact Nat.mul_le_mul_right _ (by omega)
    omega
  have h3 : ¬ (281474976710656 < q * (by_ : Int)) := by
    have : (by_ : Int) * (q.toNat : Int) ≤ 2 ^ 48 := by exact_mod_cast hqb
    rw [Int.toNat_of_nonneg hq.1] at this
    rw [Int.mul_comm]; omega
  have h4 : ¬ q < 0 := by omega
  have h5 : ¬ (9223372036854775807 < (sLen : Int) + max q 0) := by
    have : 2 * (sLen + q.toNat) * 1 ≤ 2 * (sLen + q.toNat) * by_ := Nat.mul_le_mul_left _ hb0
    omega
  refine ⟨_, cut_ge (sLen + q.toNat) sCap e (w.tape w.drawn (Question.appendCap (sLen + q.toNat) sCap e)), ?_⟩
  have hX' : (if q.toNat * sz = 0 then pure #[] else (fun a => Builtin.zeroCells a.cells q.toNat) <$> zeroValue e : Sem (Array Value)).run P w.drew = .ok X w.drew := hX (w.drawn + 1)
  have hO' : (Builtin.firstCells sz sLen (.slice base sLen sCap)).run P w.drew = .ok O w.drew := hO (w.drawn + 1)
  have hZ' : (zeroValue e).run P w.drew = .ok Z w.drew := hZ (w.drawn + 1)
  simp only [Builtin.append_, h0, Sem.run_bind, und_run st hu, Result.andThen_ok, size_run e hs, h1, und_run xt hd, Sem.run_pure]
  simp [und_run st hu, size_run e hs, und_run xt hd, asInt_good, hwl, h4, htr, hti.2, h3, Nat.not_le.2 hle, h5, hns, Question.forced]
  by_cases hq0 : q.toNat * sz = 0
  · rw [if_pos hq0] at hX'
    simp only [Sem.run_pure, Result.ok.injEq, and_true] at hX'
    subst hX'
    simp [htr, hq0, hO', hZ', newRow]
    rfl
  · rw [if_neg hq0] at hX'
    simp only [Sem.run_map, hZ', Result.andThen_ok, Result.ok.injEq, and_true] at hX'
    subst hX'
    simp [htr, hq0, hO', hZ', newRow]
    rfl
end app

/-- What an append of n elements X comes to. -/
structure AppFacts (P : Program) (w : World) (ts : Array TypeId) (ty e : TypeId) (sz n : Nat) (xv : Value) (X : Array Value) : Prop where
  room : ∀ (base : Option Addr) (sLen sCap : Nat) (w' : World), sLen + n ≤ sCap → (match base with | some a => storeCells (a.add (sLen * sz)) X.toList | none => pure ()).run P w = .ok () w' →
    (Builtin.append_ ts ty #[.slice base sLen sCap, xv]).run P w = .ok (.slice base (sLen + n) sCap) w'
  grow : ∀ (base : Option Addr) (sLen sCap by_ : Nat) (O : Array Value), sCap < sLen + n → 2 * (sLen + n) * by_ ≤ 2 ^ 48 → 0 < by_ → byT P e = some by_ →
    (∀ d, (Builtin.firstCells sz sLen (.slice base sLen sCap)).run P { w with drawn := d } = .ok O { w with drawn := d }) →
    ∃ nc R, sLen + n ≤ nc ∧ (O ++ X ++ R).size = O.size + X.size + (nc - (sLen + n)) * sz ∧ (Builtin.append_ ts ty #[.slice base sLen sCap, xv]).run P w = .ok (.slice (some ⟨w.heap.size, 0, none⟩) (sLen + n) nc)
      { w with heap := w.heap.push (.cells (O ++ X ++ R) e), drawn := w.drawn + 1 }

theorem row_get {i : Nat} {b : ABlk} {cs : List AVal} {e : TypeId} {o : Bool} (hg : h.get i = some b) (hb : b.obj = .row cs e o) (hd : b.mode ≠ .dead) : h.row i = some cs := by
  obtain ⟨ob, md, par⟩ := b
  simp only at hb hd
  subst hb
  simp [AH.row, hg, hd]

theorem aAppendTo_good (r : Rel μ h w) {ts : Array TypeId} {ty e : TypeId} {sz n : Nat} {xv : Value} {X : Array Value} {xs : List AVal} (hz : 0 < sz) (hX : VRs μ xs X.toList) (hXl : xs.length = n * sz)
    (F : AppFacts P w ts ty e sz n xv X) {s v : AVal} {h' : AH} (ha : aAppendTo P e sz s n xs h = some (v, h')) {sv : Value} (hs : VR μ s sv) :
    GoodH P μ h w (Builtin.append_ ts ty #[sv, xv]) v h' := by
  have hXs : X.size = n * sz := by have := hX.length; simp at this; omega
  unfold aAppendTo at ha
  split at ha
  · rename_i hn
    subst hn
    rw [Nat.zero_mul] at hXs
    have hx0 : X.toList = [] := by
      have : X.toList.length = 0 := by simp [hXs]
      exact List.eq_nil_of_length_eq_zero this
    have this : ∀ (base : Option Addr) (l c : Nat), l ≤ c → (Builtin.append_ ts ty #[.slice base l c, xv]).run P w = .ok (.slice base l c) w := fun base l c hlc =>
      F.room base l c w (by omega) (by rw [hx0]; cases base <;> simp [storeCells])
    split at ha
    · simp only [Option.some.injEq, Prod.mk.injEq] at ha
      obtain ⟨rfl, rfl⟩ := ha
      have hs2 := hs
      cases hs with
      | slice0 => exact ⟨_, w, μ, this _ _ _ (Nat.le_refl _), hs2, r, Ext.refl _ _ _⟩
      | slice hm hz2 hle hc hcap hr => exact ⟨_, w, μ, this _ _ _ (by rcases hcap with rfl | ⟨_, _, h3⟩ <;> omega), hs2, r, Ext.refl _ _ _⟩
      | sliceE => exact ⟨_, w, μ, this _ _ _ (Nat.le_refl _), hs2, r, Ext.refl _ _ _⟩
    · cases ha
  · rename_i hn
    simp only [Option.bind_eq_some_iff] at ha
    obtain ⟨by_, hby, ha⟩ := ha
    have fresh : ∀ {base : Option Addr} {sLen sCap : Nat} {O : Array Value} {h1 : AH} {old : List AVal} {par : List Nat}, Rel μ h1 w → Ext μ h w μ h1 w → VRs μ old O.toList → old.length = sLen * sz →
        sCap < sLen + n → 2 * (sLen + n) * by_ ≤ 2 ^ 48 → 0 < by_ → (∀ p ∈ par, ∃ m', μ p = some m') →
        (∀ d, (Builtin.firstCells sz sLen (.slice base sLen sCap)).run P { w with drawn := d } = .ok O { w with drawn := d }) →
        GoodH P μ h w (Builtin.append_ ts ty #[.slice base sLen sCap, xv]) (.slice (some (h1.n, 0, sz)) (sLen + n) (sLen + n)) (h1.push ⟨.row (old ++ xs) e true, .rw, par⟩) := by
      intro base sLen sCap O h1 old par r1 e1 hO hol hlt hfit hb0 hpar hrun
      obtain ⟨nc, R, hnc, hsz, hrun⟩ := F.grow base sLen sCap by_ O hlt hfit hb0 hby hrun
      have hOs : O.size = sLen * sz := by have := hO.length; simp at this; omega
      have hcl : (old ++ xs).length = (sLen + n) * sz := by simp [hol, hXl, Nat.add_mul]
      have hsz2 : (O ++ X ++ R).size = nc * sz := by
        rw [hsz, hOs, hXs, ← Nat.add_mul, ← Nat.add_mul]; congr 1; omega
      have hmul : (sLen + n) * sz ≤ nc * sz := Nat.mul_le_mul_right _ hnc
      obtain ⟨hrel, hext⟩ := newRow_good r1 (cs := old ++ xs) (e := e) (opn := true) (par := par) (C := O ++ X ++ R) (fr := (0, 0))
        (by
          have : (O ++ X ++ R).toList.take (old ++ xs).length = O.toList ++ X.toList := by
            rw [hcl]
            simp only [Array.toList_append]
            rw [List.take_append_of_le_length (by simp [hOs, hXs, Nat.add_mul]), List.take_of_length_le (by simp [hOs, hXs, Nat.add_mul])]
          rw [this]
          exact hO.append hX) (by omega) (by simp) hpar (by simp) (w.drawn + 1)
      refine ⟨_, _, _, hrun, ?_, hrel, e1.trans hext⟩
      have := VR.slice (μ := muNew μ h1.n ⟨w.heap.size, 0, (old ++ xs).length, (O ++ X ++ R).size, true⟩) (i := h1.n) (off := 0) (sz := sz) (len := sLen + n) (cap := sLen + n) (cap' := nc) (m := ⟨w.heap.size, 0, (old ++ xs).length, (O ++ X ++ R).size, true⟩)
        (by simp [muNew]) hz (Nat.le_refl _) (by show 0 + _ ≤ (old ++ xs).length; omega) (.inr ⟨rfl, by show 0 + _ = (old ++ xs).length; omega, hnc⟩) (by show 0 + nc * sz ≤ (O ++ X ++ R).size; omega)
      exact this
    split at ha
    · -- nil
      split at ha
      · rename_i hc
        simp only [AH.newRow, Option.map_eq_some_iff, Prod.exists, Prod.mk.injEq] at ha
        obtain ⟨j, h1, hnr, rfl, rfl⟩ := ha
        split at hnr
        · simp only [Option.some.injEq, Prod.mk.injEq] at hnr
          obtain ⟨rfl, rfl⟩ := hnr
          cases hs
          have := fresh (base := none) (sLen := 0) (sCap := 0) (O := #[]) (old := []) (par := []) r (Ext.refl _ _ _) .nil (by simp) (by omega) (by simpa using hc.2) hc.1 (by simp) (fun d => rfl)
          simpa using this
        · cases hnr
      · cases ha
    · rename_i i off z len cap
      split at ha
      · cases ha
      rename_i hzz
      obtain rfl : z = sz := by simpa using hzz
      split at ha
      · -- in place
        rename_i hle
        simp only [Option.map_eq_some_iff, Prod.mk.injEq] at ha
        obtain ⟨h1, hw, rfl, rfl⟩ := ha
        cases hs with
        | slice hm hz2 hl hc hcap hr =>
          rename_i cap' m
          obtain ⟨w', hrun, hrel, hext⟩ := write_good (P := P) r hw hm hX
          have hcc : cap ≤ cap' := by rcases hcap with rfl | ⟨_, _, h3⟩ <;> omega
          refine ⟨_, w', μ, F.room _ len cap' w' (by omega) ?_, .slice hm hz2 (by omega) hc hcap hr, hrel, hext⟩
          have : Addr.add ⟨m.cb, m.base + off, none⟩ (len * z) = ⟨m.cb, m.base + (off + len * z), none⟩ := by unfold Addr.add; split <;> simp_all [Nat.add_assoc]
          simp only [this]
          exact hrun
        | sliceE => omega
      · rename_i hnle
        split at ha
        · rename_i hfit
          split at ha
          · rename_i cs el opn md par hg
            split at ha
            · cases ha
            rename_i hd
            have hrow := row_get (h := h) hg rfl hd
            split at ha
            · -- somewhere else for sure
              rename_i hex
              simp only [AH.newRow, Option.map_eq_some_iff, Prod.exists, Prod.mk.injEq] at ha
              obtain ⟨j, h1, hnr, rfl, rfl⟩ := ha
              split at hnr
              · simp only [Option.some.injEq, Prod.mk.injEq] at hnr
                obtain ⟨rfl, rfl⟩ := hnr
                cases hs with
                | slice hm hz2 hl hc hcap hr =>
                  rename_i cap' m
                  obtain ⟨g1, g2, _, _, C, e2, fr, g3, g4, g5, _⟩ := r.lies i _ _ hm hg hd
                  have hcc : cap' = cap := by
                    rcases hcap with rfl | ⟨h3, h4, _⟩
                    · rfl
                    · rcases hex with h5 | ⟨h5, _⟩
                      · omega
                      · rw [← g2, h3] at h5; cases h5
                  have hlz : len * z ≤ cap * z := Nat.mul_le_mul_right _ hl
                  refine fresh (O := C.extract (m.base + off) (m.base + off + len * z)) r (Ext.refl _ _ _) ?_ (by simp; omega) (by omega) hfit.2 hfit.1 (by simp) (fun d => ?_)
                  · rw [Array.toList_extract, List.extract_eq_take_drop, show m.base + off + len * z - (m.base + off) = len * z by omega]
                    have := (g5.drop off).take (len * z)
                    rw [List.drop_take, List.drop_drop, List.take_take, Nat.min_eq_left (by omega)] at this
                    exact this
                  · simp only [Builtin.firstCells]
                    exact loadCells_run (w := { w with drawn := d }) g3 (by omega)
                | sliceE _ _ _ a0 hm0 =>
                  have := fresh (base := some a0) (sLen := 0) (sCap := 0) (O := #[]) (old := (cs.drop off).take (0 * z)) (par := []) r (Ext.refl _ _ _) (by simp; exact .nil) (by simp) (by omega) (by simpa using hfit.2) hfit.1 (by simp)
                    (fun d => by simp [Builtin.firstCells, loadCells, loadCellsFrom])
                  exact this
              · cases hnr
            · split at ha
              · rename_i hex hrw
                obtain ⟨hrw, hel, htail, hcell⟩ := hrw
                subst hel
                have hpm : ∀ m, μ i = some m → ∀ p ∈ par, ∃ m', μ p = some m' := fun m hm p hp => by
                  obtain ⟨m', hm', _⟩ := r.par i m _ hm hg p hp
                  exact ⟨m', hm'⟩
                split at ha
                · -- all of the tail
                  rename_i hlc
                  subst hlc
                  simp only [Option.some.injEq, Prod.mk.injEq] at ha
                  obtain ⟨rfl, rfl⟩ := ha
                  have low : ∀ m, μ i = some m → Lower μ h (h.set i ⟨.row cs el opn, .sup, par⟩) := fun m hm => ⟨rfl, fun j => by
                    rw [AH.get_set]
                    by_cases hji : j = i
                    · subst hji; rw [if_pos rfl]; exact .inr ⟨m, _, .sup, hm, hg, rfl, by rw [hrw]; simp [AMode.below]⟩
                    · rw [if_neg hji]; exact .inl rfl⟩
                  cases hs with
                  | slice hm hz2 hl hc hcap hr =>
                    rename_i cap' m
                    obtain ⟨g1, g2, _, _, C, e2, fr, g3, g4, g5, _⟩ := r.lies i _ _ hm hg hd
                    have hcc : len ≤ cap' := by rcases hcap with rfl | ⟨_, _, h3⟩ <;> omega
                    have lw := low m hm
                    by_cases hin : len + n ≤ cap'
                    · have hmul : (len + n) * z ≤ cap' * z := Nat.mul_le_mul_right _ hin
                      rw [Nat.add_mul] at hmul
                      obtain ⟨w', hrun, hrel, hext⟩ := grow_good (P := P) (off := off) (k := len * z) (par := i :: par) r lw hm hg rfl hrw (by omega)
                        (by rw [AH.get_set, if_pos rfl]; rintro b1 h1; simp only [Option.some.injEq] at h1; subst h1; simp)
                        (by
                          intro p hp
                          simp only [List.mem_cons] at hp
                          exact ⟨hp, htail⟩)
                        (by rintro j (rfl | hj) <;> simp_all)
                        (by rw [AH.get_set, if_pos rfl]; rintro b1 h1; simp only [Option.some.injEq] at h1; subst h1; exact .inr ⟨htail, rfl⟩)
                        (fun hne => absurd htail hne) hX hcell (by rw [hXl]; omega)
                      have hadd : Addr.add ⟨m.cb, m.base + off, none⟩ (len * z) = ⟨m.cb, m.base + (off + len * z), none⟩ := by unfold Addr.add; split <;> simp_all [Nat.add_assoc]
                      refine ⟨_, w', _, F.room _ len cap' w' hin (by simp only [hadd]; exact hrun), ?_, hrel, hext⟩
                      have := VR.slice (μ := muNew μ h.n ⟨m.cb, m.base + off, len * z + xs.length, m.room - off, true⟩) (i := h.n) (off := 0) (sz := z) (len := len + n) (cap := len + n) (cap' := cap') (m := ⟨m.cb, m.base + off, len * z + xs.length, m.room - off, true⟩)
                        (by simp [muNew]) hz2 (Nat.le_refl _) (by show 0 + _ ≤ len * z + xs.length; rw [hXl, Nat.add_mul]; omega) (.inr ⟨rfl, by show 0 + _ = len * z + xs.length; rw [hXl, Nat.add_mul]; omega, hin⟩) (by show 0 + cap' * z ≤ m.room - off; omega)
                      exact this
                    · exact fresh (O := C.extract (m.base + off) (m.base + off + len * z)) (h1 := h.set i ⟨.row cs el opn, .sup, par⟩) (lw.rel r) lw.ext
                        (by
                          rw [Array.toList_extract, List.extract_eq_take_drop, show m.base + off + len * z - (m.base + off) = len * z by omega]
                          have := (g5.drop off).take (len * z)
                          rw [List.drop_take, List.drop_drop, List.take_take, Nat.min_eq_left (by omega)] at this
                          exact this) (by simp; omega) (by omega) hfit.2 hfit.1
                        (by
                          intro p hp
                          simp only [List.mem_cons] at hp
                          rcases hp with rfl | hp
                          · exact ⟨m, hm⟩
                          · exact hpm m hm p hp)
                        (fun d => by
                          simp only [Builtin.firstCells]
                          exact loadCells_run (w := { w with drawn := d }) g3 (by omega))
                  | sliceE _ _ _ a0 hm =>
                    rcases hm with h0 | ⟨m, hm⟩
                    · omega
                    · have lw := low m hm
                      exact fresh (base := some a0) (sLen := 0) (sCap := 0) (O := #[]) (old := (cs.drop off).take (0 * z)) (h1 := h.set i ⟨.row cs el opn, .sup, par⟩) (lw.rel r) lw.ext (by simp; exact .nil) (by simp) (by omega) (by simpa using hfit.2) hfit.1
                        (by
                          intro p hp
                          simp only [List.mem_cons] at hp
                          rcases hp with rfl | hp
                          · exact ⟨m, hm⟩
                          · exact hpm m hm p hp)
                        (fun d => by simp [Builtin.firstCells, loadCells, loadCellsFrom])
                · rename_i hlc
                  simp only [Option.some.injEq, Prod.mk.injEq] at ha
                  obtain ⟨rfl, rfl⟩ := ha
                  have get1 : ∀ j, ((h.kill par).kill1 i).get j = if j = i ∨ j ∈ par then (h.get j).map fun b => { b with mode := .dead } else h.get j := fun j => by
                    rw [get_kill1]
                    by_cases hji : j = i
                    · subst hji
                      rw [if_pos rfl, if_pos (.inl rfl), get_kill]
                      split
                      · cases h.get j <;> simp
                      · rfl
                    · rw [if_neg hji, get_kill]
                      by_cases hp : j ∈ par
                      · rw [if_pos hp, if_pos (.inr hp)]
                      · rw [if_neg hp, if_neg (by simp [hji, hp])]
                  cases hs with
                  | slice hm hz2 hl hc hcap hr =>
                    rename_i cap' m
                    obtain ⟨g1, g2, _, _, C, e2, fr, g3, g4, g5, _⟩ := r.lies i _ _ hm hg hd
                    have hlz : len * z ≤ cap * z := Nat.mul_le_mul_right _ hl
                    have lw : Lower μ h ((h.kill par).kill1 i) := ⟨by simp, fun j => by
                      rw [get1]
                      by_cases hj : j = i ∨ j ∈ par
                      · rw [if_pos hj]
                        have : ∃ m', μ j = some m' := by
                          rcases hj with rfl | hj
                          · exact ⟨m, hm⟩
                          · exact hpm m hm j hj
                        obtain ⟨m', hm'⟩ := this
                        obtain ⟨b, hb⟩ := r.has j m' hm'
                        exact .inr ⟨m', b, .dead, hm', hb, by rw [hb]; rfl, by simp [AMode.below]⟩
                      · rw [if_neg hj]; exact .inl rfl⟩
                    have hdead : ∀ j, j = i ∨ j ∈ par → ∀ b1, ((h.kill par).kill1 i).get j = some b1 → b1.mode = .dead := fun j hj b1 hb1 => by
                      rw [get1, if_pos hj] at hb1
                      simp only [Option.map_eq_some_iff] at hb1
                      obtain ⟨b, _, rfl⟩ := hb1
                      rfl
                    by_cases hin : len + n ≤ cap'
                    · have hmul : (len + n) * z ≤ cap' * z := Nat.mul_le_mul_right _ hin
                      rw [Nat.add_mul] at hmul
                      obtain ⟨w', hrun, hrel, hext⟩ := grow_good (P := P) (off := off) (k := len * z) (par := []) r lw hm hg rfl hrw (by omega)
                        (fun b1 h1 => by rw [hdead i (.inl rfl) b1 h1]; simp) (by simp) (fun j hj => .inr (hdead j hj)) (fun b1 h1 => .inl (hdead i (.inl rfl) b1 h1))
                        (fun _ j hj => hdead j (.inr hj)) hX hcell (by rw [hXl]; omega)
                      have hadd : Addr.add ⟨m.cb, m.base + off, none⟩ (len * z) = ⟨m.cb, m.base + (off + len * z), none⟩ := by unfold Addr.add; split <;> simp_all [Nat.add_assoc]
                      rw [show h.n = ((h.kill par).kill1 i).n by simp] at hrel hext ⊢
                      refine ⟨_, w', _, F.room _ len cap' w' hin (by simp only [hadd]; exact hrun), ?_, hrel, hext⟩
                      have := VR.slice (μ := muNew μ ((h.kill par).kill1 i).n ⟨m.cb, m.base + off, len * z + xs.length, m.room - off, true⟩) (i := ((h.kill par).kill1 i).n) (off := 0) (sz := z) (len := len + n) (cap := len + n) (cap' := cap') (m := ⟨m.cb, m.base + off, len * z + xs.length, m.room - off, true⟩)
                        (by simp [muNew]) hz2 (Nat.le_refl _) (by show 0 + _ ≤ len * z + xs.length; rw [hXl, Nat.add_mul]; omega) (.inr ⟨rfl, by show 0 + _ = len * z + xs.length; rw [hXl, Nat.add_mul]; omega, hin⟩) (by show 0 + cap' * z ≤ m.room - off; omega)
                      exact this
                    · rw [show h.n = ((h.kill par).kill1 i).n by simp]
                      exact fresh (O := C.extract (m.base + off) (m.base + off + len * z)) (h1 := (h.kill par).kill1 i) (lw.rel r) lw.ext
                        (by
                          rw [Array.toList_extract, List.extract_eq_take_drop, show m.base + off + len * z - (m.base + off) = len * z by omega]
                          have := (g5.drop off).take (len * z)
                          rw [List.drop_take, List.drop_drop, List.take_take, Nat.min_eq_left (by omega)] at this
                          exact this) (by simp; omega) (by omega) hfit.2 hfit.1 (by simp)
                        (fun d => by
                          simp only [Builtin.firstCells]
                          exact loadCells_run (w := { w with drawn := d }) g3 (by omega))
                  | sliceE => exact absurd rfl hlc
              · cases ha
          · cases ha
        · cases ha
    · cases ha

theorem aAppend_good (r : Rel μ h w) {ts : Array TypeId} {ty : TypeId} {s x v : AVal} {h' : AH} (ha : aAppend P ts.toList s x h = some (v, h')) {sv xv : Value} (hs : VR μ s sv) (hx : VR μ x xv) :
    GoodH P μ h w (Builtin.append_ ts ty #[sv, xv]) v h' := by
  unfold aAppend at ha
  split at ha
  · rename_i st xt rest hts
    have h0 : ts[0]? = some st := by
      have : ts.toList[0]? = some st := by rw [hts]; rfl
      simpa using this
    have h1 : ts[1]? = some xt := by
      have : ts.toList[1]? = some xt := by rw [hts]; rfl
      simpa using this
    split at ha
    · rename_i e zs hu hzs
      simp only [isIntT, Option.map_eq_some_iff] at hzs
      obtain ⟨d, hd, hzs⟩ := hzs
      simp only [Option.bind_eq_some_iff] at ha
      obtain ⟨sz, hsz, z, hzc, by_, hby, ha⟩ := ha
      split at ha
      · cases ha
      rename_i hsz0
      simp only [not_or, ne_eq, Decidable.not_not] at hsz0
      obtain ⟨hsz0, hzlen⟩ := hsz0
      obtain ⟨Z, hZ0, hZr⟩ := zeroCells_good (P := P) (μ := μ) (w := w) hzc
      have hzl := hZr.length
      simp at hzl
      have hZd : ∀ d, (zeroValue e).run P { w with drawn := d } = .ok Z { w with drawn := d } := fun d => by
        have e1 : (zeroValue e).run P w = .ok Z w := hZ0
        unfold zeroValue typeInfo at e1 ⊢
        cases hi : P.info? e with
        | none => simp [hi] at e1
        | some i =>
          cases hzz : i.zero with
          | none => simp [hi, hzz] at e1
          | some zv => simp [hi, hzz] at e1 ⊢; exact e1
      have hXd : ∀ (n d : Nat), (if n * sz = 0 then pure #[] else (fun a => Builtin.zeroCells a.cells n) <$> zeroValue e : Sem (Array Value)).run P { w with drawn := d } =
          .ok (if n * sz = 0 then #[] else Builtin.zeroCells Z.cells n) { w with drawn := d } := fun n d => by
        split
        · rfl
        · simp only [Sem.run_map, hZd d]; rfl
      split at ha
      · -- zeros
        rename_i hzt
        split at ha
        · rename_i k2 q
          split at ha
          · rename_i hc
            obtain ⟨hc1, hc2, hc3⟩ := hc
            cases hx
            have hdk : ∃ k, d = .int k := by
              cases d <;> simp_all
            obtain ⟨k, rfl⟩ := hdk
            have hXr : VRs μ (manyT q.toNat z) (if q.toNat * sz = 0 then #[] else Builtin.zeroCells Z.cells q.toNat).toList := by
              by_cases hq0 : q.toNat * sz = 0
              · rw [if_pos hq0]
                have : q.toNat = 0 := by
                  rcases Nat.mul_eq_zero.1 hq0 with h' | h'
                  · exact h'
                  · omega
                rw [this]
                exact .nil
              · rw [if_neg hq0]
                have := VRs.many hZr q.toNat default
                rw [hzl] at this
                simp only [Builtin.zeroCells, getBang]
                exact this
            have hml : (manyT q.toNat z).length = q.toNat * sz := by rw [manyT_length, hzlen]
            refine aAppendTo_good r (by omega) hXr hml ?_ ha hs
            refine ⟨fun base sLen sCap w' hle hst => app0_room h0 hu hsz h1 hd ⟨hc1, by omega⟩ hby hc3 hle (hXd _ w.drawn) hst, fun base sLen sCap by2 O hlt hfit2 hb0 hby2 hO => ?_⟩
            obtain ⟨nc, hnc, hrun⟩ := app0_grow (ty := ty) (k2 := k2) (base := base) h0 hu hsz hby2 h1 hd ⟨hc1, by omega⟩ hlt hfit2 hb0 hO (hXd _) hZd
            refine ⟨nc, _, hnc, ?_, hrun⟩
            simp [Builtin.zeroCells, ← hzl, hzlen, Nat.add_assoc]
          · cases ha
        · cases ha
      · rename_i hzt
        simp only [Option.bind_eq_some_iff, Prod.exists] at ha
        obtain ⟨n, xs, hsrc, ha⟩ := ha
        obtain ⟨hl, hln, hfc⟩ := aSource_good (P := P) r hsrc hx
        obtain ⟨X, hX, hXr⟩ := hfc n (Nat.le_refl _)
        rw [List.take_of_length_le (by omega)] at hXr
        have hdn : ∀ k, d ≠ .int k := by rintro k rfl; simp at hzs; exact hzt hzs
        refine aAppendTo_good r (by omega) hXr hl ?_ ha hs
        refine ⟨fun base sLen sCap w' hle hst => app_room h0 hu hsz h1 hd hdn (hln w.drawn) hle (hX w.drawn) hst, fun base sLen sCap by2 O hlt hfit2 hb0 hby2 hO => ?_⟩
        obtain ⟨nc, hnc, hrun⟩ := app_grow (ty := ty) (base := base) h0 hu hsz hby2 h1 hd hdn (hln w.drawn) hlt hfit2 hb0 hO hX hZd
        refine ⟨nc, _, hnc, ?_, hrun⟩
        simp [Builtin.zeroCells, ← hzl, hzlen, Nat.add_assoc]
    · cases ha
  · cases ha
end Go.Proofs.Ytfppdfmffdkogaa.AI
namespace Go.Proofs.Ytfppdfmffdkogaa.AI
open Go
set_option linter.unusedSimpArgs false

variable {P : Program} {μ : Mu} {h : AH} {w : World}

theorem aCopy_good (r : Rel μ h w) {ts : Array TypeId} {ty : TypeId} {d x v : AVal} {h' : AH} (ha : aCopy P ts.toList d x h = some (v, h')) {dv xv : Value} (hd : VR μ d dv) (hx : VR μ x xv) :
    GoodH P μ h w (Builtin.copy_ ts ty #[dv, xv]) v h' := by
  unfold aCopy at ha
  split at ha
  · rename_i dt rest hts
    have h0 : ts[0]? = some dt := by
      have : ts.toList[0]? = some dt := by rw [hts]; rfl
      simpa using this
    split at ha
    · rename_i e hu
      simp only [Option.bind_eq_some_iff] at ha
      obtain ⟨sz, hsz, ha⟩ := ha
      split at ha
      · cases ha
      rename_i hsz0
      simp only [Option.bind_eq_some_iff, Prod.exists] at ha
      obtain ⟨n, xs, hsrc, ha⟩ := ha
      obtain ⟨hl, hln, hfc⟩ := aSource_good (P := P) r hsrc hx
      have hrun : ∀ (base : Option Addr) (len cap : Nat) (C : Array Value) (w' : World), (Builtin.firstCells sz (Nat.min n len) xv).run P w = .ok C w → (match base with | some a => storeCells a C.toList | none => pure ()).run P w = .ok () w' →
          (Builtin.copy_ ts ty #[.slice base len cap, xv]).run P w = .ok (.int .i64 (Nat.min n len)) w' := by
        intro base len cap C w' hC hst
        have hn : (Builtin.lenOf xv).run P w = .ok n w := hln w.drawn
        simp only [Builtin.copy_, h0, Sem.run_bind, und_run dt hu, Result.andThen_ok, hn, size_run e hsz]
        simp only [show ∀ a b : Nat, Nat.min a b = min a b from fun _ _ => rfl] at hC ⊢
        simp [h0, und_run dt hu, hn, size_run e hsz, hC]
        cases base with
        | none => simp at hst ⊢; exact ⟨rfl, hst⟩
        | some a => simp at hst ⊢; rw [hst]; rfl
      split at ha
      · simp only [Option.some.injEq, Prod.mk.injEq] at ha
        obtain ⟨rfl, rfl⟩ := ha
        cases hd
        obtain ⟨C, hC, hCr⟩ := hfc 0 (by omega)
        refine ⟨_, w, μ, hrun none 0 0 C w (by simpa using hC w.drawn) rfl, ?_, r, Ext.refl _ _ _⟩
        simpa using VR.int .i64 0
      · rename_i i off z len cap
        split at ha
        · rename_i hk
          simp only [Option.some.injEq, Prod.mk.injEq] at ha
          obtain ⟨rfl, rfl⟩ := ha
          obtain ⟨C, hC, hCr⟩ := hfc 0 (by omega)
          have hc0 : C.toList = [] := by
            have := hCr.length
            simp at this
            simpa using this.symm
          have hm : Nat.min n len = 0 := hk
          have : ∀ (base : Addr) (c : Nat), GoodH P μ h w (Builtin.copy_ ts ty #[.slice (some base) len c, xv]) (.int .i64 0) h := fun base c => by
            refine ⟨_, w, μ, hrun (some base) len c C w (by rw [hm]; exact hC w.drawn) (by rw [hc0]; simp [storeCells]), ?_, r, Ext.refl _ _ _⟩
            rw [hm]; exact VR.int .i64 0
          cases hd with
          | slice => exact this _ _
          | sliceE => exact this _ _
        · rename_i hk
          split at ha
          · rename_i hz
            subst hz
            simp only [Option.map_eq_some_iff, Prod.mk.injEq] at ha
            obtain ⟨h1, hw, rfl, rfl⟩ := ha
            obtain ⟨C, hC, hCr⟩ := hfc (min n len) (Nat.min_le_left _ _)
            cases hd with
            | slice hm hz2 hle hc hcap hr =>
              obtain ⟨w', hst, hrel, hext⟩ := write_good (P := P) r hw hm hCr
              exact ⟨_, w', μ, hrun _ len _ C w' (hC w.drawn) hst, .int _ _, hrel, hext⟩
            | sliceE => simp at hk
          · cases ha
      · cases ha
    · cases ha
  · cases ha

inductive OVR (μ : Mu) : Option AVal → Option Value → Prop
  | none : OVR μ none none
  | some {a : AVal} {v : Value} (h : VR μ a v) : OVR μ (some a) (some v)

theorem aBound_good {x : Option AVal} {dflt most n : Nat} (hb : aBound x dflt most = some n) {xv : Option Value} (hx : OVR μ x xv) :
    (x = none ∧ xv = none ∧ n = dflt) ∨ (∃ k i, xv = some (.int k i) ∧ 0 ≤ i ∧ i ≤ most ∧ n = i.toNat) := by
  unfold aBound at hb
  cases hx with
  | none =>
    simp only [Option.some.injEq] at hb
    exact .inl ⟨rfl, rfl, hb.symm⟩
  | some hv =>
    rename_i a v
    cases a <;> simp only [reduceCtorEq] at hb
    rename_i k i
    split at hb
    · rename_i hc
      simp only [Option.some.injEq] at hb
      cases hv
      exact .inr ⟨k, i, rfl, hc.1, hc.2, hb.symm⟩
    · cases hb

theorem sliceBound_run {k : IntKind} {i : Int} {y : Nat} {c : BoundsCode} (h0 : 0 ≤ i) (h1 : i ≤ y) : (Instr.sliceBound (.int k i) y c).run P w = .ok i.toNat w := by
  simp [Instr.sliceBound, asIntOf_good, h0, h1]

/-- The bounds of a slice expression. -/
theorem bounds_good {isS : Bool} {len cap cap' : Nat} {lo hi mx : Option AVal} {lv hv mv : Option Value} {m b l : Nat}
    (hm : aBound mx cap cap = some m) (hb : aBound hi len m = some b) (hl : aBound lo 0 b = some l) (hlen : len ≤ cap) (hcap : cap ≤ cap')
    (vl : OVR μ lo lv) (vh : OVR μ hi hv)
    (vm : OVR μ mx mv) (hmx : (mx.isSome && hi.isNone) = false) :
    (Instr.sliceBounds isS len cap' lv hv mv).run P w = .ok (l, b, if mx.isSome then m else cap') w ∧ l ≤ b ∧ (b ≤ m ∨ (hi = none ∧ b = len)) ∧ (mx = none → m = cap) ∧ m ≤ cap := by
  rcases aBound_good hm vm with ⟨rfl, rfl, rfl⟩ | ⟨k, i, rfl, i0, i1, rfl⟩
  · rcases aBound_good hb vh with ⟨rfl, rfl, rfl⟩ | ⟨k2, i2, rfl, j0, j1, rfl⟩
    · rcases aBound_good hl vl with ⟨rfl, rfl, rfl⟩ | ⟨k3, i3, rfl, g0, g1, rfl⟩
      · refine ⟨by simp [Instr.sliceBounds], by omega, .inr ⟨rfl, rfl⟩, fun _ => rfl, Nat.le_refl _⟩
      · refine ⟨?_, by omega, .inr ⟨rfl, rfl⟩, fun _ => rfl, Nat.le_refl _⟩
        simp [Instr.sliceBounds, sliceBound_run g0 g1]
    · have hhi : hi ≠ none := by rintro rfl; cases vh
      rcases aBound_good hl vl with ⟨rfl, rfl, rfl⟩ | ⟨k3, i3, rfl, g0, g1, rfl⟩
      · refine ⟨?_, by omega, .inl (by omega), fun _ => rfl, Nat.le_refl _⟩
        simp [Instr.sliceBounds, sliceBound_run j0 (show i2 ≤ (cap' : Int) by omega)]
      · refine ⟨?_, by omega, .inl (by omega), fun _ => rfl, Nat.le_refl _⟩
        simp [Instr.sliceBounds, sliceBound_run j0 (show i2 ≤ (cap' : Int) by omega), sliceBound_run g0 g1]
  · have hmx2 : mx.isSome = true := by cases vm; rfl
    have hmn : mx ≠ none := by rintro rfl; simp at hmx2
    rcases aBound_good hb vh with ⟨rfl, rfl, rfl⟩ | ⟨k2, i2, rfl, j0, j1, rfl⟩
    · simp [hmx2] at hmx
    · rcases aBound_good hl vl with ⟨rfl, rfl, rfl⟩ | ⟨k3, i3, rfl, g0, g1, rfl⟩
      · refine ⟨?_, by omega, .inl (by omega), fun e => absurd e hmn, by omega⟩
        simp [Instr.sliceBounds, sliceBound_run i0 (show i ≤ (cap' : Int) by omega), sliceBound_run j0 (show i2 ≤ ((i.toNat : Nat) : Int) by omega), hmx2]
      · refine ⟨?_, by omega, .inl (by omega), fun e => absurd e hmn, by omega⟩
        simp [Instr.sliceBounds, sliceBound_run i0 (show i ≤ (cap' : Int) by omega), sliceBound_run j0 (show i2 ≤ ((i.toNat : Nat) : Int) by omega), sliceBound_run g0 g1, hmx2]

theorem aSlice_good (r : Rel μ h w) {t : TypeId} {x v : AVal} {lo hi mx : Option AVal} (hs : aSlice P t x lo hi mx h = some v) {xv : Value} (hx : VR μ x xv) {lv hv mv : Option Value}
    (vl : OVR μ lo lv) (vh : OVR μ hi hv)
    (vm : OVR μ mx mv) : Good P μ w (Instr.sliceAt t xv lv hv mv) v := by
  unfold aSlice at hs
  split at hs
  · rename_i s hu
    split at hs
    · cases hs
    · rename_i hmx
      simp only [Option.bind_eq_some_iff, Option.some.injEq] at hs
      obtain ⟨b, hb, l, hl, rfl⟩ := hs
      cases hx
      have hmx' : mx = none := by cases mx <;> simp_all
      subst hmx'
      cases vm
      obtain ⟨hrun, h1, h2, _, _⟩ := bounds_good (P := P) (w := w) (isS := false) (cap := s.length) (cap' := s.length) (mx := none) (mv := none) (m := s.length) rfl hb hl (Nat.le_refl _) (Nat.le_refl _) vl vh .none (by simp)
      refine ⟨_, ?_, .str _⟩
      simp only [Instr.sliceAt, Sem.run_bind, und_run t hu, Result.andThen_ok, Instr.slice, size_mk]
      simp only [Option.isSome_none, Bool.false_eq_true, if_false] at hrun ⊢
      simp [hrun]
      apply ByteArray.ext
      simp [ByteArray.data_extract, List.extract_eq_take_drop, List.drop_take]
  · rename_i e a len cap hu
    split at hs
    · cases hs
    · rename_i hmx
      simp only [Option.bind_eq_some_iff] at hs
      obtain ⟨sz, hsz, m, hm, b, hb, l, hl, hs⟩ := hs
      have hmx' : (mx.isSome && hi.isNone) = false := by revert hmx; cases mx <;> cases hi <;> simp
      split at hs
      · simp only [Option.some.injEq] at hs
        subst hs
        cases hx
        obtain ⟨hrun, h1, h2, h3, h4⟩ := bounds_good (P := P) (w := w) (isS := true) (cap' := 0) hm hb hl (Nat.le_refl _) (Nat.le_refl _) vl vh vm hmx'
        have hm0 : m = 0 := by omega
        have hb0 : b = 0 := by rcases h2 with h2 | ⟨_, h2⟩ <;> omega
        have hl0 : l = 0 := by omega
        subst hm0 hb0 hl0
        refine ⟨.slice none 0 0, ?_, .slice0⟩
        simp only [Instr.sliceAt, Sem.run_bind, und_run t hu, Result.andThen_ok, Instr.slice]
        simp [hrun, size_run e hsz]
      · rename_i i off z
        have gen : ∀ (a : Addr) (cap' : Nat), len ≤ cap → cap ≤ cap' → (Instr.sliceAt t (.slice (some a) len cap') lv hv mv).run P w =
            .ok (.slice (if (if mx.isSome then m else cap') = l then some a else some (a.add (l * sz))) (b - l) ((if mx.isSome then m else cap') - l)) w ∧ l ≤ b ∧ (b ≤ m ∨ (hi = none ∧ b = len)) ∧ (mx = none → m = cap) ∧ m ≤ cap := by
          intro a cap' g1 g2
          obtain ⟨hrun, h1⟩ := bounds_good (P := P) (w := w) (isS := true) (cap' := cap') hm hb hl g1 g2 vl vh vm hmx'
          refine ⟨?_, h1⟩
          simp only [Instr.sliceAt, Sem.run_bind, und_run t hu, Result.andThen_ok, Instr.slice]
          simp [hrun, size_run e hsz]
        split at hs
        · rename_i hc
          obtain ⟨rfl, rfl, rfl, rfl, rfl⟩ := hc
          simp only [Option.some.injEq] at hs
          subst hs
          cases hx with
          | slice hm2 hz2 => omega
          | sliceE _ _ _ a hma =>
            obtain ⟨hrun, h1, h2, h3, h4⟩ := gen a 0 (Nat.le_refl _) (Nat.le_refl _)
            have hl0 : l = 0 := by omega
            subst hl0
            exact ⟨_, hrun, by simpa using VR.sliceE (μ := μ) i off 0 a (.inl rfl)⟩
        · split at hs
          · rename_i hc0 hc
            obtain ⟨rfl, hz, hbm⟩ := hc
            simp only [Option.some.injEq] at hs
            subst hs
            cases hx with
            | slice hm2 hz2 hle hcc hcap hr =>
              rename_i cap' mm
              have hcc' : cap ≤ cap' := by rcases hcap with rfl | ⟨_, _, h3⟩ <;> omega
              obtain ⟨hrun, h1, h2, h3, h4⟩ := gen ⟨mm.cb, mm.base + off, none⟩ cap' hle hcc'
              refine ⟨_, hrun, ?_⟩
              have hml : m * z ≤ cap * z := Nat.mul_le_mul_right _ h4
              have hlm : l * z ≤ m * z := Nat.mul_le_mul_right _ (by omega)
              by_cases hq : (if mx.isSome then m else cap') = l
              · rw [if_pos hq, hq]
                have hml2 : m = l := by
                  cases mx with
                  | none => have := h3 rfl; simp at hq; omega
                  | some _ => simpa using hq
                subst hml2
                have : b = m := by omega
                subst this
                simpa using VR.sliceE (μ := μ) i (off + b * z) z ⟨mm.cb, mm.base + off, none⟩ (.inr ⟨mm, hm2⟩)
              · rw [if_neg hq]
                have hadd : Addr.add ⟨mm.cb, mm.base + off, none⟩ (l * z) = ⟨mm.cb, mm.base + (off + l * z), none⟩ := by unfold Addr.add; split <;> simp_all [Nat.add_assoc]
                rw [hadd]
                cases mx with
                | none =>
                  obtain rfl := h3 rfl
                  simp only [Option.isSome_none, Bool.false_eq_true, if_false] at hq ⊢
                  have hlc : l * z ≤ cap' * z := Nat.mul_le_mul_right _ (by omega)
                  refine .slice hm2 hz2 (by omega) (by rw [Nat.sub_mul]; omega) ?_ (by rw [Nat.sub_mul]; omega)
                  rcases hcap with rfl | ⟨g1, g2, g3⟩
                  · exact .inl rfl
                  · exact .inr ⟨g1, by rw [Nat.sub_mul]; omega, by omega⟩
                | some mxv =>
                  simp only [Option.isSome_some, if_true] at hq ⊢
                  have hmc : m * z ≤ cap' * z := Nat.mul_le_mul_right _ (by omega)
                  exact .slice hm2 hz2 (by omega) (by rw [Nat.sub_mul]; omega) (.inl rfl) (by rw [Nat.sub_mul]; omega)
            | sliceE _ _ _ a hma =>
              obtain ⟨hrun, h1, h2, h3, h4⟩ := gen a 0 (Nat.le_refl _) (Nat.le_refl _)
              have hm0 : m = 0 := by omega
              have hl0 : l = 0 := by omega
              have hb0 : b = 0 := by omega
              subst hm0 hl0 hb0
              refine ⟨_, hrun, ?_⟩
              simp
              exact VR.sliceE (μ := μ) i _ z a hma
          · cases hs
  · rename_i n e i off hu
    split at hs
    · cases hs
    · rename_i hmx
      simp only [Option.bind_eq_some_iff] at hs
      obtain ⟨sz, hsz, m, hm, b, hb, l, hl, cs, hrow, hs⟩ := hs
      have hmx' : (mx.isSome && hi.isNone) = false := by revert hmx; cases mx <;> cases hi <;> simp
      split at hs
      · rename_i hc
        obtain ⟨hz, hbm, hfit⟩ := hc
        simp only [Option.some.injEq] at hs
        subst hs
        cases hx with
        | ptr hm2 =>
          rename_i mm
          obtain ⟨g1, g2, _⟩ := r.row hm2 hrow
          obtain ⟨hrun, h1, h2, h3, h4⟩ := bounds_good (P := P) (w := w) (isS := false) (cap' := n) hm hb hl (Nat.le_refl _) (Nat.le_refl _) vl vh vm hmx'
          have hmm : (if mx.isSome then m else n) = m := by
            cases mx with
            | none => simpa using (h3 rfl).symm
            | some _ => rfl
          rw [hmm] at hrun
          refine ⟨.slice (some (if m = l then ⟨mm.cb, mm.base + off, none⟩ else Addr.add ⟨mm.cb, mm.base + off, none⟩ (l * sz))) (b - l) (m - l), ?_, ?_⟩
          · simp only [Instr.sliceAt, Sem.run_bind, und_run t hu, Result.andThen_ok, Instr.sureAddr]
            simp [hrun, size_run e hsz]
          · by_cases hq : m = l
            · rw [if_pos hq]
              have : b = m := by omega
              subst this hq
              simpa using VR.sliceE (μ := μ) i (off + b * sz) sz ⟨mm.cb, mm.base + off, none⟩ (.inr ⟨mm, hm2⟩)
            · rw [if_neg hq]
              have hadd : Addr.add ⟨mm.cb, mm.base + off, none⟩ (l * sz) = ⟨mm.cb, mm.base + (off + l * sz), none⟩ := by unfold Addr.add; split <;> simp_all [Nat.add_assoc]
              rw [hadd]
              have hmz : m * sz ≤ n * sz := Nat.mul_le_mul_right _ h4
              have hlz : l * sz ≤ m * sz := Nat.mul_le_mul_right _ (by omega)
              exact .slice hm2 hz (by omega) (by rw [Nat.sub_mul]; omega) (.inl rfl) (by rw [Nat.sub_mul]; omega)
      · cases hs
  · cases hs

theorem max2_good {a b v : AVal} (hv : aMax2 a b = some v) {x y : Value} (hx : VR μ a x) (hy : VR μ b y) : Good P μ w (Builtin.max2 x y) v := by
  unfold aMax2 at hv
  split at hv
  · simp only [Option.some.injEq] at hv
    subst hv
    cases hx; cases hy
    exact ⟨_, by simp [Builtin.max2], .int _ _⟩
  · cases hv
theorem min2_good {a b v : AVal} (hv : aMin2 a b = some v) {x y : Value} (hx : VR μ a x) (hy : VR μ b y) : Good P μ w (Builtin.min2 x y) v := by
  unfold aMin2 at hv
  split at hv
  · simp only [Option.some.injEq] at hv
    subst hv
    cases hx; cases hy
    exact ⟨_, by simp [Builtin.min2], .int _ _⟩
  · cases hv
theorem aFold_good {f : AVal → AVal → Option AVal} {g : Value → Value → Sem Value} (hfg : ∀ {a b v : AVal}, f a b = some v → ∀ {x y : Value}, VR μ a x → VR μ b y → Good P μ w (g x y) v) :
    ∀ (l : List AVal) (a v : AVal) (l' : List Value) (x : Value), aFold f a l = some v → VR μ a x → VRs μ l l' → Good P μ w (l'.foldlM g x) v
  | [], a, v, l', x, hf, hx, hl => by
      cases hl
      simp only [aFold, Option.some.injEq] at hf
      subst hf
      exact ⟨x, rfl, hx⟩
  | b :: l, a, v, l', x, hf, hx, hl => by
      cases hl with
      | cons hy hl =>
        simp only [aFold, Option.bind_eq_some_iff] at hf
        obtain ⟨z, hz, hf⟩ := hf
        obtain ⟨zv, hzr, hzv⟩ := hfg hz hx hy
        obtain ⟨vv, hr, hv⟩ := aFold_good hfg l z v _ zv hf hzv hl
        exact ⟨vv, by simp [List.foldlM_cons, hzr, hr], hv⟩
theorem aMax_good {l : List AVal} {v : AVal} (hm : aMM aMax2 l = some v) {args : Array Value} (ha : VRs μ l args.toList) (ts : Array TypeId) (ty : TypeId) : Good P μ w (Builtin.max_ ts ty args) v := by
  cases l with
  | nil => simp [aMM] at hm
  | cons a l =>
    simp only [aMM] at hm
    cases hl : args.toList with
    | nil => rw [hl] at ha; cases ha
    | cons x l' =>
      rw [hl] at ha
      cases ha with
      | cons hx hl' =>
        obtain ⟨vv, hr, hv⟩ := aFold_good (P := P) (w := w) (g := Builtin.max2) max2_good l a v l' x hm hx hl'
        exact ⟨vv, by simp only [Builtin.max_, hl]; exact hr, hv⟩
theorem aMin_good {l : List AVal} {v : AVal} (hm : aMM aMin2 l = some v) {args : Array Value} (ha : VRs μ l args.toList) (ts : Array TypeId) (ty : TypeId) : Good P μ w (Builtin.min_ ts ty args) v := by
  cases l with
  | nil => simp [aMM] at hm
  | cons a l =>
    simp only [aMM] at hm
    cases hl : args.toList with
    | nil => rw [hl] at ha; cases ha
    | cons x l' =>
      rw [hl] at ha
      cases ha with
      | cons hx hl' =>
        obtain ⟨vv, hr, hv⟩ := aFold_good (P := P) (w := w) (g := Builtin.min2) min2_good l a v l' x hm hx hl'
        exact ⟨vv, by simp only [Builtin.min_, hl]; exact hr, hv⟩
end Go.Proofs.Ytfppdfmffdkogaa.AI
namespace Go.Proofs.Ytfppdfmffdkogaa.AI
open Go
set_option linter.unusedSimpArgs false
variable {P : Program} {μ : Mu} {h : AH} {w : World}

def aSameNow (kind : TypeDesc) (a b : AVal) : Option Bool := match kind, a, b with
  | .int _, .int k x, .int k' y => if k = k' then some (x == y) else none
  | .string, .str x, .str y => some (x == y)
  | _, _, _ => none
def aFind (kind : TypeDesc) (k : AVal) : List (AVal × AVal) → Nat → Option (Option (Nat × AVal))
  | [], _ => some none
  | e :: es, i => match aSameNow kind k e.1 with
    | some true => some (some (i, e.2))
    | some false => aFind kind k es (i + 1)
    | none => none
/-- The entries of a map that may be read. -/
def AH.mapOf (h : AH) (i : Nat) : Option (List (AVal × AVal)) := match h.get i with
  | some ⟨.map es, md, _⟩ => if md = .dead then none else some es
  | _ => none
def isKey (d : TypeDesc) : Bool := match d with
  | .int _ => true
  | .string => true
  | _ => false
def rLook (kind : TypeDesc) (z : AVal) (ok : Bool) (x k : AVal) (h : AH) : Option AVal := match x with
  | .map none => some (if ok then .tuple [z, .bool false] else z)
  | .map (some i) => match h.mapOf i with
    | some es => match aFind kind k es 0 with
      | some (some (_, v)) => some (if ok then .tuple [v, .bool true] else v)
      | some none => some (if ok then .tuple [z, .bool false] else z)
      | none => none
    | none => none
  | _ => none
def aLookup (P : Program) (t : TypeId) (x k : AVal) (ok : Bool) (h : AH) : Option AVal := match P.underlying t with
  | some (.map key elem) => match P.underlying key, zeroT P elem with
    | some kind, some z => match isKey kind with
      | true => rLook kind z ok x k h
      | false => none
    | _, _ => none
  | _ => none
def setAt (es : List (AVal × AVal)) (r : Option (Nat × AVal)) (k v : AVal) : List (AVal × AVal) := match r with
  | some (i, _) => es.set i (k, v)
  | none => es ++ [(k, v)]
def rMapSet (kind : TypeDesc) (x k v : AVal) (h : AH) : Option AH := match x with
  | .map (some i) => match h.get i with
    | some ⟨.map es, .rw, []⟩ => match aFind kind k es 0 with
      | some r => some (h.set i ⟨.map (setAt es r k v), .rw, []⟩)
      | none => none
    | _ => none
  | _ => none
def aMapSet (P : Program) (t : TypeId) (x k v : AVal) (h : AH) : Option AH := match P.underlying t with
  | some (.map key _) => match P.underlying key with
    | some kind => match isKey kind with
      | true => rMapSet kind x k v h
      | false => none
    | none => none
  | _ => none

/-- An entry is made ready; its value, its place. -/
def rMapEnt (kind : TypeDesc) (z : AVal) (x k : AVal) (h : AH) : Option (AVal × AH) := match x with
  | .map (some i) => match h.get i with
    | some ⟨.map es, .rw, []⟩ => match aFind kind k es 0 with
      | some (some (j, v)) => some (.tuple [v, .int .i64 (j : Nat)], h.set i ⟨.map (es.set j (k, v)), .rw, []⟩)
      | some none => some (.tuple [z, .int .i64 (es.length : Nat)], h.set i ⟨.map (es ++ [(k, z)]), .rw, []⟩)
      | none => none
    | _ => none
  | _ => none
def aMapEnt (P : Program) (t : TypeId) (x k : AVal) (h : AH) : Option (AVal × AH) := match P.underlying t with
  | some (.map key elem) => match P.underlying key, zeroT P elem with
    | some kind, some z => match isKey kind with
      | true => rMapEnt kind z x k h
      | false => none
    | _, _ => none
  | _ => none
/-- A value is laid at an entry's place. -/
def rEntSet (x st v : AVal) (h : AH) : Option AH := match x, st with
  | .map (some i), .int _ n => match h.get i with
    | some ⟨.map es, .rw, []⟩ => match decide (0 ≤ n), es[n.toNat]? with
      | true, some e => some (h.set i ⟨.map (es.set n.toNat (e.1, v)), .rw, []⟩)
      | _, _ => none
    | _ => none
  | _, _ => none

theorem aSameNow_good {kind : TypeDesc} {a b : AVal} {x y : Value} {r : Bool} (hr : aSameNow kind a b = some r) (ha : VR μ a x) (hb : VR μ b y) : Instr.sameNow kind x y = some r := by
  unfold aSameNow at hr
  split at hr
  · cases ha; cases hb; exact hr
  · cases ha; cases hb
    simp only [Option.some.injEq] at hr
    subst hr
    rename_i s s'
    have e1 : Instr.sameNow .string (.string ⟨s.toArray⟩) (.string ⟨s'.toArray⟩) = some ((ByteArray.mk s.toArray) == (ByteArray.mk s'.toArray)) := rfl
    have e2 : ((ByteArray.mk s.toArray) == (ByteArray.mk s'.toArray)) = (s.toArray == s'.toArray) := rfl
    rw [e1, e2]
    simp
  · cases hr
/-- What entries are like in the model. -/
def EsR (μ : Mu) (es : List (AVal × AVal)) (E : List MapEntry) : Prop := VRs μ (es.map (·.1)) (E.map (·.key)) ∧ VRs μ (es.map (·.2)) (E.map (·.val))
theorem EsR.length {es : List (AVal × AVal)} {E : List MapEntry} (e : EsR μ es E) : es.length = E.length := by simpa using e.1.length
theorem aFind_good {kind : TypeDesc} {k : AVal} {x : Value} (hk : VR μ k x) : ∀ {es : List (AVal × AVal)} {E : List MapEntry} {i : Nat} {r : Option (Nat × AVal)}, EsR μ es E → aFind kind k es i = some r →
    ∃ r' : Option (Nat × Value), Instr.findNow kind x E i = some r' ∧ (match r, r' with | none, none => True | some (j, v), some (j', v') => j = j' ∧ i ≤ j ∧ j < i + es.length ∧ VR μ v v' ∧ (∃ e, es[j - i]? = some e ∧ aSameNow kind k e.1 = some true) | _, _ => False)
  | [], [], i, r, _, h => by
      simp only [aFind, Option.some.injEq] at h; subst h
      exact ⟨none, rfl, trivial⟩
  | [], _ :: _, _, _, e, _ => by have := e.length; simp at this
  | _ :: _, [], _, _, e, _ => by have := e.length; simp at this
  | e :: es, E0 :: E, i, r, he, h => by
      obtain ⟨h1, h2⟩ := he
      cases h1 with
      | cons h1 h1' => cases h2 with
        | cons h2 h2' =>
          simp only [aFind] at h
          split at h
          · rename_i hs
            simp only [Option.some.injEq] at h; subst h
            exact ⟨some (i, E0.val), by simp only [Instr.findNow, aSameNow_good hs hk h1], rfl, by omega, by simp, h2, e, by simp, hs⟩
          · rename_i hs
            obtain ⟨r', e1, e2⟩ := aFind_good hk (es := es) (E := E) ⟨h1', h2'⟩ h
            refine ⟨r', by simp only [Instr.findNow, aSameNow_good hs hk h1, e1], ?_⟩
            match r, r', e2 with
            | none, none, _ => trivial
            | some (j, v), some (j', v'), ⟨q1, q2, q3, q4, q5⟩ =>
              obtain ⟨e', q6, q7⟩ := q5
              refine ⟨q1, by omega, by simp only [List.length_cons]; omega, q4, e', ?_, q7⟩
              rw [show j - i = (j - (i + 1)) + 1 by omega]
              simpa using q6
          · cases h
theorem Rel.map (r : Rel μ h w) {i : Nat} {m : MuAt} {es : List (AVal × AVal)} (hm : μ i = some m) (hr : h.mapOf i = some es) :
    ∃ E : Array MapEntry, w.heap[m.cb]? = some (.map E E.size) ∧ EsR μ es E.toList ∧ ∀ (i : Nat) (e : MapEntry), E[i]? = some e → e.born = i := by
  unfold AH.mapOf at hr
  split at hr
  · rename_i es' md par hg
    split at hr
    · cases hr
    · rename_i hd
      simp only [Option.some.injEq] at hr
      subst hr
      obtain ⟨_, E, h1, h2, h3, h4⟩ := r.lies i m _ hm hg hd
      exact ⟨E, h1, ⟨h2, h3⟩, h4⟩
  · cases hr
theorem checkKey_run {key : TypeId} {kind : TypeDesc} (hk : P.underlying key = some kind) (hi : isKey kind = true) (b : Bool) (v : Value) : (Instr.checkKey b 10000 key v).run P w = .ok () w := by
  unfold Instr.checkKey
  simp only [Sem.run_bind, und_run key hk, Result.andThen_ok]
  cases kind <;> first | (cases hi; done) | rfl
theorem findKey_run {key : TypeId} {kind : TypeDesc} (hk : P.underlying key = some kind) {v : Value} {E : List MapEntry} {r : Option (Nat × Value)} (hf : Instr.findNow kind v E 0 = some r) : (Instr.findKey key v E).run P w = .ok r w := by
  simp only [Instr.findKey, Sem.run_bind, und_run key hk, Result.andThen_ok, hf]
  rfl
theorem getObj_run {r c : Nat} {E : Array MapEntry} (e : w.heap[r]? = some (.map E c)) : (getObj r).run P w = .ok (.map E c) w := by
  simp [getObj, Sem.run, e]
theorem aLookup_good (r : Rel μ h w) {t : TypeId} {x k v : AVal} {ok : Bool} (hl : aLookup P t x k ok h = some v) {xv kv : Value} (hx : VR μ x xv) (hk : VR μ k kv) : Good P μ w (Instr.lookup t xv kv ok) v := by
  unfold aLookup at hl
  split at hl
  · rename_i key elem ht
    split at hl
    · rename_i kind z hkey hz
      split at hl
      · rename_i hki
        unfold rLook at hl
        obtain ⟨zv, hzr, hzv⟩ := zero_run (μ := μ) (w := w) elem hz
        have fin : ∀ (b : Bool) (a : AVal) (a' : Value), VR μ a a' → VR μ (if ok then .tuple [a, .bool b] else a) (if ok then .tuple #[a', .bool b] else a') := by
          intro b a a' ha
          cases ok
          · exact ha
          · exact .tuple (.cons ha (.cons (.bool b) .nil))
        split at hl
        · cases hx
          simp only [Option.some.injEq] at hl
          subst hl
          refine ⟨_, ?_, fin false z zv hzv⟩
          simp only [Instr.lookup, Sem.run_bind, und_run t ht, Result.andThen_ok, Sem.run_pure, checkKey_run hkey hki, findKey_run hkey (show Instr.findNow kind kv (#[] : Array MapEntry).toList 0 = some none from rfl), hzr]
        · rename_i i
          cases hx with
          | map hm hb =>
            rename_i m
            split at hl
            · rename_i es hes
              obtain ⟨E, hE, hER, _⟩ := r.map hm hes
              split at hl
              · rename_i j a hf
                simp only [Option.some.injEq] at hl
                subst hl
                obtain ⟨r', e1, e2⟩ := aFind_good hk hER hf
                match r', e2 with
                | some (j', v'), ⟨q1, q2, q3, q4, q5⟩ =>
                  refine ⟨_, ?_, fin true a v' q4⟩
                  simp only [Instr.lookup, Sem.run_bind, und_run t ht, Result.andThen_ok, Sem.run_pure, getObj_run hE, checkKey_run hkey hki, findKey_run hkey e1]
              · rename_i hf
                simp only [Option.some.injEq] at hl
                subst hl
                obtain ⟨r', e1, e2⟩ := aFind_good hk hER hf
                match r', e2 with
                | none, _ =>
                  refine ⟨_, ?_, fin false z zv hzv⟩
                  simp only [Instr.lookup, Sem.run_bind, und_run t ht, Result.andThen_ok, Sem.run_pure, getObj_run hE, checkKey_run hkey hki, findKey_run hkey e1, hzr]
              · cases hl
            · cases hl
        · cases hl
      · cases hl
    · cases hl
  · cases hl

/-! ### Setting -/
theorem put_map (r : Rel μ h w) {i : Nat} {m : MuAt} {es es' : List (AVal × AVal)} (hm : μ i = some m) (hg : h.get i = some ⟨.map es, .rw, []⟩) {E' : Array MapEntry} (hE : EsR μ es' E'.toList) (hb : ∀ (i : Nat) (e : MapEntry), E'[i]? = some e → e.born = i) :
    Rel μ (h.set i ⟨.map es', .rw, []⟩) (put w m.cb (.map E' E'.size)) ∧ Ext μ h w μ (h.set i ⟨.map es', .rw, []⟩) (put w m.cb (.map E' E'.size)) := by
  have hcb := r.hi i m hm
  have hother : ∀ j mj bj, j ≠ i → μ j = some mj → h.get j = some bj → bj.mode ≠ .dead → mj.cb ≠ m.cb := by
    intro j mj bj hji hmj hgj hdj hcbe
    have := (r.excl i j m mj _ bj (Ne.symm hji) hm hmj hcbe.symm hg hgj rfl hdj).1
    simp at this
  refine ⟨⟨fun j mj hj => by rw [AH.n_set]; exact r.dom j mj hj, fun j mj hj => by rw [put_size]; exact r.hi j mj hj, ?_, ?_, ?_, ?_⟩, ?_⟩
  · intro j mj hj
    rw [AH.get_set]
    split
    · exact ⟨_, rfl⟩
    · exact r.has j mj hj
  · intro j mj bj hj hgj hdj
    rw [AH.get_set] at hgj
    by_cases hji : j = i
    · subst hji
      rw [if_pos rfl] at hgj
      simp only [Option.some.injEq] at hgj
      subst hgj
      rw [hm] at hj
      simp only [Option.some.injEq] at hj
      subst hj
      have hL := r.lies j m _ hm hg (by simp)
      exact ⟨hL.1, E', by rw [put_heap _ _ _ _ hcb, if_pos rfl], hE.1, hE.2, hb⟩
    · rw [if_neg hji] at hgj
      have hne := hother j mj bj hji hj hgj hdj
      have hL := r.lies j mj bj hj hgj hdj
      have hh : (put w m.cb (.map E' E'.size)).heap[mj.cb]? = w.heap[mj.cb]? := by rw [put_heap _ _ _ _ hcb, if_neg hne]
      unfold Lies at hL ⊢
      rw [hh]
      exact hL
  · intro a b ma mb ba bb hab ha hb' hcbe hga hgb hra hdb
    rw [AH.get_set] at hga hgb
    by_cases hai : a = i
    · subst hai
      exfalso
      rw [if_neg (Ne.symm hab)] at hgb
      rw [hm] at ha
      simp only [Option.some.injEq] at ha
      subst ha
      exact hother b mb bb (Ne.symm hab) hb' hgb hdb hcbe.symm
    · rw [if_neg hai] at hga
      by_cases hbi : b = i
      · subst hbi
        rw [hm] at hb'
        simp only [Option.some.injEq] at hb'
        subst hb'
        exact absurd hcbe (hother a ma ba hai ha hga (by rw [hra]; simp))
      · rw [if_neg hbi] at hgb
        exact r.excl a b ma mb ba bb hab ha hb' hcbe hga hgb hra hdb
  · intro j mj bj hj hgj p hp
    rw [AH.get_set] at hgj
    by_cases hji : j = i
    · rw [if_pos hji] at hgj
      simp only [Option.some.injEq] at hgj
      subst hgj
      simp at hp
    · rw [if_neg hji] at hgj
      exact r.par j mj bj hj hgj p hp
  · refine ⟨by simp, fun _ _ => rfl, ?_, rfl, rfl, rfl, by simp, ?_, ?_⟩
    · intro j hj hmj
      rw [AH.get_set]
      have hji : j ≠ i := fun e => by rw [e, hm] at hmj; cases hmj
      rw [if_neg hji]
    · intro cb hc hn
      rw [put_heap _ _ _ _ hcb]
      split
      · rename_i e2
        exact absurd ⟨i, m, _, hm, e2.symm, hg, rfl⟩ hn
      · rfl
    · rintro cb hc ⟨j, mj, bj, hj, hcj, hgj, hrj⟩
      rw [AH.get_set] at hgj
      by_cases hji : j = i
      · subst hji
        exact ⟨j, mj, _, hj, hcj, hg, rfl⟩
      · rw [if_neg hji] at hgj
        exact ⟨j, mj, bj, hj, hcj, hgj, hrj⟩
theorem setObj_run {r c c' : Nat} {E E' : Array MapEntry} (e : w.heap[r]? = some (.map E c)) : (setObj r (.map E' c')).run P w = .ok () (put w r (.map E' c')) := by
  have hlt : r < w.heap.size := by
    rcases Nat.lt_or_ge r w.heap.size with h | h
    · exact h
    · rw [Array.getElem?_eq_none h] at e; cases e
  simp [setObj, Sem.run, e, put]
theorem same_stays {kind : TypeDesc} {k k' : AVal} {x y : Value} (hs : aSameNow kind k k' = some true) (hx : VR μ k x) (hy : VR μ k' y) : (Instr.keyThatStays y x).run P w = .ok x w := by
  unfold aSameNow at hs
  obtain ⟨d, hd⟩ : ∃ d, 10000 = d + 1 := ⟨9999, rfl⟩
  have key : Instr.sameBits 10000 y x = true := by
    split at hs
    · cases hx; cases hy
      split at hs
      · rename_i e
        simp only [Option.some.injEq, beq_iff_eq] at hs
        subst e; subst hs
        rw [hd]; simp [Instr.sameBits]
      · cases hs
    · cases hx; cases hy
      simp only [Option.some.injEq, beq_iff_eq] at hs
      subst hs
      rename_i s
      rw [hd]
      show ((ByteArray.mk s.toArray) == (ByteArray.mk s.toArray)) = true
      have e2 : ((ByteArray.mk s.toArray) == (ByteArray.mk s.toArray)) = (s.toArray == s.toArray) := rfl
      rw [e2]; simp
    · cases hs
  unfold Instr.keyThatStays
  rw [if_pos key]; rfl
theorem aMapSet_good (r : Rel μ h w) {t : TypeId} {x k v : AVal} {h' : AH} (hs : aMapSet P t x k v h = some h') {xv kv vv : Value} (hx : VR μ x xv) (hk : VR μ k kv) (hv : VR μ v vv) :
    ∃ w', (Instr.mapUpdate t xv kv vv).run P w = .ok () w' ∧ Rel μ h' w' ∧ Ext μ h w μ h' w' := by
  unfold aMapSet at hs
  split at hs
  · rename_i key elem ht
    split at hs
    · rename_i kind hkey
      split at hs
      · rename_i hki
        unfold rMapSet at hs
        split at hs
        · rename_i i
          cases hx with
          | map hm hb =>
            rename_i m
            split at hs
            · rename_i es hg
              split at hs
              · rename_i rr hf
                simp only [Option.some.injEq] at hs
                subst hs
                have hmo : h.mapOf i = some es := by unfold AH.mapOf; rw [hg]; simp
                obtain ⟨E, hE, hER, hbo⟩ := r.map hm hmo
                obtain ⟨r', e1, e2⟩ := aFind_good hk hER hf
                match rr, r', e2 with
                | none, none, _ =>
                  have hE2 : EsR μ (es ++ [(k, v)]) (E.push { key := kv, val := vv, born := E.size }).toList := by
                    simp only [EsR, List.map_append, List.map_cons, List.map_nil, Array.toList_push]
                    exact ⟨hER.1.append (.cons hk .nil), hER.2.append (.cons hv .nil)⟩
                  have hb2 : ∀ (i : Nat) (e : MapEntry), (E.push { key := kv, val := vv, born := E.size })[i]? = some e → e.born = i := fun i e he => by
                    rw [Array.getElem?_push] at he
                    split at he
                    · rename_i h1
                      simp only [Option.some.injEq] at he
                      subst he; exact h1.symm
                    · exact hbo i e he
                  obtain ⟨q1, q2⟩ := put_map r hm hg hE2 hb2
                  refine ⟨_, ?_, q1, q2⟩
                  simp only [Instr.mapUpdate, Sem.run_bind, und_run t ht, Result.andThen_ok, Sem.run_pure, getObj_run hE, checkKey_run hkey hki, findKey_run hkey e1, setObj_run hE, Array.size_push]
                | some (j, a), some (j', a'), ⟨q1, q2, q3, q4, q5⟩ =>
                  subst q1
                  obtain ⟨e0, q6, q7⟩ := q5
                  simp only [Nat.sub_zero] at q6
                  have hj : j < E.size := by have := hER.length; simp at this; omega
                  have hkk : VR μ e0.1 E[j].key := by
                    have h1 : (es.map (·.1))[j]? = some e0.1 := by simp [q6]
                    obtain ⟨y, hy, hvr⟩ := hER.1.get h1
                    have : (E.toList.map (·.key))[j]? = some E[j].key := by simp [hj]
                    rw [this] at hy
                    simp only [Option.some.injEq] at hy
                    rw [hy]; exact hvr
                  have hst := same_stays (P := P) (w := w) q7 hk hkk
                  have hold : ((E[j]?).map (·.key)).getD kv = E[j].key := by simp [hj]
                  have hE2 : EsR μ (es.set j (k, v)) (E.modify j fun e => { e with key := kv, val := vv }).toList := by
                    have hl : (E.modify j fun e => { e with key := kv, val := vv }).toList = E.toList.set j { E[j] with key := kv, val := vv } := by
                      apply List.ext_getElem?
                      intro n
                      rw [Array.getElem?_toList, Array.getElem?_modify, List.getElem?_set]
                      split
                      · rename_i e; subst e; simp [hj]
                      · simp
                    rw [hl]
                    simp only [EsR, List.map_set]
                    exact ⟨hER.1.set j hk, hER.2.set j hv⟩
                  have hb2 : ∀ (i : Nat) (e : MapEntry), (E.modify j fun e => { e with key := kv, val := vv })[i]? = some e → e.born = i := fun i e he => by
                    rw [Array.getElem?_modify] at he
                    split at he
                    · rename_i h1
                      simp only [Option.map_eq_some_iff] at he
                      obtain ⟨e2, h2, rfl⟩ := he
                      exact hbo i e2 h2
                    · exact hbo i e he
                  obtain ⟨p1, p2⟩ := put_map r hm hg hE2 hb2
                  refine ⟨_, ?_, p1, p2⟩
                  simp only [Instr.mapUpdate, Sem.run_bind, und_run t ht, Result.andThen_ok, Sem.run_pure, getObj_run hE, checkKey_run hkey hki, findKey_run hkey e1, hold, hst, setObj_run hE, Array.size_modify]
              · cases hs
            · cases hs
        · cases hs
      · cases hs
    · cases hs
  · cases hs

theorem EsR.set {es : List (AVal × AVal)} {E : Array MapEntry} (hER : EsR μ es E.toList) {j : Nat} {k v : AVal} {kv vv : Value} (hk : VR μ k kv) (hv : VR μ v vv) (f : MapEntry → MapEntry) (hf : ∀ e, (f e).key = kv ∧ (f e).val = vv) : EsR μ (es.set j (k, v)) (E.modify j f).toList := by
  have hl1 : (E.modify j f).toList.map (·.key) = (E.toList.map (·.key)).set j kv := by
    apply List.ext_getElem?
    intro n
    rw [List.getElem?_map, Array.getElem?_toList, Array.getElem?_modify, List.getElem?_set]
    split
    · rename_i e; subst e
      by_cases hj : j < E.size
      · simp [hj, (hf _).1]
      · simp [hj]
    · simp
  have hl2 : (E.modify j f).toList.map (·.val) = (E.toList.map (·.val)).set j vv := by
    apply List.ext_getElem?
    intro n
    rw [List.getElem?_map, Array.getElem?_toList, Array.getElem?_modify, List.getElem?_set]
    split
    · rename_i e; subst e
      by_cases hj : j < E.size
      · simp [hj, (hf _).2]
      · simp [hj]
    · simp
  unfold EsR
  rw [hl1, hl2, List.map_set, List.map_set]
  exact ⟨hER.1.set j hk, hER.2.set j hv⟩
theorem born_modify {E : Array MapEntry} (hbo : ∀ (i : Nat) (e : MapEntry), E[i]? = some e → e.born = i) (j : Nat) (f : MapEntry → MapEntry) (hf : ∀ e, (f e).born = e.born) : ∀ (i : Nat) (e : MapEntry), (E.modify j f)[i]? = some e → e.born = i := fun i e he => by
  rw [Array.getElem?_modify] at he
  split at he
  · simp only [Option.map_eq_some_iff] at he
    obtain ⟨e2, h2, rfl⟩ := he
    rw [hf]; exact hbo i e2 h2
  · exact hbo i e he
theorem born_push {E : Array MapEntry} (hbo : ∀ (i : Nat) (e : MapEntry), E[i]? = some e → e.born = i) (k v : Value) : ∀ (i : Nat) (e : MapEntry), (E.push { key := k, val := v, born := E.size })[i]? = some e → e.born = i := fun i e he => by
  rw [Array.getElem?_push] at he
  split at he
  · rename_i h1
    simp only [Option.some.injEq] at he
    subst he; exact h1.symm
  · exact hbo i e he
theorem aMapEnt_good (r : Rel μ h w) {t : TypeId} {x k v : AVal} {h' : AH} (hs : aMapEnt P t x k h = some (v, h')) {xv kv : Value} (hx : VR μ x xv) (hk : VR μ k kv) :
    ∃ v' w', (Instr.mapEntry t xv kv).run P w = .ok v' w' ∧ VR μ v v' ∧ Rel μ h' w' ∧ Ext μ h w μ h' w' := by
  unfold aMapEnt at hs
  split at hs
  · rename_i key elem ht
    split at hs
    · rename_i kind z hkey hz
      split at hs
      · rename_i hki
        unfold rMapEnt at hs
        split at hs
        · rename_i i
          cases hx with
          | map hm hb =>
            rename_i m
            split at hs
            · rename_i es hg
              have hmo : h.mapOf i = some es := by unfold AH.mapOf; rw [hg]; simp
              obtain ⟨E, hE, hER, hbo⟩ := r.map hm hmo
              have hlen : es.length = E.size := by have := hER.length; simpa using this
              split at hs
              · rename_i j a hf
                simp only [Option.some.injEq, Prod.mk.injEq] at hs
                obtain ⟨rfl, rfl⟩ := hs
                obtain ⟨r', e1, e2⟩ := aFind_good hk hER hf
                match r', e2 with
                | some (j', a'), ⟨q1, q2, q3, q4, q5⟩ =>
                  subst q1
                  obtain ⟨e0, q6, q7⟩ := q5
                  simp only [Nat.sub_zero] at q6
                  have hj : j < E.size := by omega
                  have hkk : VR μ e0.1 E[j].key := by
                    have h1 : (es.map (·.1))[j]? = some e0.1 := by simp [q6]
                    obtain ⟨y, hy, hvr⟩ := hER.1.get h1
                    have : (E.toList.map (·.key))[j]? = some E[j].key := by simp [hj]
                    rw [this] at hy
                    simp only [Option.some.injEq] at hy
                    rw [hy]; exact hvr
                  have hva : E[j].val = a' := by
                    have hfn := e1
                    have : ∀ (L : List MapEntry) (n : Nat) (j0 : Nat) (b : Value), Instr.findNow kind kv L n = some (some (j0, b)) → n ≤ j0 ∧ (L[j0 - n]?).map (·.val) = some b := by
                      intro L
                      induction L with
                      | nil => intro n j0 b hh; simp [Instr.findNow] at hh
                      | cons e L ih =>
                        intro n j0 b hh
                        simp only [Instr.findNow] at hh
                        split at hh
                        · simp only [Option.some.injEq, Prod.mk.injEq] at hh
                          obtain ⟨rfl, rfl⟩ := hh
                          exact ⟨Nat.le_refl _, by simp⟩
                        · obtain ⟨g1, g2⟩ := ih (n + 1) j0 b hh
                          refine ⟨by omega, ?_⟩
                          rw [show j0 - n = (j0 - (n + 1)) + 1 by omega]
                          simpa using g2
                        · cases hh
                    have g := (this E.toList 0 j a' hfn).2
                    simp [hj] at g
                    exact g
                  have hst := same_stays (P := P) (w := w) q7 hk hkk
                  have hold : ((E[j]?).map (·.key)).getD kv = E[j].key := by simp [hj]
                  have hborn : ((E[j]?).map (fun e => (e.born : Int))).getD 0 = (j : Int) := by
                    have := hbo j E[j] (by simp [hj])
                    simp [hj, this]
                  have hE2 : EsR μ (es.set j (k, a)) (E.modify j fun e => { e with key := kv }).toList := by
                    have h1 : (E.modify j fun e => { e with key := kv }) = E.modify j fun e => { e with key := kv, val := a' } := by
                      apply Array.ext_getElem?
                      intro n
                      rw [Array.getElem?_modify, Array.getElem?_modify]
                      split
                      · rename_i e; subst e; simp [hj, hva]
                      · rfl
                    rw [h1]
                    exact EsR.set hER hk q4 _ fun e => ⟨rfl, rfl⟩
                  obtain ⟨p1, p2⟩ := put_map r hm hg hE2 (born_modify hbo j _ fun e => rfl)
                  refine ⟨.tuple #[a', .int .i64 (j : Nat)], _, ?_, ?_, p1, p2⟩
                  · simp only [Instr.mapEntry, Sem.run_bind, und_run t ht, Result.andThen_ok, Sem.run_pure, getObj_run hE, checkKey_run hkey hki, findKey_run hkey e1, hold, hst, setObj_run hE, Array.size_modify, hborn]
                    rfl
                  · exact .tuple (.cons q4 (.cons (.int _ _) .nil))
              · rename_i hf
                simp only [Option.some.injEq, Prod.mk.injEq] at hs
                obtain ⟨rfl, rfl⟩ := hs
                obtain ⟨r', e1, e2⟩ := aFind_good hk hER hf
                match r', e2 with
                | none, _ =>
                  obtain ⟨zv, hzr, hzv⟩ := zero_run (μ := μ) (w := w) elem hz
                  have hE2 : EsR μ (es ++ [(k, z)]) (E.push { key := kv, val := zv, born := E.size }).toList := by
                    simp only [EsR, List.map_append, List.map_cons, List.map_nil, Array.toList_push]
                    exact ⟨hER.1.append (.cons hk .nil), hER.2.append (.cons hzv .nil)⟩
                  obtain ⟨q1, q2⟩ := put_map r hm hg hE2 (born_push hbo kv zv)
                  refine ⟨.tuple #[zv, .int .i64 (E.size : Nat)], _, ?_, ?_, q1, q2⟩
                  · simp only [Instr.mapEntry, Sem.run_bind, und_run t ht, Result.andThen_ok, Sem.run_pure, getObj_run hE, checkKey_run hkey hki, findKey_run hkey e1, hzr, setObj_run hE, Array.size_push]
                    rfl
                  · rw [hlen]; exact .tuple (.cons hzv (.cons (.int _ _) .nil))
              · cases hs
            · cases hs
        · cases hs
      · cases hs
    · cases hs
  · cases hs
theorem asInt_run (k : IntKind) (n : Int) : (asInt (.int k n)).run P w = .ok n w := rfl
theorem rEntSet_good (r : Rel μ h w) {x st v : AVal} {h' : AH} (hs : rEntSet x st v h = some h') (t : TypeId) {xv sv vv : Value} (hx : VR μ x xv) (hst : VR μ st sv) (hv : VR μ v vv) :
    ∃ w', (Instr.entryStore t xv sv vv).run P w = .ok () w' ∧ Rel μ h' w' ∧ Ext μ h w μ h' w' := by
  unfold rEntSet at hs
  split at hs
  · rename_i i q n
    cases hst
    cases hx with
    | map hm hb =>
      rename_i m
      split at hs
      · rename_i es hg
        split at hs
        · rename_i e h0 he
          simp only [Option.some.injEq] at hs
          subst hs
          simp only [decide_eq_true_eq] at h0
          have hmo : h.mapOf i = some es := by unfold AH.mapOf; rw [hg]; simp
          obtain ⟨E, hE, hER, hbo⟩ := r.map hm hmo
          have hlen : es.length = E.size := by have := hER.length; simpa using this
          have hlt := (List.getElem?_eq_some_iff.1 he).1
          have hj : n.toNat < E.size := by omega
          have hkk : VR μ e.1 E[n.toNat].key := by
            have h1 : (es.map (·.1))[n.toNat]? = some e.1 := by simp [he]
            obtain ⟨y, hy, hvr⟩ := hER.1.get h1
            have : (E.toList.map (·.key))[n.toNat]? = some E[n.toNat].key := by simp [hj]
            rw [this] at hy
            simp only [Option.some.injEq] at hy
            rw [hy]; exact hvr
          have hfi : E.findIdx? (fun e => (e.born : Int) == n) = some n.toNat := by
            rw [Array.findIdx?_eq_some_iff_getElem]
            refine ⟨hj, ?_, fun a ha => ?_⟩
            · have := hbo n.toNat E[n.toNat] (by simp [hj])
              rw [this]; simp; omega
            · have := hbo a E[a] (by simp)
              rw [this]; simp; omega
          have hE2 : EsR μ (es.set n.toNat (e.1, v)) (E.modify n.toNat fun e => { e with val := vv }).toList := by
            have h1 : (E.modify n.toNat fun e => { e with val := vv }) = E.modify n.toNat fun e0 => { e0 with key := E[n.toNat].key, val := vv } := by
              apply Array.ext_getElem?
              intro j
              rw [Array.getElem?_modify, Array.getElem?_modify]
              split
              · rename_i e; subst e; simp [hj]
              · rfl
            rw [h1]
            exact EsR.set hER hkk hv _ fun e => ⟨rfl, rfl⟩
          obtain ⟨p1, p2⟩ := put_map r hm hg hE2 (born_modify hbo n.toNat _ fun e => rfl)
          refine ⟨_, ?_, p1, p2⟩
          simp only [Instr.entryStore, Sem.run_bind, Result.andThen_ok, Sem.run_pure, getObj_run hE, asInt_run, hfi, setObj_run hE, Array.size_modify]
        · cases hs
      · cases hs
  · cases hs
/-! ### Methods -/
/-- A type's own method, of its value as it lies in an interface. -/
def aMeth (P : Program) (t : TypeId) (name : String) : Option FuncId := match P.info? t with
  | some i => match i.methods.find? (·.name == name) with
    | some m => match m.path.toList, m.func, P.underlying t with
      | [], some (f, true), some (.pointer _) => some f
      | [], some (_, false), some (.pointer _) => none
      | [], some (f, false), some _ => some f
      | _, _, _ => none
    | none => none
  | none => none
theorem aMeth_good {t : TypeId} {name : String} {f : FuncId} (hm : aMeth P t name = some f) (v : Value) : (method (P.types.size + Made.depth) t v name).run P w = .ok (f, v) w := by
  unfold aMeth at hm
  split at hm
  · rename_i i hi
    obtain ⟨k, hk⟩ : ∃ k, P.types.size + Made.depth = k + 1 := ⟨P.types.size + 99, rfl⟩
    rw [hk]
    split at hm
    · rename_i m hf
      have hti : (typeInfo t).run P w = .ok i w := by simp [typeInfo, hi]
      split at hm
      · rename_i g e hp hfn hu
        simp only [Option.some.injEq] at hm; subst hm
        simp only [method, Sem.run_bind, hti, Result.andThen_ok, hf, hp, follow, Sem.run_pure, hfn, receiverAt, und_run t hu, Place.get]
      · cases hm
      · rename_i g d hne hp hfn hu
        simp only [Option.some.injEq] at hm; subst hm
        simp only [method, Sem.run_bind, hti, Result.andThen_ok, hf, hp, follow, Sem.run_pure, hfn, receiverAt, und_run t hu]
        cases d <;> first | rfl | (exfalso; exact hne _ _ hp hfn hu) | simp [Place.get]
      · cases hm
    · cases hm
  · cases hm
end Go.Proofs.Ytfppdfmffdkogaa.AI
