/- The operations on memory: what the abstract machine says of them holds. -/
import Derived.Test.YtbcpmbggidemdaaAiMake
namespace Go.Proofs.Ytbcpmbggidemdaa.AI
open Go

variable {P : Program} {μ : Mu} {h : AH} {w : World}

/-- The run ends, with a value and a world that are as v and h' say. -/
def GoodH (P : Program) (μ : Mu) (h : AH) (w : World) (s : Sem Value) (v : AVal) (h' : AH) : Prop :=
  ∃ v' w' μ', s.run P w = .ok v' w' ∧ VR μ' v v' ∧ Rel μ' h' w' ∧ Ext μ h w μ' h' w'
theorem Good.goodH (r : Rel μ h w) {s : Sem Value} {v : AVal} (g : Good P μ w s v) : GoodH P μ h w s v h := by
  obtain ⟨v', hr, hv⟩ := g
  exact ⟨v', w, μ, hr, hv, r, Ext.refl _ _ _⟩

theorem aStore_good (r : Rel μ h w) {t : TypeId} {a v : AVal} {h' : AH} (hs : aStore P t a v h = some h') {av vv : Value} (ha : VR μ a av) (hv : VR μ v vv) :
    ∃ w', (Instr.storeAt t av vv).run P w = .ok () w' ∧ Rel μ h' w' ∧ Ext μ h w μ h' w' := by
  unfold aStore at hs
  split at hs
  · rename_i i off cs n hc hn
    split at hs
    · rename_i hl
      cases ha with
      | ptr hm =>
        have hcs := hv.cells hc
        obtain ⟨w', hrun, hrel, hext⟩ := write_good (P := P) r hs hm hcs
        refine ⟨w', ?_, hrel, hext⟩
        have hsz : vv.cells.size = n := by have := hcs.length; simp at this; omega
        simp only [Instr.storeAt, Instr.sureAddr, storeVar, Sem.run_bind, Sem.run_pure, Result.andThen_ok, size_run t hn]
        simp [hsz, hrun]
    · cases hs
  · cases hs

theorem aBox_good (r : Rel μ h w) {e : TypeId} {v : AVal} {v' : AVal} {h' : AH} (hb : aBox e v h = some (v', h')) {vv : Value} (hv : VR μ v vv) : GoodH P μ h w (do pure (.pointer (some (← newVar e vv)))) v' h' := by
  unfold aBox AH.newRow at hb
  simp only [Option.bind_eq_some_iff] at hb
  obtain ⟨cs, hc, hb⟩ := hb
  split at hb
  · simp only [Option.map_some, Option.some.injEq, Prod.mk.injEq] at hb
    obtain ⟨rfl, rfl⟩ := hb
    have hcs := hv.cells hc
    have hlen := hcs.length
    have := newRow_good r (e := e) (opn := false) (par := []) (C := vv.cells) (fr := (0, 0)) (cs := cs) (by rw [hlen, List.take_length]; exact hcs) (by simp at hlen; omega) (fun _ => by simp at hlen; omega) (by simp) (by simp) w.drawn
    exact ⟨_, _, _, by simp [newVar, newRow], .ptr (m := ⟨w.heap.size, 0, cs.length, vv.cells.size, false⟩) (by simp [muNew]), this.1, this.2⟩
  · cases hb
theorem aAlloc_good (r : Rel μ h w) {e : TypeId} {v' : AVal} {h' : AH} (ha : aAlloc P e h = some (v', h')) : GoodH P μ h w (Instr.alloc e true (.tuple #[])) v' h' := by
  unfold aAlloc at ha
  simp only [Option.bind_eq_some_iff] at ha
  obtain ⟨z, hz, ha⟩ := ha
  obtain ⟨zv, hzr, hzv⟩ := zero_run (μ := μ) (w := w) e hz
  obtain ⟨v, w', μ', hr, hv, hrel, hext⟩ := aBox_good (P := P) r ha hzv
  refine ⟨v, w', μ', ?_, hv, hrel, hext⟩
  simp only [Instr.alloc, Sem.run_bind, hzr, Result.andThen_ok]
  exact hr

theorem aMakeMap_good (r : Rel μ h w) {v' : AVal} {h' : AH} (hm : aMakeMap h = (v', h')) (t : TypeId) : GoodH P μ h w (Instr.makeMap t none) v' h' := by
  unfold aMakeMap at hm
  simp only [Prod.mk.injEq] at hm
  obtain ⟨rfl, rfl⟩ := hm
  have := new_good r (b := ⟨.map [], .rw, []⟩) (m := ⟨w.heap.size, 0, 0, 0, false⟩) (o := .map #[] 0) rfl (by simp) ⟨rfl, #[], by simp, .nil, .nil, by simp⟩ w.drawn
  exact ⟨_, _, _, by simp [Instr.makeMap], .map (m := ⟨w.heap.size, 0, 0, 0, false⟩) (by simp [muNew]) rfl, this.1, this.2⟩

/-! ### Many cells -/
theorem manyT_get {z : List AVal} : ∀ (n j : Nat), j < n * z.length → (manyT n z)[j]? = z[j % z.length]?
  | 0, j, hj => by simp at hj
  | n + 1, j, hj => by
      have e : manyT (n + 1) z = z ++ manyT n z := by simp [manyT, List.replicate_succ]
      rw [e]
      by_cases h1 : j < z.length
      · rw [List.getElem?_append_left h1, Nat.mod_eq_of_lt h1]
      · have h2 : z.length ≤ j := by omega
        rw [List.getElem?_append_right h2, manyT_get n (j - z.length) (by rw [Nat.add_mul] at hj; omega)]
        congr 1
        exact (Nat.mod_eq_sub_mod h2).symm
theorem manyT_length (n : Nat) (z : List AVal) : (manyT n z).length = n * z.length := by simp [manyT, List.length_flatten, List.map_replicate, List.sum_replicate_nat]
theorem VRs.many {z : List AVal} {Z : Array Value} (hz : VRs μ z Z.toList) (n : Nat) (d : Value) : VRs μ (manyT n z) ((Array.range (n * z.length)).map fun j => Z.getD (j % Z.size) d).toList := by
  have hl := hz.length
  refine VRs.of_get (by simp [manyT_length]) ?_
  intro i x y hx hy
  have hi : i < n * z.length := by
    rcases Nat.lt_or_ge i (n * z.length) with h' | h'
    · exact h'
    · rw [List.getElem?_eq_none (by rw [manyT_length]; exact h')] at hx; cases hx
  rw [manyT_get n i hi] at hx
  obtain ⟨u, hu, huv⟩ := hz.get hx
  have hzl : 0 < z.length := by
    rcases Nat.eq_zero_or_pos z.length with h0 | h0
    · rw [h0] at hi; simp at hi
    · exact h0
  have hm : i % z.length < z.length := Nat.mod_lt _ hzl
  simp at hl
  simp [hi] at hy
  rw [← hl] at hy
  have : Z[i % z.length]? = some u := by simpa using hu
  rw [this] at hy
  simp at hy
  rw [← hy]; exact huv

theorem getBang (Z : Array Value) (j : Nat) : Z[j]! = Z.getD j default := by rw [getElem!_def]; simp only [Array.getD_eq_getD_getElem?]; cases Z[j]? <;> rfl
theorem zeroCells_good {e : TypeId} {z : List AVal} (hz : zeroCellsT P e = some z) : ∃ Z : Value, (zeroValue e).run P w = .ok Z w ∧ VRs μ z Z.cells.toList := by
  unfold zeroCellsT at hz
  simp only [Option.bind_eq_some_iff] at hz
  obtain ⟨v, hv, hc⟩ := hz
  obtain ⟨zv, hzr, hzv⟩ := zero_run (μ := μ) (w := w) e hv
  exact ⟨zv, hzr, hzv.cells hc⟩

theorem foldl_set {α : Type} [Inhabited α] : ∀ (l : List α) (k off : Nat) (cs : Array α), off + k + l.length ≤ cs.size →
    (((l.zipIdx k).foldl (fun cs (x : α × Nat) => cs.setIfInBounds (off + x.2) x.1) cs).toList) = cs.toList.take (off + k) ++ l ++ cs.toList.drop (off + k + l.length)
  | [], k, off, cs, _ => by simp
  | x :: l, k, off, cs, h => by
      simp only [List.zipIdx_cons, List.foldl_cons, List.length_cons] at h ⊢
      rw [foldl_set l (k + 1) off _ (by simp; omega)]
      simp only [Array.toList_setIfInBounds]
      apply List.ext_getElem?
      intro j
      simp only [List.append_assoc]
      by_cases h1 : j < off + k
      · rw [List.getElem?_append_left (by simp; omega), List.getElem?_append_left (by simp; omega), List.getElem?_take_of_lt (by omega), List.getElem?_take_of_lt h1, List.getElem?_set, if_neg (by omega)]
      · by_cases h2 : j = off + k
        · subst h2
          rw [List.getElem?_append_left (by simp; omega), List.getElem?_take_of_lt (by omega), List.getElem?_set, if_pos rfl, if_pos (by simp; omega), List.getElem?_append_right (by simp; omega)]
          simp; rw [show off + k - min (off + k) cs.size = 0 by omega]; simp
        · have e1 : (List.take (off + (k + 1)) (cs.toList.set (off + k) x)).length = off + k + 1 := by simp; omega
          have e2 : (List.take (off + k) cs.toList).length = off + k := by simp; omega
          rw [List.getElem?_append_right (l₁ := List.take (off + (k + 1)) (cs.toList.set (off + k) x)) (by omega), List.getElem?_append_right (l₁ := List.take (off + k) cs.toList) (by omega), e1, e2]
          rw [show j - (off + k) = (j - (off + k + 1)) + 1 by omega, List.cons_append, List.getElem?_cons_succ, List.getElem?_append, List.getElem?_append]
          split
          · rfl
          · rw [List.getElem?_drop, List.getElem?_drop, List.getElem?_set, if_neg (by omega)]
            congr 1; omega

theorem aFill_good {pl : Nat → Option (Nat × Nat)} : ∀ (parts : List (Nat × AVal)) (parts' : List (Nat × Value)) (cells : List AVal) (C : Array Value) (out : List AVal),
    VRs μ (parts.map (·.2)) (parts'.map (·.2)) → parts.map (·.1) = parts'.map (·.1) → VRs μ cells C.toList → aFill pl cells parts = some out → ∃ C', Instr.fill pl C parts' = some C' ∧ VRs μ out C'.toList ∧ C'.size = C.size
  | [], [], cells, C, out, _, _, hc, hf => by
      simp only [aFill, Option.some.injEq] at hf
      subst hf
      exact ⟨C, rfl, hc, rfl⟩
  | [], _ :: _, _, _, _, hv, _, _, _ => by cases hv
  | _ :: _, [], _, _, _, hv, _, _, _ => by cases hv
  | (i, v) :: rest, (i', v') :: rest', cells, C, out, hv, hi, hc, hf => by
      simp only [List.map_cons, List.cons.injEq] at hi hv
      obtain ⟨rfl, hi⟩ := hi
      cases hv with
      | cons hv0 hvr =>
        simp only [aFill] at hf
        split at hf
        · rename_i off size vs hp hcs
          split at hf
          · rename_i hb
            have hvs := hv0.cells hcs
            have hl := hvs.length
            have hcl := hc.length
            simp at hl hcl
            have hset := foldl_set v'.cells.toList 0 off C (by simp; omega)
            have h1 : ¬ (v'.cells.size ≠ size ∨ off + v'.cells.size > C.size) := by omega
            obtain ⟨C', hC', hr, hsz⟩ := aFill_good rest rest' (splice cells off vs) (v'.cells.zipIdx.foldl (fun cs (c, j) => cs.setIfInBounds (off + j) c) C) out hvr hi (by
              have e : (v'.cells.zipIdx.foldl (fun cs (c, j) => cs.setIfInBounds (off + j) c) C) = (v'.cells.toList.zipIdx 0).foldl (fun cs (x : Value × Nat) => cs.setIfInBounds (off + x.2) x.1) C := by
                rw [← Array.foldl_toList]; simp
              rw [e, hset]
              unfold splice
              rw [Nat.add_zero, show v'.cells.toList.length = vs.length by simp [hl]]
              exact ((hc.take off).append hvs).append (hc.drop _)) hf
            refine ⟨C', ?_, hr, ?_⟩
            · simp only [Instr.fill, hp]
              rw [if_neg (by simpa using h1)]
              exact hC'
            · rw [hsz]
              have e : (v'.cells.zipIdx.foldl (fun cs (c, j) => cs.setIfInBounds (off + j) c) C) = (v'.cells.toList.zipIdx 0).foldl (fun cs (x : Value × Nat) => cs.setIfInBounds (off + x.2) x.1) C := by
                rw [← Array.foldl_toList]; simp
              rw [e, ← Array.length_toList, hset]
              simp; omega
          · cases hf
        · cases hf
end Go.Proofs.Ytbcpmbggidemdaa.AI
