/- Operations that make memory, as plans: which block, and which value of its number. -/
import Derived.Test.YtfppdfmffdkogaaAiConv
namespace Go.Proofs.Ytfppdfmffdkogaa.AI
open Go
set_option linter.unusedSimpArgs false

variable {P : Program} {μ : Mu} {h : AH} {w : World}

abbrev APlan := ABlk × (Nat → AVal)
def rowPlan (cs : List AVal) (e : TypeId) (opn : Bool) (mk : Nat → AVal) : Option APlan :=
  if cs.all AVal.isCell then some (⟨.row cs e opn, .rw, []⟩, mk) else none
def pBox (e : TypeId) (v : AVal) : Option APlan := v.cells.bind fun cs => rowPlan cs e false fun i => .ptr (some (i, 0))
def pAlloc (P : Program) (e : TypeId) : Option APlan := (zeroT P e).bind fun z => pBox e z
def pMap : APlan := (⟨.map [], .rw, []⟩, fun i => .map (some i))
def pBuildSlice (P : Program) (t : TypeId) (len : Nat) (parts : List (Nat × AVal)) : Option APlan :=
  match P.underlying t with
  | some (.slice e) => (szT P e).bind fun sz => (zeroCellsT P e).bind fun z =>
      if len * sz ≤ 2 ^ 24 ∧ z.length = sz ∧ 0 < sz then
        (aFill (fun i => some (i * sz, sz)) (manyT len z) parts).bind fun cs => rowPlan cs e false fun i => .slice (some (i, 0, sz)) len len
      else none
  | _ => none
def pMakeSlice (P : Program) (t : TypeId) (l c : AVal) : Option APlan :=
  match P.underlying t, l, c with
  | some (.slice e), .int _ l, .int _ c => (szT P e).bind fun sz => (byT P e).bind fun by_ => (zeroCellsT P e).bind fun z =>
      if 0 ≤ l ∧ l ≤ c ∧ c < 2 ^ 48 ∧ by_ * c ≤ 2 ^ 48 ∧ z.length = sz ∧ 0 < sz then
        rowPlan (manyT c.toNat z) e false fun i => .slice (some (i, 0, sz)) l.toNat c.toNat
      else none
  | _, _, _ => none
def pConvert (P : Program) (src dst : TypeId) (x : AVal) : Option APlan :=
  match P.underlying src, P.underlying dst, x with
  | some _, some (.slice e), .str s =>
    match P.underlying e with
    | some (.int .u8) => if s.length ≤ 2 ^ 47 then rowPlan (bytesOf s) e true fun i => .slice (some (i, 0, 1)) s.length s.length else none
    | _ => none
  | _, _, _ => none

/-- What a plan comes to in the model. -/
def PlanGood (P : Program) (μ : Mu) (w : World) (s : Sem Value) (p : APlan) : Prop :=
  p.1.mode = .rw ∧ p.1.par = [] ∧ ∃ (obj : Obj) (m : MuAt) (v' : Value) (dr : Nat), s.run P w = .ok v' { w with heap := w.heap.push obj, drawn := dr } ∧ m.cb = w.heap.size ∧
    ∀ (μ' : Mu) (i : Nat), μ.le μ' → μ' i = some m → Lies μ' (w.heap.push obj) m p.1 ∧ VR μ' (p.2 i) v'

theorem rowPlan_good {cs : List AVal} {e : TypeId} {opn : Bool} {mk : Nat → AVal} {p : APlan} (hp : rowPlan cs e opn mk = some p) {s : Sem Value} {C : Array Value} {fr : Nat × Nat} {v' : Value} {dr : Nat}
    (hrun : s.run P w = .ok v' { w with heap := w.heap.push (.cells C e fr), drawn := dr }) (hC : VRs μ cs (C.toList.take cs.length)) (hlen : cs.length ≤ C.size)
    (hop : opn = false → C.size = cs.length) (hfr : ∀ o, o < C.size → ¬ (fr.1 ≤ o ∧ o < fr.2))
    (hv : ∀ (μ' : Mu) (i : Nat), μ.le μ' → μ' i = some ⟨w.heap.size, 0, cs.length, C.size, opn⟩ → VR μ' (mk i) v') : PlanGood P μ w s p := by
  unfold rowPlan at hp
  split at hp
  · simp only [Option.some.injEq] at hp
    subst hp
    refine ⟨rfl, rfl, _, ⟨w.heap.size, 0, cs.length, C.size, opn⟩, v', dr, hrun, rfl, fun μ' i hle hi => ⟨⟨rfl, rfl, hlen, hop, C, e, fr, by simp, by simp, ?_, fun _ => rfl, fun _ o _ ho => hfr o (by simpa using ho)⟩, hv μ' i hle hi⟩⟩
    simpa using hC.mono hle
  · cases hp

theorem pBox_good {e : TypeId} {v : AVal} {p : APlan} (hb : pBox e v = some p) {vv : Value} (hv : VR μ v vv) : PlanGood P μ w (do pure (.pointer (some (← newVar e vv)))) p := by
  unfold pBox at hb
  simp only [Option.bind_eq_some_iff] at hb
  obtain ⟨cs, hc, hb⟩ := hb
  have hcs := hv.cells hc
  have hlen := hcs.length
  simp at hlen
  exact rowPlan_good hb (C := vv.cells) (fr := (0, 0)) (dr := w.drawn) (v' := .pointer (some ⟨w.heap.size, 0, none⟩)) (by simp [newVar, newRow]) (by rw [List.take_of_length_le (by simp; omega)]; exact hcs) (by omega) (fun _ => by omega) (by simp)
    (fun μ' i _ hi => .ptr (m := ⟨w.heap.size, 0, cs.length, vv.cells.size, false⟩) hi)
theorem pAlloc_good {e : TypeId} {p : APlan} (ha : pAlloc P e = some p) : PlanGood P μ w (Instr.alloc e true (.tuple #[])) p := by
  unfold pAlloc at ha
  simp only [Option.bind_eq_some_iff] at ha
  obtain ⟨z, hz, ha⟩ := ha
  obtain ⟨zv, hzr, hzv⟩ := zero_run (μ := μ) (w := w) e hz
  obtain ⟨h1, h2, obj, m, v', dr, hrun, h3⟩ := pBox_good (P := P) (w := w) ha hzv
  refine ⟨h1, h2, obj, m, v', dr, ?_, h3⟩
  simp only [Instr.alloc, Sem.run_bind, hzr, Result.andThen_ok]
  exact hrun
theorem pMap_good (t : TypeId) : PlanGood P μ w (Instr.makeMap t none) pMap :=
  ⟨rfl, rfl, .map #[] 0, ⟨w.heap.size, 0, 0, 0, false⟩, .map (some w.heap.size), w.drawn, by simp [Instr.makeMap], rfl, fun μ' i _ hi =>
    ⟨⟨rfl, #[], by simp, .nil, .nil, by simp⟩, .map (m := ⟨w.heap.size, 0, 0, 0, false⟩) hi rfl⟩⟩

theorem pBuildSlice_good {t : TypeId} {len : Nat} {parts : List (Nat × AVal)} {parts' : Array (Nat × Value)} {p : APlan} (hb : pBuildSlice P t len parts = some p)
    (hv : VRs μ (parts.map (·.2)) (parts'.toList.map (·.2))) (hi : parts.map (·.1) = parts'.toList.map (·.1)) : PlanGood P μ w (Instr.buildSlice t len parts') p := by
  unfold pBuildSlice at hb
  split at hb
  · rename_i e hu
    simp only [Option.bind_eq_some_iff] at hb
    obtain ⟨sz, hs, z, hz, hb⟩ := hb
    split at hb
    · rename_i hc
      obtain ⟨hc1, hc2, hc3⟩ := hc
      simp only [Option.bind_eq_some_iff] at hb
      obtain ⟨cs, hf, hb⟩ := hb
      obtain ⟨Z, hZ, hZr⟩ := zeroCells_good (P := P) (μ := μ) (w := w) hz
      have hzl := hZr.length
      have hmany := VRs.many hZr len default
      rw [hc2] at hmany
      obtain ⟨C', hC', hr, hsz⟩ := aFill_good parts parts'.toList (manyT len z) _ cs hv hi hmany hf
      have hsz' : C'.size = len * sz := by rw [hsz]; simp
      have hcl := hr.length
      simp at hcl
      refine rowPlan_good hb (C := C') (fr := (0, 0)) (dr := w.drawn) (v' := .slice (some ⟨w.heap.size, 0, none⟩) len len) ?_ (by rw [List.take_of_length_le (by simp; omega)]; exact hr) (by omega) (fun _ => by omega) (by simp)
        (fun μ' i _ hi => .slice (m := ⟨w.heap.size, 0, cs.length, C'.size, false⟩) hi hc3 (Nat.le_refl _) (by simp; omega) (.inl rfl) (by simp; omega))
      have hZs : Z.cells.size = sz := by simp at hzl; omega
      by_cases h0 : len * sz = 0
      · have hl0 : len = 0 := by
          rcases Nat.mul_eq_zero.1 h0 with h' | h'
          · exact h'
          · omega
        subst hl0
        simp [range0] at hC'
        simp [Instr.buildSlice, und_run t hu, size_run e hs, hC', newRow, range0]
      · simp only [Instr.buildSlice, Sem.run_bind, und_run t hu, Result.andThen_ok, size_run e hs]
        rw [if_neg (by omega)]
        simp only [h0, if_false, Sem.run_bind, hZ, Result.andThen_ok, Sem.run_pure, getBang, hC']
        simp [newRow]
    · cases hb
  · cases hb

theorem pMakeSlice_good {t : TypeId} {l c : AVal} {p : APlan} (hb : pMakeSlice P t l c = some p) {lv cv : Value} (hl : VR μ l lv) (hc : VR μ c cv) : PlanGood P μ w (Instr.makeSlice t lv cv) p := by
  unfold pMakeSlice at hb
  split at hb
  · rename_i e k l k2 c hu
    simp only [Option.bind_eq_some_iff] at hb
    obtain ⟨sz, hs, by_, hby, z, hz, hb⟩ := hb
    split at hb
    · rename_i hcond
      obtain ⟨h1, h2, h3, h4, h5, h6⟩ := hcond
      cases hl; cases hc
      obtain ⟨Z, hZ, hZr⟩ := zeroCells_good (P := P) (μ := μ) (w := w) hz
      have hzl := hZr.length
      have hmany := VRs.many hZr c.toNat default
      rw [h5] at hmany
      obtain ⟨ti, hti, hbt⟩ := run_typeInfo_by (w := w) e hby
      have hml : (manyT c.toNat z).length = c.toNat * sz := by rw [manyT_length, h5]
      obtain ⟨C, hCe⟩ : ∃ C, C = (Array.range (c.toNat * sz)).map fun j => Z.cells.getD (j % Z.cells.size) default := ⟨_, rfl⟩
      rw [← hCe] at hmany
      have hCs : C.size = c.toNat * sz := by rw [hCe]; simp
      refine rowPlan_good hb (C := C) (fr := (0, 0)) (dr := w.drawn) (v' := .slice (some ⟨w.heap.size, 0, none⟩) l.toNat c.toNat) ?_ (by rw [List.take_of_length_le (by simp; omega)]; exact hmany) (by omega) (fun _ => by omega) (by simp)
        (fun μ' i _ hi => .slice (m := ⟨w.heap.size, 0, (manyT c.toNat z).length, C.size, false⟩) hi h6 (by omega) (by show 0 + c.toNat * sz ≤ (manyT c.toNat z).length; omega) (.inl rfl) (by show 0 + c.toNat * sz ≤ C.size; omega))
      have hwl : IntKind.i64.wrap l = l := by
        unfold IntKind.wrap; simp [IntKind.bits, IntKind.signed]; split <;> omega
      have hwc : IntKind.i64.wrap c = c := by
        unfold IntKind.wrap; simp [IntKind.bits, IntKind.signed]; split <;> omega
      have hZs : Z.cells.size = sz := by simp at hzl; omega
      simp only [Instr.makeSlice, Sem.run_bind, und_run t hu, Result.andThen_ok, asInt_good, hti, hwl, hwc, hbt]
      rw [if_neg (by simp only [Bool.or_eq_true, decide_eq_true_eq, not_or]; omega)]
      simp only [Sem.run_pure, Sem.run_bind, Result.andThen_ok, run_askRoom, size_run e hs]
      rw [hCe]
      by_cases h0 : c.toNat * sz = 0
      · simp [h0, newRow, range0]
      · simp only [h0, if_false, Sem.run_bind, hZ, Result.andThen_ok, Sem.run_pure, getBang]
        simp [newRow]
    · cases hb
  · cases hb

theorem pConvert_good {src dst : TypeId} {x : AVal} {p : APlan} (hc : pConvert P src dst x = some p) {xv : Value} (hx : VR μ x xv) : PlanGood P μ w (convert src dst xv) p := by
  unfold pConvert at hc
  split at hc
  · rename_i d e s hs hd
    split at hc
    · rename_i he
      split at hc
      · rename_i hl
        cases hx
        obtain ⟨nc, hnc⟩ : ∃ nc, nc = (Question.appendCap s.length 0 e).cut (w.tape w.drawn (.appendCap s.length 0 e)) := ⟨_, rfl⟩
        have hge : s.length ≤ nc := by rw [hnc]; exact cut_ge _ _ _ _
        obtain ⟨C, hC⟩ : ∃ C : Array Value, C = (s.toArray.map fun b => Value.int .u8 b.toNat) ++ Array.replicate (nc - s.length) (.int .u8 0) := ⟨_, rfl⟩
        have hCs : C.size = nc := by rw [hC]; simp; omega
        have hbl : (bytesOf s).length = s.length := by simp [bytesOf]
        refine rowPlan_good hc (C := C) (fr := (nc, nc + 1)) (dr := w.drawn + 1) (v' := .slice (some ⟨w.heap.size, 0, none⟩) s.length nc) ?_
          (by
            rw [hbl, hC]
            simp only [Array.toList_append]
            rw [List.take_append_of_le_length (by simp), List.take_of_length_le (by simp)]
            simpa using bytesOf_VRs s) (by omega) (by simp) (by intro o ho; simp only; omega)
          (fun μ' i _ hi => .slice (m := ⟨w.heap.size, 0, (bytesOf s).length, C.size, true⟩) hi (by omega) (Nat.le_refl _) (by show 0 + s.length * 1 ≤ (bytesOf s).length; omega)
            (.inr ⟨rfl, by show 0 + s.length * 1 = (bytesOf s).length; omega, hge⟩) (by show 0 + nc * 1 ≤ C.size; omega))
        have hcv : (convert src dst (.string ⟨s.toArray⟩)).run P w = (Conv.stringToBytes e ⟨s.toArray⟩).run P w := by
          simp only [convert, Sem.run_bind, und_run src hs, und_run dst hd, Result.andThen_ok, und_run e he]
        rw [hcv]
        simp only [Conv.stringToBytes, size_mk, Sem.run_bind, run_choose, Question.forced, Bool.false_eq_true, if_false, Result.andThen_ok, ← hnc]
        simp only [newRow, Sem.run_bind, run_newObj, Result.andThen_ok, Sem.run_pure, ← hC]
        have hsh : ({ w with heap := w.heap.push (Obj.cells C e), drawn := w.drawn + 1 } : World).shape? w.heap.size = some (e, nc) := by
          simp [World.shape?, hCs]
        simp only [markStringish, Sem.run_bind, run_shape, Result.andThen_ok, hsh, run_freeze]
        congr 1
        simp only [World.freeze]
        rw [if_neg (by omega)]
        simp only [World.mk.injEq, and_true]
        apply Array.ext_getElem?
        intro q
        rw [Array.getElem?_modify]
        by_cases hq : w.heap.size = q
        · subst hq; simp
        · rw [if_neg hq, Array.getElem?_push, Array.getElem?_push, if_neg (Ne.symm hq), if_neg (Ne.symm hq)]
      · cases hc
    · cases hc
  · cases hc

/-- A plan carried out: the block gets the next number. -/
theorem PlanGood.goodH (r : Rel μ h w) {s : Sem Value} {p : APlan} (g : PlanGood P μ w s p) : GoodH P μ h w s (p.2 h.n) (h.push p.1) := by
  obtain ⟨h1, h2, obj, m, v', dr, hrun, hcb, hall⟩ := g
  have hL := hall (muNew μ h.n m) h.n (muNew_le r m) (by simp [muNew])
  obtain ⟨hrel, hext⟩ := new_good r (b := p.1) hcb (by rw [h2]; simp) hL.1 dr
  exact ⟨v', _, _, hrun, hL.2, hrel, hext⟩
end Go.Proofs.Ytfppdfmffdkogaa.AI
