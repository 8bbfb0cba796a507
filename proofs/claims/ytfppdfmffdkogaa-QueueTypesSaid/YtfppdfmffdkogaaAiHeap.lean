/- Reading, writing and making memory: the abstract heap and the model's. -/
import Derived.Test.YtfppdfmffdkogaaAiPure
namespace Go.Proofs.Ytfppdfmffdkogaa.AI
open Go

variable {P : Program} {μ : Mu} {h : AH} {w : World}

/-- The world with another block number cb. -/
def put (w : World) (cb : Nat) (o : Obj) : World := { w with heap := w.heap.setIfInBounds cb o }
theorem put_heap (w : World) (cb : Nat) (o : Obj) (k : Nat) (hc : cb < w.heap.size) : (put w cb o).heap[k]? = if k = cb then some o else w.heap[k]? := by
  simp only [put, Array.getElem?_setIfInBounds]
  by_cases e : cb = k
  · subst e; simp [hc]
  · rw [if_neg e, if_neg (Ne.symm e)]
@[simp] theorem put_size (w : World) (cb : Nat) (o : Obj) : (put w cb o).heap.size = w.heap.size := by simp [put]
theorem put_put (w : World) (cb : Nat) (o o' : Obj) : put (put w cb o) cb o' = put w cb o' := by simp [put]
theorem put_same {w : World} {cb : Nat} {o : Obj} (h : w.heap[cb]? = some o) : put w cb o = w := by
  cases w with
  | mk heap tape drawn os output =>
    simp only [put, World.mk.injEq, and_true]
    apply Array.ext_getElem?
    intro k
    rw [Array.getElem?_setIfInBounds]
    have hc : cb < heap.size := by
      rcases Nat.lt_or_ge cb heap.size with h' | h'
      · exact h'
      · rw [Array.getElem?_eq_none h'] at h; cases h
    split
    · rename_i e; subst e; exact h.symm
    · rfl
theorem setCell_put {w : World} {cb o : Nat} {C : Array Value} {e : TypeId} {fr : Nat × Nat} {v : Value} (hb : w.heap[cb]? = some (.cells C e fr)) :
    w.setCell ⟨cb, o, none⟩ v = put w cb (.cells (C.setIfInBounds o v) e fr) := by
  have hc : cb < w.heap.size := by
    rcases Nat.lt_or_ge cb w.heap.size with h' | h'
    · exact h'
    · rw [Array.getElem?_eq_none h'] at hb; cases hb
  simp only [World.setCell, put]
  congr 1
  apply Array.ext_getElem?
  intro k
  rw [Array.getElem?_modify, Array.getElem?_setIfInBounds]
  split
  · rename_i e; subst e; rw [hb]; simp
  · rfl

/-- Cells laid one by one. -/
def setAll : Array Value → Nat → List Value → Array Value
  | C, _, [] => C
  | C, k, v :: r => setAll (C.setIfInBounds k v) (k + 1) r
theorem setAll_size : ∀ (vs : List Value) (C : Array Value) (k : Nat), (setAll C k vs).size = C.size
  | [], _, _ => rfl
  | v :: r, C, k => by simp only [setAll]; rw [setAll_size r]; simp
theorem setAll_get : ∀ (vs : List Value) (C : Array Value) (k : Nat), k + vs.length ≤ C.size → ∀ j, (setAll C k vs)[j]? = if k ≤ j ∧ j < k + vs.length then vs[j - k]? else C[j]?
  | [], C, k, _, j => by simp only [setAll, List.length_nil]; rw [if_neg (by omega)]
  | v :: r, C, k, hl, j => by
      simp only [setAll]
      rw [setAll_get r _ _ (by simp at hl ⊢; omega)]
      simp only [List.length_cons] at hl ⊢
      by_cases h1 : k + 1 ≤ j ∧ j < k + 1 + r.length
      · rw [if_pos h1, if_pos (by omega), show j - k = (j - (k + 1)) + 1 by omega, List.getElem?_cons_succ]
      · rw [if_neg h1, Array.getElem?_setIfInBounds]
        by_cases h2 : k = j
        · subst h2; rw [if_pos rfl, if_pos (by omega), if_pos (by omega)]; simp
        · rw [if_neg h2, if_neg (by omega)]

theorem storeCells_run {cb off : Nat} {e : TypeId} {fr : Nat × Nat} : ∀ (vs : List Value) (i : Nat) (C : Array Value) (w : World), w.heap[cb]? = some (.cells C e fr) → off + i + vs.length ≤ C.size →
    (∀ v ∈ vs, v.oneCell' = true) → (∀ o, off + i ≤ o → o < off + i + vs.length → ¬ (fr.1 ≤ o ∧ o < fr.2)) →
    (storeCells ⟨cb, off, none⟩ vs i).run P w = .ok () (put w cb (.cells (setAll C (off + i) vs) e fr))
  | [], i, C, w, hb, _, _, _ => by simp [storeCells, setAll, put_same hb]
  | v :: r, i, C, w, hb, hl, h1, hf => by
      have hadd : Addr.add ⟨cb, off, none⟩ i = ⟨cb, off + i, none⟩ := by unfold Addr.add; split <;> simp_all
      have hc : cb < w.heap.size := by
        rcases Nat.lt_or_ge cb w.heap.size with h' | h'
        · exact h'
        · rw [Array.getElem?_eq_none h'] at hb; cases hb
      simp only [List.length_cons] at hl hf
      have hcell : ∃ x, w.cell? ⟨cb, off + i, none⟩ = some x := by
        simp only [World.cell?, hb]
        exact ⟨C[off + i]'(by omega), by simp⟩
      obtain ⟨x, hx⟩ := hcell
      have hfz : w.frozen? ⟨cb, off + i, none⟩ = false := by
        have := hf (off + i) (by omega) (by omega)
        obtain ⟨lo, hi⟩ := fr
        simp only [World.frozen?, hb]
        simpa using this
      have hstore : (store ⟨cb, off + i, none⟩ v).run P w = .ok () (w.setCell ⟨cb, off + i, none⟩ v) := by
        rw [run_store P w _ v .plain (h1 v (by simp)), hx, hfz]
        simp
      simp only [storeCells, hadd, Sem.run_bind, hstore, Result.andThen_ok, setCell_put hb]
      rw [storeCells_run (e := e) (fr := fr) r (i + 1) (C.setIfInBounds (off + i) v) (put w cb (.cells (C.setIfInBounds (off + i) v) e fr)) (by rw [put_heap _ _ _ _ hc]; simp) (by simp; omega) (fun v hv => h1 v (by simp [hv])) (fun o ho1 ho2 => hf o (by omega) (by omega))]
      rw [put_put]
      rfl

theorem loadCellsFrom_run {cb off : Nat} {C : Array Value} {e : TypeId} {fr : Nat × Nat} (hb : w.heap[cb]? = some (.cells C e fr)) : ∀ (n i : Nat) (acc : Array Value), off + i + n ≤ C.size →
    (loadCellsFrom ⟨cb, off, none⟩ i n acc).run P w = .ok (acc ++ C.extract (off + i) (off + i + n)) w
  | 0, i, acc, _ => by simp [loadCellsFrom]; omega
  | n + 1, i, acc, hl => by
      have hadd : Addr.add ⟨cb, off, none⟩ i = ⟨cb, off + i, none⟩ := by unfold Addr.add; split <;> simp_all
      have hcell : w.cell? ⟨cb, off + i, none⟩ = some (C[off + i]'(by omega)) := by
        simp only [World.cell?, hb]; simp
      simp only [loadCellsFrom, hadd, Sem.run_bind, run_load, hcell, Result.andThen_ok]
      rw [loadCellsFrom_run hb n (i + 1) _ (by omega)]
      congr 1
      apply Array.ext'
      simp only [Array.toList_append, Array.toList_push, Array.toList_extract, List.extract_eq_take_drop, List.append_assoc]
      congr 1
      rw [show off + i + (n + 1) - (off + i) = n + 1 by omega, show off + (i + 1) + n - (off + (i + 1)) = n by omega]
      rw [List.drop_eq_getElem_cons (i := off + i) (by simp; omega)]
      simp [Nat.add_assoc]
theorem loadCells_run {cb off n : Nat} {C : Array Value} {e : TypeId} {fr : Nat × Nat} (hb : w.heap[cb]? = some (.cells C e fr)) (hl : off + n ≤ C.size) :
    (loadCells ⟨cb, off, none⟩ n).run P w = .ok (C.extract off (off + n)) w := by
  unfold loadCells
  rw [loadCellsFrom_run hb n 0 #[] (by omega)]
  simp

/-- What a row that may be read is like in the model. -/
theorem Rel.row (r : Rel μ h w) {i : Nat} {m : MuAt} {cs : List AVal} (hm : μ i = some m) (hr : h.row i = some cs) :
    m.len = cs.length ∧ m.len ≤ m.room ∧ ∃ C e fr, w.heap[m.cb]? = some (.cells C e fr) ∧ m.base + m.room ≤ C.size ∧ VRs μ cs ((C.toList.drop m.base).take cs.length) := by
  unfold AH.row at hr
  split at hr
  · rename_i cs' e o md par hg
    split at hr
    · cases hr
    · rename_i hd
      simp only [Option.some.injEq] at hr
      subst hr
      obtain ⟨h1, h2, h3, h4, C, e', fr, h5, h6, h7, _⟩ := r.lies i m _ hm hg hd
      exact ⟨h1, h3, C, e', fr, h5, h6, h7⟩
  · cases hr

theorem aLoad_good (r : Rel μ h w) {t : TypeId} {a v : AVal} (hv : aLoad P t a h = some v) {av : Value} (ha : VR μ a av) : Good P μ w (Instr.loadAt t av) v := by
  unfold aLoad at hv
  split at hv
  · rename_i i off
    simp only [Option.bind_eq_some_iff] at hv
    obtain ⟨cs, hcs, hp⟩ := hv
    cases ha with
    | ptr hm =>
      rename_i m
      obtain ⟨hl, hroom, C, e, fr, hb, hsz, hC⟩ := r.row hm hcs
      unfold partT at hp
      split at hp
      · rename_i n hagg hn
        split at hp
        · rename_i hle
          simp only [Option.some.injEq] at hp
          subst hp
          refine ⟨_, by simp only [Instr.loadAt, Instr.sureAddr, loadVar, Sem.run_bind, Sem.run_pure, Result.andThen_ok, agg_run t hagg, if_true, size_run t hn, loadCells_run hb (show m.base + off + n ≤ C.size by omega)]; rfl, ?_⟩
          refine .agg ?_
          have e1 : (C.extract (m.base + off) (m.base + off + n)).toList = (((C.toList.drop m.base).take cs.length).drop off).take n := by
            rw [Array.toList_extract, List.extract_eq_take_drop, show m.base + off + n - (m.base + off) = n by omega, List.drop_take, List.drop_drop, List.take_take, Nat.min_eq_left (by omega)]
          rw [e1]
          exact (hC.drop off).take n
        · cases hp
      · rename_i n hagg hn
        obtain ⟨y, hy, hv⟩ := hC.get hp
        have hlt : off < cs.length := by
          rcases Nat.lt_or_ge off cs.length with h' | h'
          · exact h'
          · rw [List.getElem?_eq_none h'] at hp; cases hp
        rw [List.getElem?_take_of_lt hlt, List.getElem?_drop] at hy
        refine ⟨y, ?_, hv⟩
        have hcell : w.cell? ⟨m.cb, m.base + off, none⟩ = some y := by
          simp only [World.cell?, hb]
          simpa using hy
        simp [Instr.loadAt, Instr.sureAddr, loadVar, agg_run t hagg, hcell]
      · cases hp
  · cases hv

/-! ### Writing -/
theorem get_kill1 (h : AH) (p j : Nat) : (h.kill1 p).get j = if j = p then (h.get p).map fun b => { b with mode := .dead } else h.get j := by
  unfold AH.kill1
  split
  · rename_i b hb
    rw [AH.get_set]
    split <;> simp_all
  · rename_i hb
    split
    · rename_i e; subst e; simp [hb]
    · rfl
@[simp] theorem n_kill1 (h : AH) (p : Nat) : (h.kill1 p).n = h.n := by unfold AH.kill1; split <;> rfl
theorem get_kill : ∀ (ps : List Nat) (h : AH) (j : Nat), (h.kill ps).get j = if j ∈ ps then (h.get j).map fun b => { b with mode := .dead } else h.get j
  | [], h, j => by simp [AH.kill]
  | p :: ps, h, j => by
      have e : h.kill (p :: ps) = (h.kill1 p).kill ps := rfl
      rw [e, get_kill ps, get_kill1]
      by_cases h1 : j = p
      · subst h1
        by_cases h2 : j ∈ ps
        · simp [h2]
          cases h.get j <;> simp
        · simp [h2]
      · simp [h1]
@[simp] theorem n_kill : ∀ (ps : List Nat) (h : AH), (h.kill ps).n = h.n
  | [], _ => rfl
  | p :: ps, h => by have e : h.kill (p :: ps) = (h.kill1 p).kill ps := rfl; rw [e, n_kill ps, n_kill1]

theorem splice_length {cs vs : List AVal} {off : Nat} (h : off + vs.length ≤ cs.length) : (splice cs off vs).length = cs.length := by
  simp [splice]; omega

/-- A block of rows may be written. -/
theorem write_good (r : Rel μ h w) {i off : Nat} {vs : List AVal} {h' : AH} (hw : h.write i off vs = some h') {m : MuAt} (hm : μ i = some m) {vs' : List Value} (hv : VRs μ vs vs') :
    ∃ w', (storeCells ⟨m.cb, m.base + off, none⟩ vs').run P w = .ok () w' ∧ Rel μ h' w' ∧ Ext μ h w μ h' w' := by
  unfold AH.write at hw
  split at hw
  · rename_i cs e o par hg
    split at hw
    · rename_i hle
      obtain ⟨hle, hcell⟩ := hle
      simp only [Option.some.injEq] at hw
      subst hw
      obtain ⟨hl, hop, hroom, hcl, C, e', fr, hb, hsz, hC, hel, hfz⟩ := r.lies i m _ hm hg (by simp)
      have hlen := hv.length
      have hone : ∀ v ∈ vs', v.oneCell' = true := by
        intro v hvm
        obtain ⟨k, hk, hkv⟩ := List.mem_iff_getElem.1 hvm
        have hk' : k < vs.length := by omega
        obtain ⟨y, hy, hvr⟩ := hv.get (List.getElem?_eq_getElem hk')
        rw [List.getElem?_eq_getElem hk] at hy
        simp only [Option.some.injEq] at hy
        rw [← hkv, hy]
        exact hvr.oneCell (List.all_eq_true.1 hcell _ (List.getElem_mem hk'))
      have hcb := r.hi i m hm
      refine ⟨_, storeCells_run vs' 0 C w hb (by omega) hone (fun o ho1 ho2 => hfz rfl o (by omega) (by omega)), ?_, ?_⟩
      · -- Rel
        have hget : ∀ j, ((h.kill par).set i ⟨.row (splice cs off vs) e o, .rw, []⟩).get j = if j = i then some ⟨.row (splice cs off vs) e o, .rw, []⟩ else if j ∈ par then (h.get j).map fun b => { b with mode := .dead } else h.get j := by
          intro j; rw [AH.get_set, get_kill]
        have hother : ∀ j mj bj, j ≠ i → μ j = some mj → h.get j = some bj → bj.mode ≠ .dead → j ∉ par → mj.cb ≠ m.cb := by
          intro j mj bj hji hmj hgj hdj hp hcbe
          exact hp (r.excl i j m mj _ bj (Ne.symm hji) hm hmj hcbe.symm hg hgj rfl hdj).1
        refine ⟨fun j mj hj => by rw [AH.n_set, n_kill]; exact r.dom j mj hj, fun j mj hj => by rw [put_size]; exact r.hi j mj hj, ?_, ?_, ?_, ?_⟩
        · intro j mj hj
          rw [hget]
          obtain ⟨b, hb⟩ := r.has j mj hj
          split
          · exact ⟨_, rfl⟩
          · split
            · exact ⟨_, by rw [hb]; rfl⟩
            · exact ⟨b, hb⟩
        · intro j mj bj hj hgj hdj
          rw [hget] at hgj
          by_cases hji : j = i
          · subst hji
            rw [if_pos rfl] at hgj
            simp only [Option.some.injEq] at hgj
            subst hgj
            rw [hm] at hj
            simp only [Option.some.injEq] at hj
            subst hj
            refine ⟨by rw [splice_length hle]; exact hl, hop, hroom, hcl, setAll C (m.base + off + 0) vs', e', fr, by rw [put_heap _ _ _ _ hcb, if_pos rfl], by rw [setAll_size]; exact hsz, ?_, fun _ => hel (by simp), fun _ => hfz rfl⟩
            have hlen2 : (splice cs off vs).length = cs.length := splice_length hle
            have hclen : cs.length ≤ C.size - m.base := by omega
            refine VRs.of_get ?_ ?_
            · rw [hlen2]; simp [setAll_size]; omega
            · intro k x y hx hy
              have hk : k < cs.length := by
                rcases Nat.lt_or_ge k cs.length with h' | h'
                · exact h'
                · rw [List.getElem?_eq_none (by omega)] at hx; cases hx
              rw [hlen2, List.getElem?_take_of_lt hk, List.getElem?_drop] at hy
              have hy' : (setAll C (m.base + off + 0) vs')[m.base + k]? = some y := by simpa using hy
              rw [setAll_get _ _ _ (by omega)] at hy'
              simp only [splice, List.append_assoc] at hx
              by_cases h1 : k < off
              · rw [List.getElem?_append_left (by simp; omega), List.getElem?_take_of_lt h1] at hx
                rw [if_neg (by omega)] at hy'
                obtain ⟨z, hz, hzr⟩ := hC.get hx
                rw [List.getElem?_take_of_lt hk, List.getElem?_drop] at hz
                have : C[m.base + k]? = some z := by simpa using hz
                rw [this] at hy'
                simp only [Option.some.injEq] at hy'
                rw [← hy']; exact hzr
              · rw [List.getElem?_append_right (by simp; omega)] at hx
                simp only [List.length_take] at hx
                rw [show min off cs.length = off by omega] at hx
                by_cases h2 : k - off < vs.length
                · rw [List.getElem?_append_left h2] at hx
                  rw [if_pos (by omega), show m.base + k - (m.base + off + 0) = k - off by omega] at hy'
                  obtain ⟨z, hz, hzr⟩ := hv.get hx
                  rw [hz] at hy'
                  simp only [Option.some.injEq] at hy'
                  rw [← hy']; exact hzr
                · rw [List.getElem?_append_right (by omega), List.getElem?_drop, show off + vs.length + (k - off - vs.length) = k by omega] at hx
                  rw [if_neg (by omega)] at hy'
                  obtain ⟨z, hz, hzr⟩ := hC.get hx
                  rw [List.getElem?_take_of_lt hk, List.getElem?_drop] at hz
                  have : C[m.base + k]? = some z := by simpa using hz
                  rw [this] at hy'
                  simp only [Option.some.injEq] at hy'
                  rw [← hy']; exact hzr
          · rw [if_neg hji] at hgj
            by_cases hp : j ∈ par
            · rw [if_pos hp] at hgj
              simp only [Option.map_eq_some_iff] at hgj
              obtain ⟨b, _, rfl⟩ := hgj
              exact absurd rfl hdj
            · rw [if_neg hp] at hgj
              have hne := hother j mj bj hji hj hgj hdj hp
              have hL := r.lies j mj bj hj hgj hdj
              have hh : (put w m.cb (.cells (setAll C (m.base + off + 0) vs') e' fr)).heap[mj.cb]? = w.heap[mj.cb]? := by rw [put_heap _ _ _ _ hcb, if_neg hne]
              unfold Lies at hL ⊢
              rw [hh]
              exact hL
        · intro a b ma mb ba bb hab ha hb' hcbe hga hgb hra hdb
          rw [hget] at hga hgb
          by_cases hai : a = i
          · subst hai
            exfalso
            rw [if_neg (Ne.symm hab)] at hgb
            by_cases hp : b ∈ par
            · rw [if_pos hp] at hgb
              simp only [Option.map_eq_some_iff] at hgb
              obtain ⟨x, _, rfl⟩ := hgb
              exact hdb rfl
            · rw [if_neg hp] at hgb
              rw [hm] at ha
              simp only [Option.some.injEq] at ha
              subst ha
              exact hother b mb bb (Ne.symm hab) hb' hgb hdb hp hcbe.symm
          · rw [if_neg hai] at hga
            by_cases hpa : a ∈ par
            · rw [if_pos hpa] at hga
              simp only [Option.map_eq_some_iff] at hga
              obtain ⟨x, _, rfl⟩ := hga
              cases hra
            · rw [if_neg hpa] at hga
              by_cases hbi : b = i
              · subst hbi
                rw [hm] at hb'
                simp only [Option.some.injEq] at hb'
                subst hb'
                exact absurd hcbe (hother a ma ba hai ha hga (by rw [hra]; simp) hpa)
              · rw [if_neg hbi] at hgb
                by_cases hpb : b ∈ par
                · rw [if_pos hpb] at hgb
                  simp only [Option.map_eq_some_iff] at hgb
                  obtain ⟨x, _, rfl⟩ := hgb
                  exact absurd rfl hdb
                · rw [if_neg hpb] at hgb
                  exact r.excl a b ma mb ba bb hab ha hb' hcbe hga hgb hra hdb
        · intro j mj bj hj hgj p hp
          rw [hget] at hgj
          by_cases hji : j = i
          · rw [if_pos hji] at hgj
            simp only [Option.some.injEq] at hgj
            subst hgj
            simp at hp
          · rw [if_neg hji] at hgj
            by_cases hpj : j ∈ par
            · rw [if_pos hpj] at hgj
              simp only [Option.map_eq_some_iff] at hgj
              obtain ⟨b, hb, rfl⟩ := hgj
              exact r.par j mj b hj hb p hp
            · rw [if_neg hpj] at hgj
              exact r.par j mj bj hj hgj p hp
      · -- Ext
        refine ⟨by simp, fun _ _ => rfl, ?_, rfl, rfl, rfl, by simp, ?_, ?_⟩
        · intro j hj hmj
          rw [AH.get_set, get_kill]
          have hji : j ≠ i := fun e => by rw [e, hm] at hmj; cases hmj
          rw [if_neg hji]
          split
          · rename_i hp
            obtain ⟨m', hm', _⟩ := r.par i m _ hm hg j hp
            rw [hm'] at hmj; cases hmj
          · rfl
        · intro cb hc hn
          rw [put_heap _ _ _ _ hcb]
          split
          · rename_i e2
            exact absurd ⟨i, m, _, hm, e2.symm, hg, rfl⟩ hn
          · rfl
        · rintro cb hc ⟨j, mj, bj, hj, hcj, hgj, hrj⟩
          rw [AH.get_set, get_kill] at hgj
          by_cases hji : j = i
          · subst hji
            exact ⟨j, mj, _, hj, hcj, hg, rfl⟩
          · rw [if_neg hji] at hgj
            split at hgj
            · simp only [Option.map_eq_some_iff] at hgj
              obtain ⟨b, _, rfl⟩ := hgj
              cases hrj
            · exact ⟨j, mj, bj, hj, hcj, hgj, hrj⟩
    · cases hw
  · cases hw
end Go.Proofs.Ytfppdfmffdkogaa.AI
