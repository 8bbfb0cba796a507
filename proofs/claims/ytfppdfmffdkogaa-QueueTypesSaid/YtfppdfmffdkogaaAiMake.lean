/- Memory that is made, and memory that is appended to. -/
import Derived.Test.YtfppdfmffdkogaaAiHeap
namespace Go.Proofs.Ytfppdfmffdkogaa.AI
open Go

variable {P : Program} {μ : Mu} {h : AH} {w : World}

theorem Lies.mono {μ μ' : Mu} {H H' : Array Obj} {m : MuAt} {b : ABlk} (hL : Lies μ H m b) (hμ : μ.le μ') (hH : H'[m.cb]? = H[m.cb]?) : Lies μ' H' m b := by
  unfold Lies at *
  rw [hH]
  split
  · rename_i hb
    rw [hb] at hL
    simp only at hL
    obtain ⟨h1, h2, h3, h4, C, e, fr, h5, h6, h7, h8⟩ := hL
    exact ⟨h1, h2, h3, h4, C, e, fr, h5, h6, h7.mono hμ, h8⟩
  · rename_i hb
    rw [hb] at hL
    simp only at hL
    obtain ⟨h1, E, h2, h3, h4, h5⟩ := hL
    exact ⟨h1, E, h2, h3.mono hμ, h4.mono hμ, h5⟩
  · rename_i hb
    rw [hb] at hL
    simp only at hL
    exact hL

/-- A mode that says less. -/
def AMode.below : AMode → AMode → Prop
  | _, .dead => True
  | .rw, .sup => True
  | a, b => a = b
theorem AMode.below_refl (a : AMode) : a.below a := by cases a <;> simp [AMode.below]

/-- h' is h, but that some blocks may be used for less. -/
structure Lower (μ : Mu) (h h' : AH) : Prop where
  n : h'.n = h.n
  get : ∀ i, (h'.get i = h.get i) ∨ ∃ m b md, μ i = some m ∧ h.get i = some b ∧ h'.get i = some { b with mode := md } ∧ b.mode.below md

theorem Lower.rel {h' : AH} (r : Rel μ h w) (l : Lower μ h h') : Rel μ h' w := by
  have back : ∀ i b', h'.get i = some b' → ∃ b, h.get i = some b ∧ b' = { b with mode := b'.mode } ∧ b.mode.below b'.mode := by
    intro i b' hb'
    rcases l.get i with e | ⟨m, b, md, _, hb, hb2, hlo⟩
    · rw [e] at hb'; exact ⟨b', hb', rfl, AMode.below_refl _⟩
    · rw [hb2] at hb'
      simp only [Option.some.injEq] at hb'
      subst hb'
      exact ⟨b, hb, rfl, hlo⟩
  refine ⟨fun i m hi => by rw [l.n]; exact r.dom i m hi, r.hi, ?_, ?_, ?_, ?_⟩
  · intro i m hi
    obtain ⟨b, hb⟩ := r.has i m hi
    rcases l.get i with e | ⟨_, _, _, _, _, hb2, _⟩
    · exact ⟨b, by rw [e]; exact hb⟩
    · exact ⟨_, hb2⟩
  · intro i m b' hi hb' hd
    obtain ⟨b, hb, hbe, hlo⟩ := back i b' hb'
    have hbd : b.mode ≠ .dead := by
      intro e; rw [e] at hlo
      cases hmd : b'.mode <;> rw [hmd] at hlo hd <;> simp [AMode.below] at hlo hd
    have hL := r.lies i m b hi hb hbd
    rw [hbe]
    unfold Lies at *
    simp only
    split
    · rename_i hbo
      rw [hbo] at hL
      simp only at hL
      obtain ⟨h1, h2, h3, h4, C, e, fr, h5, h6, h7, h8, h9⟩ := hL
      refine ⟨h1, h2, h3, h4, C, e, fr, h5, h6, h7, fun hne => h8 ?_, fun hrw => h9 ?_⟩
      · intro e; rw [e] at hlo
        cases hmd : b'.mode <;> rw [hmd] at hlo hne hd <;> simp [AMode.below] at hlo hne hd
      · rw [hrw] at hlo
        cases hmd : b.mode <;> rw [hmd] at hlo <;> simp [AMode.below] at hlo
    · rename_i hbo; rw [hbo] at hL; exact hL
    · rename_i hbo; rw [hbo] at hL; exact hL
  · intro i j mi mj bi bj hij hi hj hcb hbi hbj hri hdj
    obtain ⟨bi0, hbi0, hbie, hloi⟩ := back i bi hbi
    obtain ⟨bj0, hbj0, hbje, hloj⟩ := back j bj hbj
    have hri0 : bi0.mode = .rw := by
      rw [hri] at hloi
      cases hmd : bi0.mode <;> rw [hmd] at hloi <;> simp [AMode.below] at hloi
    have hdj0 : bj0.mode ≠ .dead := by
      intro e; rw [e] at hloj
      cases hmd : bj.mode <;> rw [hmd] at hloj hdj <;> simp [AMode.below] at hloj hdj
    obtain ⟨hp, hs⟩ := r.excl i j mi mj bi0 bj0 hij hi hj hcb hbi0 hbj0 hri0 hdj0
    refine ⟨by rw [hbie]; exact hp, ?_⟩
    rw [hs] at hloj
    cases hmd : bj.mode <;> rw [hmd] at hloj hdj <;> simp [AMode.below] at hloj hdj
  · intro i m b' hi hb' p hp
    obtain ⟨b, hb, hbe, hlo⟩ := back i b' hb'
    rw [hbe] at hp
    exact r.par i m b hi hb p hp

theorem Lower.ext {h' : AH} (l : Lower μ h h') : Ext μ h w μ h' w := by
  refine ⟨by rw [l.n]; exact Nat.le_refl _, fun _ _ => rfl, ?_, rfl, rfl, rfl, Nat.le_refl _, fun _ _ _ => rfl, ?_⟩
  · intro i _ hi
    rcases l.get i with e | ⟨m, _, _, hm, _⟩
    · exact e
    · rw [hi] at hm; cases hm
  · rintro cb _ ⟨i, m, b', hi, hcb, hb', hr⟩
    rcases l.get i with e | ⟨_, b, md, _, hb, hb2, hlo⟩
    · rw [e] at hb'; exact ⟨i, m, b', hi, hcb, hb', hr⟩
    · rw [hb2] at hb'
      simp only [Option.some.injEq] at hb'
      subst hb'
      simp only at hr
      rw [hr] at hlo
      refine ⟨i, m, b, hi, hcb, hb, ?_⟩
      cases hmd : b.mode <;> rw [hmd] at hlo <;> simp [AMode.below] at hlo

def muNew (μ : Mu) (i : Nat) (m : MuAt) : Mu := fun j => if j = i then some m else μ j
theorem muNew_le (r : Rel μ h w) (m : MuAt) : μ.le (muNew μ h.n m) := fun i m' hi => by
  have := r.dom i m' hi
  simp only [muNew]
  rw [if_neg (by omega)]; exact hi

/-- A new block. -/
theorem new_good (r : Rel μ h w) {b : ABlk} {m : MuAt} {o : Obj} (hcb : m.cb = w.heap.size) (hpar : ∀ p ∈ b.par, ∃ m', μ p = some m')
    (hL : Lies (muNew μ h.n m) (w.heap.push o) m b) (dr : Nat) :
    Rel (muNew μ h.n m) (h.push b) { w with heap := w.heap.push o, drawn := dr } ∧ Ext μ h w (muNew μ h.n m) (h.push b) { w with heap := w.heap.push o, drawn := dr } := by
  have hle := muNew_le r m
  have hold : ∀ j mj, μ j = some mj → j ≠ h.n := fun j mj hj e => by have := r.dom j mj hj; omega
  have hheap : ∀ k, k < w.heap.size → (w.heap.push o)[k]? = w.heap[k]? := fun k hk => by rw [Array.getElem?_push, if_neg (by omega)]
  constructor
  · refine ⟨?_, ?_, ?_, ?_, ?_, ?_⟩
    · intro i mi hi
      simp only [muNew] at hi
      split at hi
      · simp only [AH.n_push]; omega
      · have := r.dom i mi hi; simp only [AH.n_push]; omega
    · intro i mi hi
      simp only [muNew] at hi
      simp only [Array.size_push]
      split at hi
      · simp only [Option.some.injEq] at hi; subst hi; omega
      · have := r.hi i mi hi; omega
    · intro i mi hi
      simp only [muNew] at hi
      rw [AH.get_push]
      split at hi
      · rename_i e; rw [if_pos e]; exact ⟨_, rfl⟩
      · rename_i e; rw [if_neg e]; exact r.has i mi hi
    · intro i mi bi hi hbi hd
      simp only [muNew] at hi
      rw [AH.get_push] at hbi
      split at hi
      · rename_i e
        rw [if_pos e] at hbi
        simp only [Option.some.injEq] at hi hbi
        subst hi hbi
        exact hL
      · rename_i e
        rw [if_neg e] at hbi
        exact (r.lies i mi bi hi hbi hd).mono hle (hheap _ (r.hi i mi hi))
    · intro i j mi mj bi bj hij hi hj hcbe hbi hbj hri hdj
      simp only [muNew] at hi hj
      rw [AH.get_push] at hbi hbj
      split at hi
      · rename_i ei
        split at hj
        · omega
        · simp only [Option.some.injEq] at hi
          subst hi
          have := r.hi j mj hj
          omega
      · rename_i ei
        split at hj
        · simp only [Option.some.injEq] at hj
          subst hj
          have := r.hi i mi hi
          omega
        · rename_i ej
          rw [if_neg ei] at hbi
          rw [if_neg ej] at hbj
          exact r.excl i j mi mj bi bj hij hi hj hcbe hbi hbj hri hdj
    · intro i mi bi hi hbi p hp
      simp only [muNew] at hi
      rw [AH.get_push] at hbi
      split at hi
      · rename_i ei
        rw [if_pos ei] at hbi
        simp only [Option.some.injEq] at hi hbi
        subst hi hbi
        obtain ⟨m', hm'⟩ := hpar p hp
        refine ⟨m', hle p m' hm', fun e => ?_⟩
        have := r.hi p m' hm'
        omega
      · rename_i ei
        rw [if_neg ei] at hbi
        obtain ⟨m', hm', hx⟩ := r.par i mi bi hi hbi p hp
        exact ⟨m', hle p m' hm', hx⟩
  · refine ⟨by simp, ?_, ?_, rfl, rfl, rfl, by simp, fun cb hc _ => hheap cb hc, ?_⟩
    · intro i hi; simp only [muNew]; rw [if_neg (by omega)]
    · intro i hi _; rw [AH.get_push, if_neg (by omega)]
    · rintro cb hc ⟨i, mi, bi, hi, hcbi, hbi, hri⟩
      simp only [muNew] at hi
      rw [AH.get_push] at hbi
      split at hi
      · simp only [Option.some.injEq] at hi; subst hi; omega
      · rename_i e; rw [if_neg e] at hbi; exact ⟨i, mi, bi, hi, hcbi, hbi, hri⟩

/-- A new row. -/
theorem newRow_good (r : Rel μ h w) {cs : List AVal} {e : TypeId} {opn : Bool} {par : List Nat} {C : Array Value} {fr : Nat × Nat} (hC : VRs μ cs (C.toList.take cs.length)) (hlen : cs.length ≤ C.size)
    (hop : opn = false → C.size = cs.length) (hpar : ∀ p ∈ par, ∃ m', μ p = some m') (hfr : ∀ o, o < C.size → ¬ (fr.1 ≤ o ∧ o < fr.2)) (dr : Nat) :
    Rel (muNew μ h.n ⟨w.heap.size, 0, cs.length, C.size, opn⟩) (h.push ⟨.row cs e opn, .rw, par⟩) { w with heap := w.heap.push (.cells C e fr), drawn := dr } ∧
    Ext μ h w (muNew μ h.n ⟨w.heap.size, 0, cs.length, C.size, opn⟩) (h.push ⟨.row cs e opn, .rw, par⟩) { w with heap := w.heap.push (.cells C e fr), drawn := dr } := by
  refine new_good r rfl hpar ?_ dr
  refine ⟨rfl, rfl, hlen, hop, C, e, fr, by simp, by simp, ?_, fun _ => rfl, fun _ o _ ho => hfr o (by simpa using ho)⟩
  simpa using hC.mono (muNew_le r _)

/-- An append that lies in the memory at hand: block i (read alone from now on) goes on as a new one. -/
theorem grow_good {h1 : AH} (r : Rel μ h w) (l : Lower μ h h1) {i off k : Nat} {m : MuAt} {b : ABlk} {cs : List AVal} {e : TypeId} {opn : Bool} (hm : μ i = some m)
    (hg : h.get i = some b) (hb : b.obj = .row cs e opn) (hrw : b.mode = .rw) (hk : off + k ≤ cs.length) {par : List Nat}
    (hmode : ∀ b1, h1.get i = some b1 → b1.mode ≠ .rw)
    (hpar : ∀ p ∈ par, (p = i ∨ p ∈ b.par) ∧ off + k = cs.length)
    (hall : ∀ j, j = i ∨ j ∈ b.par → j ∈ par ∨ ∀ b1, h1.get j = some b1 → b1.mode = .dead)
    (hsup : ∀ b1, h1.get i = some b1 → b1.mode = .dead ∨ (off + k = cs.length ∧ b1.mode = .sup))
    (hdead : off + k ≠ cs.length → ∀ j ∈ b.par, ∀ b1, h1.get j = some b1 → b1.mode = .dead)
    {xs : List AVal} {xs' : List Value} (hx : VRs μ xs xs') (hcell : xs.all AVal.isCell = true) (hroom : off + k + xs.length ≤ m.room) :
    ∃ w', (storeCells ⟨m.cb, m.base + (off + k), none⟩ xs').run P w = .ok () w' ∧
      Rel (muNew μ h.n ⟨m.cb, m.base + off, k + xs.length, m.room - off, true⟩) (h1.push ⟨.row ((cs.drop off).take k ++ xs) e true, .rw, par⟩) w' ∧
      Ext μ h w (muNew μ h.n ⟨m.cb, m.base + off, k + xs.length, m.room - off, true⟩) (h1.push ⟨.row ((cs.drop off).take k ++ xs) e true, .rw, par⟩) w' := by
  have r1 := l.rel r
  have hL := r.lies i m b hm hg (by rw [hrw]; simp)
  unfold Lies at hL
  rw [hb] at hL
  simp only at hL
  obtain ⟨hl, hop, hroom0, hcl, C, e', fr, hbk, hsz, hC, hel, hfz⟩ := hL
  have hlen := hx.length
  have hone : ∀ v ∈ xs', v.oneCell' = true := by
    intro v hvm
    obtain ⟨q, hq, hqv⟩ := List.mem_iff_getElem.1 hvm
    have hq' : q < xs.length := by omega
    obtain ⟨y, hy, hvr⟩ := hx.get (List.getElem?_eq_getElem hq')
    rw [List.getElem?_eq_getElem hq] at hy
    simp only [Option.some.injEq] at hy
    rw [← hqv, hy]
    exact hvr.oneCell (List.all_eq_true.1 hcell _ (List.getElem_mem hq'))
  have hcb := r.hi i m hm
  have hn : h1.n = h.n := l.n
  have hle := muNew_le r ⟨m.cb, m.base + off, k + xs.length, m.room - off, true⟩
  -- who shares the model's block
  have hshare : ∀ j mj bj, j ≠ i → μ j = some mj → mj.cb = m.cb → h.get j = some bj → bj.mode ≠ .dead → j ∈ b.par ∧ bj.mode = .sup := fun j mj bj hji hmj hc hgj hd =>
    r.excl i j m mj b bj (Ne.symm hji) hm hmj hc.symm hg hgj hrw hd
  have hlive1 : ∀ j bj, h1.get j = some bj → bj.mode ≠ .dead → ∃ b0, h.get j = some b0 ∧ b0.mode ≠ .dead ∧ bj = { b0 with mode := bj.mode } ∧ b0.mode.below bj.mode := by
    intro j bj hgj hd
    rcases l.get j with e1 | ⟨_, b0, md, _, hb0, hb1, hlo⟩
    · exact ⟨bj, by rw [← e1]; exact hgj, hd, rfl, AMode.below_refl _⟩
    · rw [hb1] at hgj
      simp only [Option.some.injEq] at hgj
      subst hgj
      refine ⟨b0, hb0, ?_, rfl, hlo⟩
      intro ed; rw [ed] at hlo
      cases md <;> simp [AMode.below] at hlo hd
  have hclen : cs.length ≤ C.size - m.base := by omega
  refine ⟨_, storeCells_run (e := e') (fr := fr) xs' 0 C w hbk (by omega) hone (fun o ho1 ho2 => hfz hrw o (by omega) (by omega)), ?_, ?_⟩
  · refine ⟨?_, ?_, ?_, ?_, ?_, ?_⟩
    · intro j mj hj
      simp only [muNew] at hj
      simp only [AH.n_push]
      split at hj
      · omega
      · have := r.dom j mj hj; omega
    · intro j mj hj
      rw [put_size]
      simp only [muNew] at hj
      split at hj
      · simp only [Option.some.injEq] at hj; subst hj; exact hcb
      · exact r.hi j mj hj
    · intro j mj hj
      simp only [muNew] at hj
      rw [AH.get_push, hn]
      split at hj
      · rename_i e1; rw [if_pos e1]; exact ⟨_, rfl⟩
      · rename_i e1; rw [if_neg e1]; exact r1.has j mj hj
    · intro j mj bj hj hgj hd
      simp only [muNew] at hj
      rw [AH.get_push, hn] at hgj
      split at hj
      · rename_i e1
        rw [if_pos e1] at hgj
        simp only [Option.some.injEq] at hj hgj
        subst hj hgj
        refine ⟨by simp; omega, rfl, by simp only; omega, by simp, setAll C (m.base + (off + k) + 0) xs', e', fr, by rw [put_heap _ _ _ _ hcb, if_pos rfl], by rw [setAll_size]; simp only; omega, ?_, fun _ => hel (by rw [hrw]; simp), ?_⟩
        · have hlen3 : ((cs.drop off).take k ++ xs).length = k + xs.length := by simp; omega
          refine VRs.of_get ?_ ?_
          · rw [hlen3]; simp [setAll_size]; omega
          · intro q x y hxq hyq
            have hq : q < k + xs.length := by
              rcases Nat.lt_or_ge q (k + xs.length) with h' | h'
              · exact h'
              · rw [List.getElem?_eq_none (by omega)] at hxq; cases hxq
            rw [hlen3, List.getElem?_take_of_lt hq, List.getElem?_drop] at hyq
            have hy' : (setAll C (m.base + (off + k) + 0) xs')[m.base + off + q]? = some y := by simpa using hyq
            rw [setAll_get _ _ _ (by omega)] at hy'
            by_cases h2 : q < k
            · rw [List.getElem?_append_left (by simp; omega), List.getElem?_take_of_lt h2, List.getElem?_drop] at hxq
              rw [if_neg (by omega)] at hy'
              obtain ⟨z, hz, hzr⟩ := hC.get hxq
              rw [List.getElem?_take_of_lt (by omega), List.getElem?_drop] at hz
              have : C[m.base + off + q]? = some z := by rw [Nat.add_assoc]; simpa using hz
              rw [this] at hy'
              simp only [Option.some.injEq] at hy'
              rw [← hy']; exact hzr.mono hle
            · rw [List.getElem?_append_right (by simp; omega)] at hxq
              rw [show q - ((cs.drop off).take k).length = q - k by simp; omega] at hxq
              rw [if_pos (by omega), show m.base + off + q - (m.base + (off + k) + 0) = q - k by omega] at hy'
              obtain ⟨z, hz, hzr⟩ := hx.get hxq
              rw [hz] at hy'
              simp only [Option.some.injEq] at hy'
              rw [← hy']; exact hzr.mono hle
        · intro _ o ho1 ho2
          exact hfz hrw o (by simp only at ho1; omega) (by simp only at ho2; omega)
      · rename_i e1
        rw [if_neg e1] at hgj
        have hLj := (r1.lies j mj bj hj hgj hd)
        by_cases hc : mj.cb = m.cb
        · -- it shares the block: its cells lie ahead of what is laid
          have hbound : off + k = cs.length ∧ mj.base + mj.len ≤ m.base + m.len := by
            by_cases hji : j = i
            · subst hji
              rcases hsup bj hgj with h3 | ⟨h3, _⟩
              · exact absurd h3 hd
              · rw [hm] at hj
                simp only [Option.some.injEq] at hj
                subst hj
                exact ⟨h3, Nat.le_refl _⟩
            · obtain ⟨b0, hb0, hd0, _, _⟩ := hlive1 j bj hgj hd
              obtain ⟨hp, _⟩ := hshare j mj b0 hji hj hc hb0 hd0
              refine ⟨Classical.byContradiction fun hne => hd (hdead hne j hp bj hgj), ?_⟩
              obtain ⟨m', hm', hx'⟩ := r.par i m b hm hg j hp
              rw [hj] at hm'
              simp only [Option.some.injEq] at hm'
              subst hm'
              exact hx' hc
          have hnrw : bj.mode ≠ .rw := by
            intro hrj
            by_cases hji : j = i
            · subst hji; exact hmode bj hgj hrj
            · obtain ⟨b0, hb0, hd0, hbe, hlo⟩ := hlive1 j bj hgj hd
              obtain ⟨_, hs⟩ := hshare j mj b0 hji hj hc hb0 hd0
              rw [hs, hrj] at hlo
              simp [AMode.below] at hlo
          unfold Lies at hLj ⊢
          rw [hc, put_heap _ _ _ _ hcb, if_pos rfl]
          rw [hc] at hLj
          split
          · rename_i cj ej oj hbo
            rw [hbo] at hLj
            simp only at hLj
            obtain ⟨g1, g2, g3, g4, C2, e2, fr2, g5, g6, g7, g8, g9⟩ := hLj
            rw [hbk] at g5
            simp only [Option.some.injEq, Obj.cells.injEq] at g5
            obtain ⟨rfl, rfl, rfl⟩ := g5
            refine ⟨g1, g2, g3, g4, _, _, _, rfl, by rw [setAll_size]; exact g6, ?_, g8, fun hrj => absurd hrj hnrw⟩
            have : (((setAll C (m.base + (off + k) + 0) xs').toList.drop mj.base).take cj.length) = ((C.toList.drop mj.base).take cj.length) := by
              apply List.ext_getElem?
              intro q
              by_cases hq : q < cj.length
              · rw [List.getElem?_take_of_lt hq, List.getElem?_take_of_lt hq, List.getElem?_drop, List.getElem?_drop]
                have := setAll_get xs' C (m.base + (off + k) + 0) (by omega) (mj.base + q)
                rw [if_neg (by omega)] at this
                simpa using this
              · rw [List.getElem?_eq_none (by simp; omega), List.getElem?_eq_none (by simp; omega)]
            rw [this]
            exact g7.mono hle
          · rename_i hbo
            rw [hbo] at hLj
            simp only at hLj
            obtain ⟨_, E, g2, _⟩ := hLj
            rw [hbk] at g2; cases g2
          · rename_i hbo
            rw [hbo] at hLj
            simp only at hLj
            rw [hbk] at hLj; cases hLj.2
        · exact hLj.mono hle (by rw [put_heap _ _ _ _ hcb, if_neg hc])
    · intro a c ma mc ba bc hac ha hc' hcbe hga hgc hra hdc
      simp only [muNew] at ha hc'
      rw [AH.get_push, hn] at hga hgc
      split at ha
      · rename_i ea
        rw [if_pos ea] at hga
        simp only [Option.some.injEq] at ha hga
        subst ha hga
        split at hc'
        · omega
        · rename_i ec
          rw [if_neg ec] at hgc
          simp only at hcbe
          by_cases hci : c = i
          · subst hci
            rcases hsup bc hgc with h3 | ⟨_, h3⟩
            · exact absurd h3 hdc
            · rcases hall c (.inl rfl) with h4 | h4
              · exact ⟨h4, h3⟩
              · exact absurd (h4 bc hgc) hdc
          · obtain ⟨b0, hb0, hd0, hbe, hlo⟩ := hlive1 c bc hgc hdc
            obtain ⟨hp, hs⟩ := hshare c mc b0 hci hc' hcbe.symm hb0 hd0
            rcases hall c (.inr hp) with h4 | h4
            · refine ⟨h4, ?_⟩
              rw [hs] at hlo
              cases hmd : bc.mode <;> rw [hmd] at hlo hdc <;> simp [AMode.below] at hlo hdc
            · exact absurd (h4 bc hgc) hdc
      · rename_i ea
        rw [if_neg ea] at hga
        split at hc'
        · rename_i ec
          exfalso
          simp only [Option.some.injEq] at hc'
          subst hc'
          simp only at hcbe
          by_cases hai : a = i
          · subst hai; exact hmode ba hga hra
          · obtain ⟨b0, hb0, hd0, hbe, hlo⟩ := hlive1 a ba hga (by rw [hra]; simp)
            obtain ⟨_, hs⟩ := hshare a ma b0 hai ha hcbe hb0 hd0
            rw [hs, hra] at hlo
            simp [AMode.below] at hlo
        · rename_i ec
          rw [if_neg ec] at hgc
          exact r1.excl a c ma mc ba bc hac ha hc' hcbe hga hgc hra hdc
    · intro j mj bj hj hgj p hp
      simp only [muNew] at hj
      rw [AH.get_push, hn] at hgj
      split at hj
      · rename_i e1
        rw [if_pos e1] at hgj
        simp only [Option.some.injEq] at hj hgj
        subst hj hgj
        simp only at hp
        obtain ⟨hp', hfull⟩ := hpar p hp
        rcases hp' with rfl | hp'
        · exact ⟨m, hle _ _ hm, fun _ => by simp only; omega⟩
        · obtain ⟨m', hm', hx'⟩ := r.par i m b hm hg p hp'
          exact ⟨m', hle _ _ hm', fun hcc => by have := hx' hcc; simp only; omega⟩
      · rename_i e1
        rw [if_neg e1] at hgj
        obtain ⟨m', hm', hx'⟩ := r1.par j mj bj hj hgj p hp
        exact ⟨m', hle _ _ hm', hx'⟩
  · refine ⟨by simp [hn], ?_, ?_, rfl, rfl, rfl, by simp, ?_, ?_⟩
    · intro j hj; simp only [muNew]; rw [if_neg (by omega)]
    · intro j hj hmj
      rw [AH.get_push, hn, if_neg (by omega)]
      rcases l.get j with e1 | ⟨m', _, _, hm', _⟩
      · exact e1
      · rw [hmj] at hm'; cases hm'
    · intro cb hc hnr
      rw [put_heap _ _ _ _ hcb]
      split
      · rename_i e2
        exact absurd ⟨i, m, b, hm, e2.symm, hg, hrw⟩ hnr
      · rfl
    · rintro cb hc ⟨j, mj, bj, hj, hcj, hgj, hrj⟩
      simp only [muNew] at hj
      rw [AH.get_push, hn] at hgj
      split at hj
      · simp only [Option.some.injEq] at hj
        subst hj
        exact ⟨i, m, b, hm, hcj, hg, hrw⟩
      · rename_i e1
        rw [if_neg e1] at hgj
        exact (l.ext (w := w)).rw cb hc ⟨j, mj, bj, hj, hcj, hgj, hrj⟩
end Go.Proofs.Ytfppdfmffdkogaa.AI
