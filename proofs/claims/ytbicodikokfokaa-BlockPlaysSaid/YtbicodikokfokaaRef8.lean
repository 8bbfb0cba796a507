/- rungref8: what its functions come to. -/
import Derived.Test.YtbicodikokfokaaHelp8
namespace Go.Proofs.Ytbicodikokfokaa.AI
open Go
set_option linter.unusedSimpArgs false
set_option linter.unusedVariables false
variable {ov : AOver} {h : AH} {v : AVal} {md : AMode} {p : Nat} {s : BSt} {lv : AVal} {vs : List AVal}

/-- The reference's store lies at p. Its rows may be shared: none is written in place. -/
structure RSto (h : AH) (p : Nat) (s : BSt) (lv : AVal) (vs : List AVal) : Prop where
  box : h.get p = some ⟨.row [lv, .int .i64 s.size, .int .i64 s.writes, .int .i64 s.left, .int .i64 s.pre, .bool s.dead] T_rungref8_Store false, .rw, []⟩
  l : Ow h lv T___uint8 1 vs.length vs
  n : s.bl.length = vs.length
  rows : ∀ (i : Nat) v b, vs[i]? = some v → s.bl[i]? = some b → b.length = s.size ∧ Ow h v T_uint8 1 s.size (bytesOf b)
  offl : ∀ v ∈ vs, ∀ i, isBk lv i → ¬ isBk v i
  off : ∀ v ∈ lv :: vs, ¬ isBk v p
  sz : 16 ≤ s.size ∧ s.size ≤ 4096
  cnt : vs.length ≤ 64
  wr : s.writes < 2 ^ 62
  lf : -1 ≤ s.left ∧ s.left < 9223372036854775808
  pr : -9223372036854775808 ≤ s.pre ∧ s.pre < 9223372036854775808
/-- The blocks that it writes in place. -/
def RM (p : Nat) (lv : AVal) (i : Nat) : Prop := i = p ∨ isBk lv i
theorem RM.mine {i : Nat} (hi : RM p lv i) : Mine p lv vs i := hi.imp id fun x => ⟨lv, by simp, x⟩
theorem RSto.ke {S : Nat → Prop} {h' : AH} (t : RSto h p s lv vs) (k : Ke S h h') (hS : ∀ i, Mine p lv vs i → ¬ S i) : RSto h' p s lv vs :=
  { t with
    box := k.gt t.box (hS p (.inl rfl))
    l := t.l.ke k fun i hi => hS i (.inr ⟨lv, by simp, hi⟩)
    rows := fun i v b hv hb => ⟨(t.rows i v b hv hb).1, (t.rows i v b hv hb).2.ke k fun j hj => hS j (.inr ⟨v, by simp [List.mem_of_getElem? hv], hj⟩)⟩ }
theorem RSto.kp {h' : AH} (t : RSto h p s lv vs) (k : Kp h h') : RSto h' p s lv vs := t.ke k fun _ _ => id
theorem RSto.lt (w : Wf h) (t : RSto h p s lv vs) {i : Nat} (hi : Mine p lv vs i) : i < h.n := by
  rcases hi with rfl | ⟨v, hv, hi⟩
  · exact w.lt _ _ t.box
  · rcases List.mem_cons.1 hv with rfl | hv
    · exact t.l.bk_lt w hi
    · obtain ⟨j, hj, e⟩ := List.getElem_of_mem hv
      have hb : j < s.bl.length := by rw [t.n]; exact hj
      exact (t.rows j v s.bl[j] (by rw [← e]; exact List.getElem?_eq_getElem hj) (List.getElem?_eq_getElem hb)).2.bk_lt w hi
theorem RSto.at (t : RSto h p s lv vs) {i : Nat} (hi : i < s.bl.length) : ∃ v, vs[i]? = some v ∧ rLoad (ea lv i) h = some v ∧ (s.bl.getD i []).length = s.size ∧ Ow h v T_uint8 1 s.size (bytesOf (s.bl.getD i [])) := by
  have hv : i < vs.length := by have := t.n; omega
  have e1 := List.getElem?_eq_getElem hv
  have e2 := List.getElem?_eq_getElem hi
  have e3 : s.bl.getD i [] = s.bl[i] := by simp [List.getD, e2]
  have := t.rows i _ _ e1 e2
  rw [e3]
  exact ⟨vs[i], e1, by rw [(Ow.rd t.l).ld hv]; exact e1, this.1, this.2⟩
theorem RSto.setBox (t : RSto h p s lv vs) {h' : AH} (k : Ke (· = p) h h') {wr : Nat} {lf pr : Int} {dd : Bool}
    (g : h'.get p = some ⟨.row [lv, .int .i64 s.size, .int .i64 wr, .int .i64 lf, .int .i64 pr, .bool dd] T_rungref8_Store false, .rw, []⟩)
    (hw : wr < 2 ^ 62) (hl : -1 ≤ lf ∧ lf < 9223372036854775808) (hp : -9223372036854775808 ≤ pr ∧ pr < 9223372036854775808) : RSto h' p { s with writes := wr, left := lf, pre := pr, dead := dd } lv vs :=
  { t with
    box := g
    l := t.l.ke k fun i hi e => t.off lv (by simp) (e ▸ hi)
    rows := fun i v b hv hb => ⟨(t.rows i v b hv hb).1, (t.rows i v b hv hb).2.ke k fun j hj e => t.off v (by simp [List.mem_of_getElem? hv]) (e ▸ hj)⟩
    wr := hw
    lf := hl
    pr := hp }
/-- A row's slice is put in another's place. -/
theorem RSto.setRow (w : Wf h) (t : RSto h p s lv vs) {i : Nat} {v : AVal} {h' : AH} (k : Ke (isBk lv) h h') {b : List UInt8} (ol : Ow h' lv T___uint8 1 vs.length (vs.set i v)) (o : Ow h' v T_uint8 1 s.size (bytesOf b)) (hb : b.length = s.size) (hv : ∀ j, isBk v j → ¬ Mine p lv vs j) : RSto h' p { s with bl := s.bl.set i b } lv (vs.set i v) := by
  have hsub : ∀ u ∈ vs.set i v, u = v ∨ u ∈ vs := fun u hu => (List.mem_or_eq_of_mem_set hu).symm
  refine { t with box := k.gt t.box (t.off lv (by simp)), l := ol.to rfl (by simp), n := by simpa using t.n, rows := ?_, offl := ?_, off := ?_, cnt := by simpa using t.cnt }
  · intro j v' b' hv' hb'
    simp only [List.getElem?_set] at hb' hv'
    by_cases e : i = j
    · subst e
      simp only [if_true] at hv' hb'
      split at hv' <;> simp only [Option.some.injEq, reduceCtorEq] at hv'
      split at hb' <;> simp only [Option.some.injEq, reduceCtorEq] at hb'
      subst hv' hb'
      exact ⟨hb, o⟩
    · rw [if_neg e] at hv' hb'
      obtain ⟨h1, h2⟩ := t.rows j v' b' hv' hb'
      exact ⟨h1, h2.ke k fun q hq hl => t.offl v' (List.mem_of_getElem? hv') q hl hq⟩
  · intro u hu q hq
    rcases hsub u hu with rfl | hu
    · exact fun c => hv q c (.inr ⟨lv, by simp, hq⟩)
    · exact t.offl u hu q hq
  · intro u hu
    rcases List.mem_cons.1 hu with rfl | hu
    · exact t.off u (by simp)
    · rcases hsub u hu with rfl | hu
      · exact fun c => hv p c (.inl rfl)
      · exact t.off u (by simp [hu])

theorem rread_spec (H : Plain ov) (n : Nat) (t : RSto h p s lv vs) (i : Int) :
    ∃ v, kc ov (n + 1) N_rungref8_Store_Read [.ptr (some (p, 0)), .int .i64 i] h = some (.tuple [v, .int .i64 (readM s i).2], h) ∧ Bs h v (readM s i).1 .rw := by
  suffices Wp (kc ov (n + 1) N_rungref8_Store_Read [.ptr (some (p, 0)), .int .i64 i] h) fun r h' => h' = h ∧ ∃ v, r = .tuple [v, .int .i64 (readM s i).2] ∧ Bs h v (readM s i).1 .rw by
    obtain ⟨r, h', e, rfl, v, rfl, s⟩ := this
    exact ⟨v, e, s⟩
  rw [C_rungref8_Store_Read H]; unfold F_rungref8_Store_Read
  have hl := t.n
  have nl : Bs h (.slice none 0 0) [] .rw := (Ow.nil h T_uint8 1 (by omega)).rd
  simp -dsimp (disch := omega) only [↓pre, sp, sp2, wp_some, Int.cast_ofNat_Int, Nat.reduceAdd, Nat.reduceMul, Nat.reduceSub, Nat.reduceLeDiff, Nat.reduceEqDiff, Nat.reducePow, Int.reduceToNat, Int.reducePow, Int.reduceAdd, Int.reduceSub, Int.reduceMul, Int.reduceLT, Int.reduceLE, Int.reduceEq, Int.reduceNeg, row_rw t.box]
  cases hd : s.dead
  · simp -dsimp (disch := omega) only [↓pre, sp, sp2, wp_some, Int.cast_ofNat_Int, Nat.reduceAdd, Nat.reduceMul, Nat.reduceSub, Nat.reduceLeDiff, Nat.reduceEqDiff, Nat.reducePow, Int.reduceToNat, Int.reducePow, Int.reduceAdd, Int.reduceSub, Int.reduceMul, Int.reduceLT, Int.reduceLE, Int.reduceEq, Int.reduceNeg]
    refine wp_kT (.bool (decide (i < 0 ∨ s.bl.length ≤ i))) (fun j hj => ?_) ?_
    · by_cases c : i < 0
      · simp -dsimp (disch := omega) only [↓pre, sp, sp2, wp_some, Int.cast_ofNat_Int, Nat.reduceAdd, Nat.reduceMul, Nat.reduceSub, Nat.reduceLeDiff, Nat.reduceEqDiff, Nat.reducePow, Int.reduceToNat, Int.reducePow, Int.reduceAdd, Int.reduceSub, Int.reduceMul, Int.reduceLT, Int.reduceLE, Int.reduceEq, Int.reduceNeg, c]; simpa [c] using hj
      · simp -dsimp (disch := omega) only [↓pre, sp, sp2, wp_some, Int.cast_ofNat_Int, Nat.reduceAdd, Nat.reduceMul, Nat.reduceSub, Nat.reduceLeDiff, Nat.reduceEqDiff, Nat.reducePow, Int.reduceToNat, Int.reducePow, Int.reduceAdd, Int.reduceSub, Int.reduceMul, Int.reduceLT, Int.reduceLE, Int.reduceEq, Int.reduceNeg, c, row_rw t.box, (Ow.rd t.l).len]
        have e : (i ≥ (vs.length : Int)) ↔ (s.bl.length : Int) ≤ i := by omega
        simpa only [c, e, false_or] using hj
    · simp -dsimp (disch := omega) only [↓pre, sp, sp2, wp_some, Int.cast_ofNat_Int, Nat.reduceAdd, Nat.reduceMul, Nat.reduceSub, Nat.reduceLeDiff, Nat.reduceEqDiff, Nat.reducePow, Int.reduceToNat, Int.reducePow, Int.reduceAdd, Int.reduceSub, Int.reduceMul, Int.reduceLT, Int.reduceLE, Int.reduceEq, Int.reduceNeg]
      refine wp_ite (fun c => ?_) (fun c => ?_)
      · simp -dsimp (disch := omega) only [↓pre, sp, sp2, wp_some, Int.cast_ofNat_Int, Nat.reduceAdd, Nat.reduceMul, Nat.reduceSub, Nat.reduceLeDiff, Nat.reduceEqDiff, Nat.reducePow, Int.reduceToNat, Int.reducePow, Int.reduceAdd, Int.reduceSub, Int.reduceMul, Int.reduceLT, Int.reduceLE, Int.reduceEq, Int.reduceNeg]
        have : isM s i = 80 := by unfold isM; rw [hd, if_neg (by simp), if_pos c]
        have e : readM s i = ([], 80) := by unfold readM; rw [if_neg (by omega), this]
        rw [e]
        exact ⟨_, rfl, nl⟩
      · have : isM s i = 0 := by unfold isM; rw [hd, if_neg (by simp), if_neg c]
        obtain ⟨v, e1, e2, e3, o⟩ := t.at (i := i.toNat) (by omega)
        simp -dsimp (disch := omega) only [↓pre, sp, sp2, wp_some, Int.cast_ofNat_Int, Nat.reduceAdd, Nat.reduceMul, Nat.reduceSub, Nat.reduceLeDiff, Nat.reduceEqDiff, Nat.reducePow, Int.reduceToNat, Int.reducePow, Int.reduceAdd, Int.reduceSub, Int.reduceMul, Int.reduceLT, Int.reduceLE, Int.reduceEq, Int.reduceNeg, row_rw t.box, (Ow.rd t.l).at, e2]
        have e : readM s i = (s.bl.getD i.toNat [], 0) := by unfold readM; rw [if_pos this]
        rw [e]
        exact ⟨_, rfl, (Ow.rd o).to rfl e3.symm⟩
  · have : isM s i = 82 := by simp [isM, hd]
    have e : readM s i = ([], 82) := by unfold readM; rw [if_neg (by omega), this]
    rw [e]
    simp -dsimp (disch := omega) only [↓pre, sp, sp2, wp_some, Int.cast_ofNat_Int, Nat.reduceAdd, Nat.reduceMul, Nat.reduceSub, Nat.reduceLeDiff, Nat.reduceEqDiff, Nat.reducePow, Int.reduceToNat, Int.reducePow, Int.reduceAdd, Int.reduceSub, Int.reduceMul, Int.reduceLT, Int.reduceLE, Int.reduceEq, Int.reduceNeg]
    exact ⟨_, rfl, nl⟩

/-- What an operation leaves: the store, its new slices, no block of another's. -/
def RAfter (h h' : AH) (p : Nat) (s' : BSt) (lv : AVal) (vs : List AVal) : Prop :=
  Ke (RM p lv) h h' ∧ ∃ vs', RSto h' p s' lv vs' ∧ ∀ i, Mine p lv vs' i → Mine p lv vs i ∨ h.n ≤ i
theorem mine_set {vs : List AVal} {i j n : Nat} {v : AVal} (hv : ∀ j, isBk v j → n ≤ j) (hm : Mine p lv (vs.set i v) j) : Mine p lv vs j ∨ n ≤ j := by
  rcases hm with e | ⟨u, hu, hj⟩
  · exact .inl (.inl e)
  · rcases List.mem_cons.1 hu with rfl | hu
    · exact .inl (.inr ⟨u, by simp, hj⟩)
    · rcases List.mem_or_eq_of_mem_set hu with hu | rfl
      · exact .inl (.inr ⟨u, by simp [hu], hj⟩)
      · exact .inr (hv j hj)

theorem rcut_spec (H : Plain ov) (n : Nat) (w : Wf h) (t : RSto h p s lv vs) (k pr : Int) (hk : k < 9223372036854775808) (hp : -9223372036854775808 ≤ pr ∧ pr < 9223372036854775808) :
    Wp (kc ov (n + 1) N_rungref8_Store_Cut [.ptr (some (p, 0)), .int .i64 k, .int .i64 pr] h) fun r h' => r = .tuple [] ∧ Ke (RM p lv) h h' ∧ RSto h' p (if s.dead = true then s else { s with left := max k (-1), pre := pr }) lv vs := by
  rw [C_rungref8_Store_Cut H]; unfold F_rungref8_Store_Cut
  simp -dsimp (disch := omega) only [↓pre, sp, sp2, wp_some, Int.cast_ofNat_Int, Nat.reduceAdd, Nat.reduceMul, Nat.reduceSub, Nat.reduceLeDiff, Nat.reduceEqDiff, Nat.reducePow, Int.reduceToNat, Int.reducePow, Int.reduceAdd, Int.reduceSub, Int.reduceMul, Int.reduceLT, Int.reduceLE, Int.reduceEq, Int.reduceNeg, row_rw t.box, kj_eq]
  cases hd : s.dead
  · simp -dsimp (disch := omega) only [↓pre, sp, sp2, wp_some, Int.cast_ofNat_Int, Nat.reduceAdd, Nat.reduceMul, Nat.reduceSub, Nat.reduceLeDiff, Nat.reduceEqDiff, Nat.reducePow, Int.reduceToNat, Int.reducePow, Int.reduceAdd, Int.reduceSub, Int.reduceMul, Int.reduceLT, Int.reduceLE, Int.reduceEq, Int.reduceNeg]
    refine wp_store w t.box rfl rfl (by simp) rfl fun h2 k2 n2 g2 => ?_
    have t2 := t.setBox k2 (wr := s.writes) (lf := max k (-1)) (pr := s.pre) (dd := s.dead) g2 t.wr (by omega) t.pr
    simp -dsimp (disch := omega) only [↓pre, sp, sp2, wp_some, Int.cast_ofNat_Int, Nat.reduceAdd, Nat.reduceMul, Nat.reduceSub, Nat.reduceLeDiff, Nat.reduceEqDiff, Nat.reducePow, Int.reduceToNat, Int.reducePow, Int.reduceAdd, Int.reduceSub, Int.reduceMul, Int.reduceLT, Int.reduceLE, Int.reduceEq, Int.reduceNeg]
    refine wp_store k2.w' t2.box rfl rfl (by simp) rfl fun h3 k3 n3 g3 => ?_
    have t3 := t2.setBox k3 (wr := s.writes) (lf := max k (-1)) (pr := pr) (dd := s.dead) g3 t.wr (by omega) hp
    simp -dsimp (disch := omega) only [↓pre, sp, sp2, wp_some, Int.cast_ofNat_Int, Nat.reduceAdd, Nat.reduceMul, Nat.reduceSub, Nat.reduceLeDiff, Nat.reduceEqDiff, Nat.reducePow, Int.reduceToNat, Int.reducePow, Int.reduceAdd, Int.reduceSub, Int.reduceMul, Int.reduceLT, Int.reduceLE, Int.reduceEq, Int.reduceNeg]
    rw [if_neg (by simp)]
    refine ⟨(k2.trans k3).mono fun j hj => .inl hj, ?_⟩
    rw [hd] at t3; exact t3
  · simp -dsimp (disch := omega) only [↓pre, sp, sp2, wp_some, Int.cast_ofNat_Int, Nat.reduceAdd, Nat.reduceMul, Nat.reduceSub, Nat.reduceLeDiff, Nat.reduceEqDiff, Nat.reducePow, Int.reduceToNat, Int.reducePow, Int.reduceAdd, Int.reduceSub, Int.reduceMul, Int.reduceLT, Int.reduceLE, Int.reduceEq, Int.reduceNeg]
    exact ⟨Ke.refl w, t⟩
theorem rpower_spec (H : Plain ov) (n : Nat) (w : Wf h) (t : RSto h p s lv vs) :
    Wp (kc ov (n + 1) N_rungref8_Store_Power [.ptr (some (p, 0))] h) fun r h' => r = .tuple [] ∧ Ke (RM p lv) h h' ∧ RSto h' p { s with left := -1, dead := false } lv vs := by
  rw [C_rungref8_Store_Power H]; unfold F_rungref8_Store_Power
  simp -dsimp (disch := omega) only [↓pre, sp, sp2, wp_some, Int.cast_ofNat_Int, Nat.reduceAdd, Nat.reduceMul, Nat.reduceSub, Nat.reduceLeDiff, Nat.reduceEqDiff, Nat.reducePow, Int.reduceToNat, Int.reducePow, Int.reduceAdd, Int.reduceSub, Int.reduceMul, Int.reduceLT, Int.reduceLE, Int.reduceEq, Int.reduceNeg]
  refine wp_store w t.box rfl rfl (by simp) rfl fun h2 k2 n2 g2 => ?_
  have t2 := t.setBox k2 (wr := s.writes) (lf := s.left) (pr := s.pre) (dd := false) g2 t.wr t.lf t.pr
  simp -dsimp (disch := omega) only [↓pre, sp, sp2, wp_some, Int.cast_ofNat_Int, Nat.reduceAdd, Nat.reduceMul, Nat.reduceSub, Nat.reduceLeDiff, Nat.reduceEqDiff, Nat.reducePow, Int.reduceToNat, Int.reducePow, Int.reduceAdd, Int.reduceSub, Int.reduceMul, Int.reduceLT, Int.reduceLE, Int.reduceEq, Int.reduceNeg]
  refine wp_store k2.w' t2.box rfl rfl (by simp) rfl fun h3 k3 n3 g3 => ?_
  have t3 := t2.setBox k3 (wr := s.writes) (lf := -1) (pr := s.pre) (dd := false) g3 t.wr (by omega) t.pr
  simp -dsimp (disch := omega) only [↓pre, sp, sp2, wp_some, Int.cast_ofNat_Int, Nat.reduceAdd, Nat.reduceMul, Nat.reduceSub, Nat.reduceLeDiff, Nat.reduceEqDiff, Nat.reducePow, Int.reduceToNat, Int.reducePow, Int.reduceAdd, Int.reduceSub, Int.reduceMul, Int.reduceLT, Int.reduceLE, Int.reduceEq, Int.reduceNeg]
  exact ⟨(k2.trans k3).mono fun j hj => .inl hj, t3⟩

/-- A fresh slice is put in row i's place. -/
theorem RSto.put (w : Wf h) (t : RSto h p s lv vs) {i : Nat} {v : AVal} {h2 h3 : AH} {b : List UInt8} (k2 : Kp h h2) (o : Ow h2 v T_uint8 1 s.size (bytesOf b)) (hb : b.length = s.size) (f : ∀ j, isBk v j → h.n ≤ j) (k3 : Ke (isBk lv) h2 h3) (ol : Ow h3 lv T___uint8 1 vs.length (vs.set i v)) :
    RSto h3 p { s with bl := s.bl.set i b } lv (vs.set i v) ∧ Ke (RM p lv) h h3 ∧ ∀ j, Mine p lv (vs.set i v) j → Mine p lv vs j ∨ h.n ≤ j := by
  have t2 := t.kp k2
  refine ⟨t2.setRow k2.w' k3 ol (o.ke k3 fun j hj hl => ?_) hb (fun j hj hm => ?_), (Kp.ke k2).trans (k3.mono fun _ x => .inr x), fun j hj => mine_set f hj⟩
  · have := f j hj; have := t.l.bk_lt w hl; omega
  · have := f j hj; have := t.lt w hm; omega
theorem rwrite_spec (H : Plain ov) (n : Nat) (w : Wf h) (t : RSto h p s lv vs) (i : Int) {bv : AVal} {b : List UInt8} (sb : Bs h bv b md) (hm : md = .ro ∨ ¬ Mine p lv vs (bk bv)) (hwr : s.writes < 2 ^ 62 - 1) :
    Wp (kc ov (n + 1) N_rungref8_Store_Write [.ptr (some (p, 0)), .int .i64 i, bv] h) fun r h' => r = .int .i64 (writeM s i b).2 ∧ RAfter h h' p (writeM s i b).1 lv vs := by
  rw [C_rungref8_Store_Write H]; unfold F_rungref8_Store_Write
  have hl := t.n
  have hsz := t.sz
  have hlf := t.lf
  have hpr := t.pr
  simp -dsimp (disch := omega) only [↓pre, sp, sp2, wp_some, Int.cast_ofNat_Int, Nat.reduceAdd, Nat.reduceMul, Nat.reduceSub, Nat.reduceLeDiff, Nat.reduceEqDiff, Nat.reducePow, Int.reduceToNat, Int.reducePow, Int.reduceAdd, Int.reduceSub, Int.reduceMul, Int.reduceLT, Int.reduceLE, Int.reduceEq, Int.reduceNeg, row_rw t.box]
  cases hd : s.dead
  · simp -dsimp (disch := omega) only [↓pre, sp, sp2, wp_some, Int.cast_ofNat_Int, Nat.reduceAdd, Nat.reduceMul, Nat.reduceSub, Nat.reduceLeDiff, Nat.reduceEqDiff, Nat.reducePow, Int.reduceToNat, Int.reducePow, Int.reduceAdd, Int.reduceSub, Int.reduceMul, Int.reduceLT, Int.reduceLE, Int.reduceEq, Int.reduceNeg]
    refine wp_kT (.bool (decide (i < 0 ∨ s.bl.length ≤ i))) (fun j hj => ?_) ?_
    · by_cases c : i < 0
      · simp -dsimp (disch := omega) only [↓pre, sp, sp2, wp_some, Int.cast_ofNat_Int, Nat.reduceAdd, Nat.reduceMul, Nat.reduceSub, Nat.reduceLeDiff, Nat.reduceEqDiff, Nat.reducePow, Int.reduceToNat, Int.reducePow, Int.reduceAdd, Int.reduceSub, Int.reduceMul, Int.reduceLT, Int.reduceLE, Int.reduceEq, Int.reduceNeg, c]; simpa [c] using hj
      · simp -dsimp (disch := omega) only [↓pre, sp, sp2, wp_some, Int.cast_ofNat_Int, Nat.reduceAdd, Nat.reduceMul, Nat.reduceSub, Nat.reduceLeDiff, Nat.reduceEqDiff, Nat.reducePow, Int.reduceToNat, Int.reducePow, Int.reduceAdd, Int.reduceSub, Int.reduceMul, Int.reduceLT, Int.reduceLE, Int.reduceEq, Int.reduceNeg, c, row_rw t.box, (Ow.rd t.l).len]
        have e : (i ≥ (vs.length : Int)) ↔ (s.bl.length : Int) ≤ i := by omega
        simpa only [c, e, false_or] using hj
    simp -dsimp (disch := omega) only [↓pre, sp, sp2, wp_some, Int.cast_ofNat_Int, Nat.reduceAdd, Nat.reduceMul, Nat.reduceSub, Nat.reduceLeDiff, Nat.reduceEqDiff, Nat.reducePow, Int.reduceToNat, Int.reducePow, Int.reduceAdd, Int.reduceSub, Int.reduceMul, Int.reduceLT, Int.reduceLE, Int.reduceEq, Int.reduceNeg]
    refine wp_ite (fun c => ?_) (fun c => ?_)
    · simp -dsimp (disch := omega) only [↓pre, sp, sp2, wp_some, Int.cast_ofNat_Int, Nat.reduceAdd, Nat.reduceMul, Nat.reduceSub, Nat.reduceLeDiff, Nat.reduceEqDiff, Nat.reducePow, Int.reduceToNat, Int.reducePow, Int.reduceAdd, Int.reduceSub, Int.reduceMul, Int.reduceLT, Int.reduceLE, Int.reduceEq, Int.reduceNeg]
      have e : isM s i = 80 := by unfold isM; rw [hd, if_neg (by simp), if_pos c]
      have e : writeM s i b = (s, 80) := by unfold writeM; rw [if_pos (by omega), e]
      rw [e]
      exact ⟨rfl, Ke.refl w, vs, t, fun _ => .inl⟩
    have c0 : isM s i = 0 := by unfold isM; rw [hd, if_neg (by simp), if_neg c]
    obtain ⟨v, e1, e2, e3, o⟩ := t.at (i := i.toNat) (by omega)
    have hiv : i.toNat < vs.length := by omega
    simp -dsimp (disch := omega) only [↓pre, sp, sp2, wp_some, Int.cast_ofNat_Int, Nat.reduceAdd, Nat.reduceMul, Nat.reduceSub, Nat.reduceLeDiff, Nat.reduceEqDiff, Nat.reducePow, Int.reduceToNat, Int.reducePow, Int.reduceAdd, Int.reduceSub, Int.reduceMul, Int.reduceLT, Int.reduceLE, Int.reduceEq, Int.reduceNeg, row_rw t.box, sb.len]
    refine wp_ite (fun c2 => ?_) (fun c2 => ?_)
    · simp -dsimp (disch := omega) only [↓pre, sp, sp2, wp_some, Int.cast_ofNat_Int, Nat.reduceAdd, Nat.reduceMul, Nat.reduceSub, Nat.reduceLeDiff, Nat.reduceEqDiff, Nat.reducePow, Int.reduceToNat, Int.reducePow, Int.reduceAdd, Int.reduceSub, Int.reduceMul, Int.reduceLT, Int.reduceLE, Int.reduceEq, Int.reduceNeg]
      have e : writeM s i b = (s, 81) := by unfold writeM; rw [if_neg (by omega), if_pos (by omega)]
      rw [e]
      exact ⟨rfl, Ke.refl w, vs, t, fun _ => .inl⟩
    have c2' : b.length = s.size := by omega
    refine wp_kJ (fun l h1 => Ke (· = p) h h1 ∧ ∃ k : Nat, l = [.int .i64 k] ∧ k ≤ s.size ∧ RSto h1 p { s with dead := decide (s.left = 0) } lv vs ∧ (s.left = 0 → k = (min (max s.pre 0) s.size).toNat) ∧ (s.left ≠ 0 → k = s.size)) (fun j hj => ?_) ?_
    · refine wp_kIf (fun c3 => ?_) (fun c3 => ?_)
      · have c3' : s.left = 0 := of_decide_eq_true c3
        simp -dsimp (disch := omega) only [↓pre, sp, sp2, wp_some, Int.cast_ofNat_Int, Nat.reduceAdd, Nat.reduceMul, Nat.reduceSub, Nat.reduceLeDiff, Nat.reduceEqDiff, Nat.reducePow, Int.reduceToNat, Int.reducePow, Int.reduceAdd, Int.reduceSub, Int.reduceMul, Int.reduceLT, Int.reduceLE, Int.reduceEq, Int.reduceNeg, row_rw t.box]
        refine wp_store w t.box rfl rfl (by simp) rfl fun h2 k2 n2 g2 => ?_
        have t2 := t.setBox k2 (wr := s.writes) (lf := s.left) (pr := s.pre) (dd := true) g2 t.wr t.lf t.pr
        refine hj _ _ ⟨k2, (min (max s.pre 0) s.size).toNat, ?_, by omega, ?_, fun _ => rfl, fun c => absurd c3' c⟩
        · rw [show ((min (max s.pre 0) (s.size : Int)).toNat : Int) = min (max s.pre 0) (s.size : Int) by omega]
        · rw [c3']; rw [c3'] at t2; exact t2
      · have c3' : ¬ s.left = 0 := of_decide_eq_false c3
        refine hj _ _ ⟨Ke.refl w, s.size, rfl, Nat.le_refl _, ?_, fun c => absurd c c3', fun _ => rfl⟩
        have : decide (s.left = 0) = s.dead := by simp [c3', hd]
        rw [this]; exact t
    rintro _ h1 ⟨k1, k, rfl, hk, t1, hk0, hk1⟩
    obtain ⟨v1, e11, e21, e31, o1⟩ := t1.at (i := i.toNat) (by show i.toNat < s.bl.length; omega)
    rw [e1] at e11
    simp only [Option.some.injEq] at e11
    subst e11
    dsimp only at e31
    have sb1 := sb.ke k1 (hm.imp id fun x y => x (.inl y))
    have so : Bs h1 v (s.bl.getD i.toNat []) .rw := (Ow.rd o1).to rfl e31.symm
    obtain ⟨x1, ex1, s1, _⟩ := sb1.cutR (q := .i64) (b := (k : Int)) (by omega) (by omega)
    obtain ⟨x2, ex2, s2, _⟩ := so.cutL (p := .i64) (a := (k : Int)) (by omega) (by omega)
    simp -dsimp (disch := omega) only [↓pre, sp, sp2, wp_some, Int.cast_ofNat_Int, Nat.reduceAdd, Nat.reduceMul, Nat.reduceSub, Nat.reduceLeDiff, Nat.reduceEqDiff, Nat.reducePow, Int.reduceToNat, Int.reducePow, Int.reduceAdd, Int.reduceSub, Int.reduceMul, Int.reduceLT, Int.reduceLE, Int.reduceEq, Int.reduceNeg, row_rw t1.box, ex1, (Ow.rd t1.l).at, e21, ex2]
    have s1' : Bs h1 x1 (b.take k) md := s1.to (by rw [bytesOf_take]; simp) (by rw [List.length_take]; omega)
    have s2' : Bs h1 x2 ((s.bl.getD i.toNat []).drop k) .rw := s2.to (by rw [bytesOf_drop]; simp) (by rw [List.length_drop]; omega)
    refine wp_append k1.w' (Ow.nil h1 T_uint8 1 (by omega)) s1' (isCell_bytes _) (by omega) (by rw [List.length_take]; omega) fun v3 h3 o3 k3 f3 => ?_
    have K3 : Kp h1 h3 := k3.mono fun _ f => f.elim
    have t3 := t1.kp K3
    have e23 : rLoad (ea lv i.toNat) h3 = some v := by rw [(Ow.rd t3.l).ld hiv]; exact e1
    simp -dsimp (disch := omega) only [↓pre, sp, sp2, wp_some, Int.cast_ofNat_Int, Nat.reduceAdd, Nat.reduceMul, Nat.reduceSub, Nat.reduceLeDiff, Nat.reduceEqDiff, Nat.reducePow, Int.reduceToNat, Int.reducePow, Int.reduceAdd, Int.reduceSub, Int.reduceMul, Int.reduceLT, Int.reduceLE, Int.reduceEq, Int.reduceNeg, row_rw t3.box, e23]
    refine wp_append K3.w' o3 (s2'.kp K3) (isCell_bytes _) (by omega) (by have : (s.bl.getD i.toNat []).length = s.size := e31; rw [List.length_take, List.length_drop]; omega) fun v4 h4 o4 k4 f4 => ?_
    have K4 : Kp h1 h4 := Ke.new_p K3 k4 (fun q hq => (f3 q hq).resolve_left id)
    have f4' : ∀ j, isBk v4 j → h1.n ≤ j := fun j hj => by
      rcases f4 j hj with f | f
      · exact (f3 j f).resolve_left id
      · have := K3.n; omega
    have t4 := t1.kp K4
    have e24 : rLoad (ea lv i.toNat) h4 = some v := by rw [(Ow.rd t4.l).ld hiv]; exact e1
    simp -dsimp (disch := omega) only [↓pre, sp, sp2, wp_some, Int.cast_ofNat_Int, Nat.reduceAdd, Nat.reduceMul, Nat.reduceSub, Nat.reduceLeDiff, Nat.reduceEqDiff, Nat.reducePow, Int.reduceToNat, Int.reducePow, Int.reduceAdd, Int.reduceSub, Int.reduceMul, Int.reduceLT, Int.reduceLE, Int.reduceEq, Int.reduceNeg, row_rw t4.box, (Ow.rd t4.l).at, e24]
    have hnew : ∀ nb, nb = b.take k ++ (s.bl.getD i.toNat []).drop k → nb.length = s.size ∧ Ow h4 v4 T_uint8 1 s.size (bytesOf nb) := fun nb e => by
      subst e
      have : (b.take k ++ (s.bl.getD i.toNat []).drop k).length = s.size := by
        have : (s.bl.getD i.toNat []).length = s.size := e31
        rw [List.length_append, List.length_take, List.length_drop]; omega
      refine ⟨this, o4.to ?_ ?_⟩
      · rw [List.nil_append, ← bytesOf_append]
      · rw [← this, List.length_append, Nat.zero_add]
    refine wp_storeOw K4.w' t4.l rfl (cells_of o4.isCell) rfl (by omega) (by omega) (by simp only [ic, o4.isCell]) fun h5 o5 k5 n5 => ?_
    rw [splice_one _ _ _ hiv] at o5
    obtain ⟨hn1, hn2⟩ := hnew _ rfl
    obtain ⟨t5, K5, f5⟩ := t1.put k1.w' (i := i.toNat) K4 hn2 hn1 f4' k5 o5
    have KK := (k1.mono (T := RM p lv) fun j hj => .inl hj).trans K5
    have FF : ∀ j, Mine p lv (vs.set i.toNat v4) j → Mine p lv vs j ∨ h.n ≤ j := fun j hj => (f5 j hj).imp id fun x => by have := k1.n; omega
    dsimp only at t5
    simp -dsimp (disch := omega) only [↓pre, sp, sp2, wp_some, Int.cast_ofNat_Int, Nat.reduceAdd, Nat.reduceMul, Nat.reduceSub, Nat.reduceLeDiff, Nat.reduceEqDiff, Nat.reducePow, Int.reduceToNat, Int.reducePow, Int.reduceAdd, Int.reduceSub, Int.reduceMul, Int.reduceLT, Int.reduceLE, Int.reduceEq, Int.reduceNeg, row_rw t5.box]
    refine wp_ite (fun c3' => ?_) (fun c3' => ?_)
    · have c3 : decide (s.left = 0) = true := decide_eq_true c3'
      simp -dsimp (disch := omega) only [↓pre, sp, sp2, wp_some, Int.cast_ofNat_Int, Nat.reduceAdd, Nat.reduceMul, Nat.reduceSub, Nat.reduceLeDiff, Nat.reduceEqDiff, Nat.reducePow, Int.reduceToNat, Int.reducePow, Int.reduceAdd, Int.reduceSub, Int.reduceMul, Int.reduceLT, Int.reduceLE, Int.reduceEq, Int.reduceNeg]
      have e : writeM s i b = ({ s with bl := s.bl.set i.toNat (b.take (min (max s.pre 0) s.size).toNat ++ (s.bl.getD i.toNat []).drop (min (max s.pre 0) s.size).toNat), dead := true }, 82) := by
        unfold writeM; rw [if_neg (by omega), if_neg (by omega), if_pos c3']
      rw [e, ← hk0 c3']
      rw [c3] at t5
      exact ⟨rfl, KK, _, t5, FF⟩
    · have c3 : decide (s.left = 0) = false := decide_eq_false c3'
      rw [c3] at t5
      have hks := hk1 c3'
      have eb : b.take k ++ (s.bl.getD i.toNat []).drop k = b := by rw [List.take_of_length_le (by omega), List.drop_of_length_le (by omega), List.append_nil]
      rw [eb] at t5
      have e : writeM s i b = ({ s with bl := s.bl.set i.toNat b, left := max (s.left - 1) (-1), writes := s.writes + 1 }, 0) := by
        unfold writeM; rw [if_neg (by omega), if_neg (by omega), if_neg c3']
      rw [e]
      simp -dsimp (disch := omega) only [↓pre, sp, sp2, wp_some, Int.cast_ofNat_Int, Nat.reduceAdd, Nat.reduceMul, Nat.reduceSub, Nat.reduceLeDiff, Nat.reduceEqDiff, Nat.reducePow, Int.reduceToNat, Int.reducePow, Int.reduceAdd, Int.reduceSub, Int.reduceMul, Int.reduceLT, Int.reduceLE, Int.reduceEq, Int.reduceNeg, row_rw t5.box]
      refine wp_kJ (fun l h6 => Ke (· = p) h5 h6 ∧ RSto h6 p { s with bl := s.bl.set i.toNat b, left := max (s.left - 1) (-1), dead := false } lv (vs.set i.toNat v4)) (fun j hj => ?_) ?_
      · refine wp_kIf (fun c4 => ?_) (fun c4 => ?_)
        · have c4' : s.left > 0 := of_decide_eq_true c4
          have hwl : IntKind.wrap .i64 (s.left - 1) = max (s.left - 1) (-1) := by rw [wr_i64 (by omega) (by omega)]; omega
          simp -dsimp (disch := omega) only [↓pre, sp, sp2, wp_some, Int.cast_ofNat_Int, Nat.reduceAdd, Nat.reduceMul, Nat.reduceSub, Nat.reduceLeDiff, Nat.reduceEqDiff, Nat.reducePow, Int.reduceToNat, Int.reducePow, Int.reduceAdd, Int.reduceSub, Int.reduceMul, Int.reduceLT, Int.reduceLE, Int.reduceEq, Int.reduceNeg, row_rw t5.box, hwl]
          refine wp_store K5.w' t5.box rfl rfl (by simp) rfl fun h6 k6 n6 g6 => ?_
          have t6 := t5.setBox k6 (wr := s.writes) (lf := max (s.left - 1) (-1)) (pr := s.pre) (dd := false) g6 t.wr (by omega) t.pr
          exact hj _ _ ⟨k6, t6⟩
        · have c4' : ¬ s.left > 0 := of_decide_eq_false c4
          refine hj _ _ ⟨Ke.refl K5.w', ?_⟩
          have : max (s.left - 1) (-1) = s.left := by omega
          rw [this]; exact t5
      rintro _ h6 ⟨k6, t6⟩
      have hwi : IntKind.wrap .i64 ((s.writes : Int) + 1) = ((s.writes + 1 : Nat) : Int) := by rw [wr_i64 (by omega) (by omega)]; omega
      simp -dsimp (disch := omega) only [↓pre, sp, sp2, wp_some, Int.cast_ofNat_Int, Nat.reduceAdd, Nat.reduceMul, Nat.reduceSub, Nat.reduceLeDiff, Nat.reduceEqDiff, Nat.reducePow, Int.reduceToNat, Int.reducePow, Int.reduceAdd, Int.reduceSub, Int.reduceMul, Int.reduceLT, Int.reduceLE, Int.reduceEq, Int.reduceNeg, row_rw t6.box, hwi]
      refine wp_store k6.w' t6.box rfl rfl (by simp) rfl fun h7 k7 n7 g7 => ?_
      have t7 := t6.setBox k7 (wr := s.writes + 1) (lf := max (s.left - 1) (-1)) (pr := s.pre) (dd := false) g7 (by omega) (by omega) t.pr
      simp -dsimp (disch := omega) only [↓pre, sp, sp2, wp_some, Int.cast_ofNat_Int, Nat.reduceAdd, Nat.reduceMul, Nat.reduceSub, Nat.reduceLeDiff, Nat.reduceEqDiff, Nat.reducePow, Int.reduceToNat, Int.reducePow, Int.reduceAdd, Int.reduceSub, Int.reduceMul, Int.reduceLT, Int.reduceLE, Int.reduceEq, Int.reduceNeg]
      refine ⟨KK.trans ((k6.trans k7).mono fun j hj => .inl hj), _, ?_, FF⟩
      rw [hd]
      exact t7
  · simp -dsimp (disch := omega) only [↓pre, sp, sp2, wp_some, Int.cast_ofNat_Int, Nat.reduceAdd, Nat.reduceMul, Nat.reduceSub, Nat.reduceLeDiff, Nat.reduceEqDiff, Nat.reducePow, Int.reduceToNat, Int.reducePow, Int.reduceAdd, Int.reduceSub, Int.reduceMul, Int.reduceLT, Int.reduceLE, Int.reduceEq, Int.reduceNeg]
    have e : isM s i = 82 := by simp [isM, hd]
    have e : writeM s i b = (s, 82) := by unfold writeM; rw [if_pos (by omega), e]
    rw [e]
    exact ⟨rfl, Ke.refl w, vs, t, fun _ => .inl⟩
/-- A row of its own is written in place. -/
theorem RSto.poke (t : RSto h p s lv vs) {i : Nat} {v : AVal} (hv : vs[i]? = some v) {h' : AH} (k : Ke (isBk v) h h') {b : List UInt8} (o : Ow h' v T_uint8 1 s.size (bytesOf b)) (hb : b.length = s.size) (hs : ∀ (j : Nat) u, j ≠ i → vs[j]? = some u → ∀ q, isBk v q → ¬ isBk u q) : RSto h' p { s with bl := s.bl.set i b } lv vs := by
  have hmem : v ∈ vs := List.mem_of_getElem? hv
  refine { t with box := k.gt t.box (t.off v (by simp [hmem])), l := t.l.ke k fun j hj => t.offl v hmem j hj, n := by simpa using t.n, rows := ?_ }
  intro j v' b' hv' hb'
  simp only [List.getElem?_set] at hb'
  split at hb'
  · rename_i e
    subst e
    rw [hv] at hv'
    simp only [Option.some.injEq] at hv'
    subst hv'
    split at hb' <;> simp only [Option.some.injEq, reduceCtorEq] at hb'
    subst hb'
    exact ⟨hb, o⟩
  · rename_i hne
    obtain ⟨h1, h2⟩ := t.rows j v' b' hv' hb'
    exact ⟨h1, h2.ke k fun q hq hl => hs j v' (fun e => hne e.symm) hv' q hl hq⟩
theorem rspoil_spec (H : Plain ov) (n : Nat) (w : Wf h) (t : RSto h p s lv vs) (i a : Int) (x : UInt8) :
    Wp (kc ov (n + 1) N_rungref8_Store_Spoil [.ptr (some (p, 0)), .int .i64 i, .int .i64 a, .int .u8 x.toNat] h) fun r h' => r = .tuple [] ∧ RAfter h h' p (spoilM s i a x) lv vs := by
  rw [C_rungref8_Store_Spoil H]; unfold F_rungref8_Store_Spoil
  have hl := t.n
  have hsz := t.sz
  simp -dsimp (disch := omega) only [↓pre, sp, sp2, wp_some, Int.cast_ofNat_Int, Nat.reduceAdd, Nat.reduceMul, Nat.reduceSub, Nat.reduceLeDiff, Nat.reduceEqDiff, Nat.reducePow, Int.reduceToNat, Int.reducePow, Int.reduceAdd, Int.reduceSub, Int.reduceMul, Int.reduceLT, Int.reduceLE, Int.reduceEq, Int.reduceNeg, row_rw t.box]
  refine wp_kT (.bool (decide (s.dead = false ∧ 0 ≤ i ∧ i < s.bl.length ∧ 0 ≤ a ∧ a < s.size))) (fun j hj => ?_) ?_
  · cases hd : s.dead
    · rw [hd] at hj
      by_cases c : 0 ≤ i
      · by_cases c1 : i < s.bl.length
        · have c1' : i < (vs.length : Int) := by omega
          by_cases c2 : 0 ≤ a
          · simp -dsimp (disch := omega) only [↓pre, sp, sp2, wp_some, Int.cast_ofNat_Int, Nat.reduceAdd, Nat.reduceMul, Nat.reduceSub, Nat.reduceLeDiff, Nat.reduceEqDiff, Nat.reducePow, Int.reduceToNat, Int.reducePow, Int.reduceAdd, Int.reduceSub, Int.reduceMul, Int.reduceLT, Int.reduceLE, Int.reduceEq, Int.reduceNeg, row_rw t.box, show i ≥ 0 from c, show a ≥ 0 from c2, (Ow.rd t.l).len, c1']
            simpa [c, c1, c2] using hj
          · simp -dsimp (disch := omega) only [↓pre, sp, sp2, wp_some, Int.cast_ofNat_Int, Nat.reduceAdd, Nat.reduceMul, Nat.reduceSub, Nat.reduceLeDiff, Nat.reduceEqDiff, Nat.reducePow, Int.reduceToNat, Int.reducePow, Int.reduceAdd, Int.reduceSub, Int.reduceMul, Int.reduceLT, Int.reduceLE, Int.reduceEq, Int.reduceNeg, row_rw t.box, show i ≥ 0 from c, show ¬ a ≥ 0 from c2, (Ow.rd t.l).len, c1']
            simpa [c, c1, c2] using hj
        · have c1' : ¬ i < (vs.length : Int) := by omega
          simp -dsimp (disch := omega) only [↓pre, sp, sp2, wp_some, Int.cast_ofNat_Int, Nat.reduceAdd, Nat.reduceMul, Nat.reduceSub, Nat.reduceLeDiff, Nat.reduceEqDiff, Nat.reducePow, Int.reduceToNat, Int.reducePow, Int.reduceAdd, Int.reduceSub, Int.reduceMul, Int.reduceLT, Int.reduceLE, Int.reduceEq, Int.reduceNeg, row_rw t.box, show i ≥ 0 from c, (Ow.rd t.l).len, c1']
          simpa [c, c1] using hj
      · simp -dsimp (disch := omega) only [↓pre, sp, sp2, wp_some, Int.cast_ofNat_Int, Nat.reduceAdd, Nat.reduceMul, Nat.reduceSub, Nat.reduceLeDiff, Nat.reduceEqDiff, Nat.reducePow, Int.reduceToNat, Int.reducePow, Int.reduceAdd, Int.reduceSub, Int.reduceMul, Int.reduceLT, Int.reduceLE, Int.reduceEq, Int.reduceNeg, row_rw t.box, show ¬ i ≥ 0 from c]
        simpa [c] using hj
    · rw [hd] at hj
      simp -dsimp (disch := omega) only [↓pre, sp, sp2, wp_some, Int.cast_ofNat_Int, Nat.reduceAdd, Nat.reduceMul, Nat.reduceSub, Nat.reduceLeDiff, Nat.reduceEqDiff, Nat.reducePow, Int.reduceToNat, Int.reducePow, Int.reduceAdd, Int.reduceSub, Int.reduceMul, Int.reduceLT, Int.reduceLE, Int.reduceEq, Int.reduceNeg]
      simpa using hj
  simp -dsimp (disch := omega) only [↓pre, sp, sp2, wp_some, Int.cast_ofNat_Int, Nat.reduceAdd, Nat.reduceMul, Nat.reduceSub, Nat.reduceLeDiff, Nat.reduceEqDiff, Nat.reducePow, Int.reduceToNat, Int.reducePow, Int.reduceAdd, Int.reduceSub, Int.reduceMul, Int.reduceLT, Int.reduceLE, Int.reduceEq, Int.reduceNeg, kj_eq]
  refine wp_ite (fun c => ?_) (fun c => ?_)
  · obtain ⟨hd, h0, h1, h2, h3⟩ := c
    have c0 : isM s i = 0 := by unfold isM; rw [hd, if_neg (by simp), if_neg (by omega)]
    obtain ⟨v, e1, e2, e3, o⟩ := t.at (i := i.toNat) (by omega)
    have hiv : i.toNat < vs.length := by omega
    have so : Bs h v (s.bl.getD i.toNat []) .rw := (Ow.rd o).to rfl e3.symm
    simp -dsimp (disch := omega) only [↓pre, sp, sp2, wp_some, Int.cast_ofNat_Int, Nat.reduceAdd, Nat.reduceMul, Nat.reduceSub, Nat.reduceLeDiff, Nat.reduceEqDiff, Nat.reducePow, Int.reduceToNat, Int.reducePow, Int.reduceAdd, Int.reduceSub, Int.reduceMul, Int.reduceLT, Int.reduceLE, Int.reduceEq, Int.reduceNeg, row_rw t.box, (Ow.rd t.l).at, e2]
    refine wp_append w (Ow.nil h T_uint8 1 (by omega)) so (isCell_bytes _) (by omega) (by omega) fun v3 h3 o3 k3 f3 => ?_
    have K3 : Kp h h3 := k3.mono fun _ f => f.elim
    have f3' : ∀ j, isBk v3 j → h.n ≤ j := fun j hj => (f3 j hj).resolve_left id
    have t3 := t.kp K3
    have o3' : Ow h3 v3 T_uint8 1 s.size (bytesOf (s.bl.getD i.toNat [])) := o3.to rfl (by omega)
    simp -dsimp (disch := omega) only [↓pre, sp, sp2, wp_some, Int.cast_ofNat_Int, Nat.reduceAdd, Nat.reduceMul, Nat.reduceSub, Nat.reduceLeDiff, Nat.reduceEqDiff, Nat.reducePow, Int.reduceToNat, Int.reducePow, Int.reduceAdd, Int.reduceSub, Int.reduceMul, Int.reduceLT, Int.reduceLE, Int.reduceEq, Int.reduceNeg, row_rw t3.box, (Ow.rd t3.l).at]
    refine wp_storeOw K3.w' t3.l rfl (cells_of o3.isCell) rfl (by omega) (by omega) (by simp only [ic, o3.isCell]) fun h4 o4 k4 n4 => ?_
    rw [splice_one _ _ _ hiv] at o4
    obtain ⟨t4, K4, f4⟩ := t.put w (i := i.toNat) K3 o3' e3 f3' k4 o4
    have ev : (vs.set i.toNat v3)[i.toNat]? = some v3 := by rw [List.getElem?_set, if_pos rfl, if_pos hiv]
    have e24 : rLoad (ea lv i.toNat) h4 = some v3 := by rw [(Ow.rd t4.l).ld (by simpa using hiv)]; exact ev
    have o34 : Ow h4 v3 T_uint8 1 s.size (bytesOf (s.bl.getD i.toNat [])) := o3'.ke k4 fun j hj hl => by have := f3' j hj; have := t.l.bk_lt w hl; omega
    have so4 : Bs h4 v3 (s.bl.getD i.toNat []) .rw := (Ow.rd o34).to rfl e3.symm
    simp -dsimp (disch := omega) only [↓pre, sp, sp2, wp_some, Int.cast_ofNat_Int, Nat.reduceAdd, Nat.reduceMul, Nat.reduceSub, Nat.reduceLeDiff, Nat.reduceEqDiff, Nat.reducePow, Int.reduceToNat, Int.reducePow, Int.reduceAdd, Int.reduceSub, Int.reduceMul, Int.reduceLT, Int.reduceLE, Int.reduceEq, Int.reduceNeg, row_rw t4.box, (Ow.rd o4).at, e24, so4.at, so4.ldb]
    have ex : iXor .u8 (gb (s.bl.getD i.toNat []) a.toNat : Int) (x.toNat : Int) = ((((s.bl.getD i.toNat []).getD a.toNat 0) ^^^ x).toNat : Int) := xor_u8 _ _
    rw [ex]
    refine wp_storeOw K4.w' o34 rfl rfl rfl (by rw [bytesOf_length]; omega) (by rw [bytesOf_length]; omega) rfl fun h5 o5 k5 n5 => ?_
    rw [splice_one _ _ _ (by rw [bytesOf_length]; omega), ← bytesOf_set] at o5
    simp -dsimp (disch := omega) only [↓pre, sp, sp2, wp_some, Int.cast_ofNat_Int, Nat.reduceAdd, Nat.reduceMul, Nat.reduceSub, Nat.reduceLeDiff, Nat.reduceEqDiff, Nat.reducePow, Int.reduceToNat, Int.reducePow, Int.reduceAdd, Int.reduceSub, Int.reduceMul, Int.reduceLT, Int.reduceLE, Int.reduceEq, Int.reduceNeg]
    have e : spoilM s i a x = { s with bl := s.bl.set i.toNat ((s.bl.getD i.toNat []).set a.toNat ((s.bl.getD i.toNat []).getD a.toNat 0 ^^^ x)) } := by unfold spoilM; rw [if_pos ⟨c0, h2, by omega⟩]
    rw [e]
    have t5 := t4.poke ev k5 o5 (by simpa using e3) (fun j u hj hu q hq hq2 => by
      rw [List.getElem?_set, if_neg (fun e => hj e.symm)] at hu
      have := f3' q hq
      have := t.lt w (.inr ⟨u, by simp [List.mem_of_getElem? hu], hq2⟩)
      omega)
    dsimp only at t5
    rw [List.set_set] at t5
    refine ⟨?_, _, t5, f4⟩
    exact Ke.new K4 k5 fun j hj => .inr (f3' j hj)
  · simp -dsimp (disch := omega) only [↓pre, sp, sp2, wp_some, Int.cast_ofNat_Int, Nat.reduceAdd, Nat.reduceMul, Nat.reduceSub, Nat.reduceLeDiff, Nat.reduceEqDiff, Nat.reducePow, Int.reduceToNat, Int.reducePow, Int.reduceAdd, Int.reduceSub, Int.reduceMul, Int.reduceLT, Int.reduceLE, Int.reduceEq, Int.reduceNeg]
    have e : spoilM s i a x = s := by
      unfold spoilM
      rw [if_neg]
      rintro ⟨c0, h2, h3⟩
      obtain ⟨hd, h0, h1⟩ := isM_zero c0
      exact c ⟨hd, h0, by omega, h2, h3⟩
    rw [e]
    exact ⟨Ke.refl w, vs, t, fun _ => .inl⟩
theorem rcopy_spec (H : Plain ov) (n : Nat) (w : Wf h) (t : RSto h p s lv vs) :
    Wp (kc ov (n + 1) N_rungref8_Store_Copy [.ptr (some (p, 0))] h) fun r h' => Kp h h' ∧ ∃ q lu, r = .ptr (some (q, 0)) ∧ RSto h' q s lu vs ∧ ∀ i, Mine q lu vs i → Mine p lv vs i ∨ h.n ≤ i := by
  rw [C_rungref8_Store_Copy H]; unfold F_rungref8_Store_Copy
  have hsz := t.sz
  have hcnt := t.cnt
  have htn := t.n
  simp -dsimp (disch := omega) only [↓pre, sp, sp2, wp_some, Int.cast_ofNat_Int, Nat.reduceAdd, Nat.reduceMul, Nat.reduceSub, Nat.reduceLeDiff, Nat.reduceEqDiff, Nat.reducePow, Int.reduceToNat, Int.reducePow, Int.reduceAdd, Int.reduceSub, Int.reduceMul, Int.reduceLT, Int.reduceLE, Int.reduceEq, Int.reduceNeg, row_rw t.box]
  refine wp_box w rfl rfl fun q h1 hq k1 n1 g1 => ?_
  refine wp_store k1.w' g1 rfl rfl (by simp) (by simp only [ic, t.l.isCell]) fun h2 k2 n2 g2 => ?_
  have K2 : Kp h h2 := Ke.new_p k1 k2 fun i hi => by omega
  have t2 := t.kp K2
  simp -dsimp (disch := omega) only [↓pre, sp, sp2, wp_some, Int.cast_ofNat_Int, Nat.reduceAdd, Nat.reduceMul, Nat.reduceSub, Nat.reduceLeDiff, Nat.reduceEqDiff, Nat.reducePow, Int.reduceToNat, Int.reducePow, Int.reduceAdd, Int.reduceSub, Int.reduceMul, Int.reduceLT, Int.reduceLE, Int.reduceEq, Int.reduceNeg, row_rw t2.box]
  refine wp_append K2.w' (Ow.nil h2 T___uint8 1 (by omega)) t2.l.rd t2.l.2.2.1 (by omega) (by omega) fun lu h3 o3 k3 f3 => ?_
  have K3 : Kp h2 h3 := k3.mono fun _ f => f.elim
  have g3 := K3.gt g2
  simp -dsimp (disch := omega) only [↓pre, sp, sp2, wp_some, Int.cast_ofNat_Int, Nat.reduceAdd, Nat.reduceMul, Nat.reduceSub, Nat.reduceLeDiff, Nat.reduceEqDiff, Nat.reducePow, Int.reduceToNat, Int.reducePow, Int.reduceAdd, Int.reduceSub, Int.reduceMul, Int.reduceLT, Int.reduceLE, Int.reduceEq, Int.reduceNeg]
  refine wp_store K3.w' g3 (cells_of o3.isCell) rfl (by simp [splice]) (by simp only [ic, o3.isCell]) fun h4 k4 n4 g4 => ?_
  simp -dsimp (disch := omega) only [↓pre, sp, sp2, wp_some, Int.cast_ofNat_Int, Nat.reduceAdd, Nat.reduceMul, Nat.reduceSub, Nat.reduceLeDiff, Nat.reduceEqDiff, Nat.reducePow, Int.reduceToNat, Int.reducePow, Int.reduceAdd, Int.reduceSub, Int.reduceMul, Int.reduceLT, Int.reduceLE, Int.reduceEq, Int.reduceNeg]
  have kk : Kp h h4 := Ke.new_p (K2.trans K3) k4 fun i hi => by omega
  have f3' : ∀ j, isBk lu j → h2.n ≤ j := fun j hj => (f3 j hj).resolve_left id
  have hqn : q < h2.n := by omega
  have hn2 := k1.n
  refine ⟨kk, q, lu, rfl, ?_, ?_⟩
  · refine { box := by simpa [splice] using g4, l := (o3.ke k4 fun j hj e => by have := f3' j hj; omega).to (by simp) (by simp), n := t.n, rows := fun i v b hv hb => ⟨(t.rows i v b hv hb).1, (t.rows i v b hv hb).2.kp kk⟩, offl := ?_, off := ?_, sz := t.sz, cnt := t.cnt, wr := t.wr, lf := t.lf, pr := t.pr }
    · intro v hv i hi hi2
      have := f3' i hi
      have := t.lt w (.inr ⟨v, by simp [hv], hi2⟩)
      omega
    · intro v hv hi
      rcases List.mem_cons.1 hv with rfl | hv
      · have := f3' _ hi; omega
      · have := t.lt w (.inr ⟨v, by simp [hv], hi⟩)
        omega
  · rintro i (rfl | ⟨v, hv, hi⟩)
    · right; omega
    · rcases List.mem_cons.1 hv with rfl | hv
      · right; have := f3' _ hi; omega
      · left; exact .inr ⟨v, by simp [hv], hi⟩
theorem rnew_spec (H : Plain ov) (n : Nat) (w : Wf h) (blocks size : Int) :
    Wp (kc ov (n + 1) N_rungref8_New [.int .i64 blocks, .int .i64 size] h) fun r h' => Kp h h' ∧ ∃ p lv vs, r = .ptr (some (p, 0)) ∧ RSto h' p (newM blocks size) lv vs ∧ ∀ i, Mine p lv vs i → h.n ≤ i := by
  rw [C_rungref8_New H]; unfold F_rungref8_New
  simp -dsimp (disch := omega) only [↓pre, sp, sp2, wp_some, Int.cast_ofNat_Int, Nat.reduceAdd, Nat.reduceMul, Nat.reduceSub, Nat.reduceLeDiff, Nat.reduceEqDiff, Nat.reducePow, Int.reduceToNat, Int.reducePow, Int.reduceAdd, Int.reduceSub, Int.reduceMul, Int.reduceLT, Int.reduceLE, Int.reduceEq, Int.reduceNeg, splice_def]
  have hsz : ((min (max size 16) 4096).toNat : Int) = min (max size 16) 4096 := by omega
  rw [← hsz]
  generalize hz : (min (max size 16) 4096).toNat = z
  have hzb : 16 ≤ z ∧ z ≤ 4096 := by omega
  refine wp_box w rfl rfl fun p h1 hp k1 n1 g1 => ?_
  simp -dsimp (disch := omega) only [↓pre, sp, sp2, wp_some, Int.cast_ofNat_Int, Nat.reduceAdd, Nat.reduceMul, Nat.reduceSub, Nat.reduceLeDiff, Nat.reduceEqDiff, Nat.reducePow, Int.reduceToNat, Int.reducePow, Int.reduceAdd, Int.reduceSub, Int.reduceMul, Int.reduceLT, Int.reduceLE, Int.reduceEq, Int.reduceNeg]
  have t0 : RSto h1 p ⟨[], z, 0, -1, 0, false⟩ (.slice none 0 0) [] :=
    { box := g1, l := Ow.nil _ _ _ (by omega), n := rfl, rows := fun i v b hv => by simp at hv, offl := by simp, off := fun v hv hi => by simp at hv; subst hv; exact hi, sz := hzb, cnt := by simp, wr := by simp, lf := by simp, pr := by simp }
  have hb : ((min (max blocks 1) 64).toNat : Int) = min (max blocks 1) 64 := by omega
  rw [← hb]
  generalize hB : (min (max blocks 1) 64).toNat = B
  have hBb : 1 ≤ B ∧ B ≤ 64 := by omega
  refine wp_loop (fun m l h2 => ∃ (i : Nat) (lv : AVal) (vs : List AVal), l = [.int .i64 m] ∧ i + m = B ∧ vs.length = i ∧ Kp h h2 ∧ RSto h2 p ⟨List.replicate i (List.replicate z 0), z, 0, -1, 0, false⟩ lv vs ∧ ∀ j, Mine p lv vs j → h.n ≤ j) B (by omega)
    ⟨0, .slice none 0 0, [], rfl, by omega, rfl, k1, t0, ?_⟩ ?_
  · rintro j (rfl | ⟨v, hv, hi⟩)
    · omega
    · simp at hv; subst hv; exact hi.elim
  rintro m _ h2 j ⟨i, lv, vs, rfl, him, hvl, k2, t2, f2⟩ hj
  unfold L_rungref8_New_0
  simp -dsimp (disch := omega) only [↓pre, sp, sp2, wp_some, Int.cast_ofNat_Int, Nat.reduceAdd, Nat.reduceMul, Nat.reduceSub, Nat.reduceLeDiff, Nat.reduceEqDiff, Nat.reducePow, Int.reduceToNat, Int.reducePow, Int.reduceAdd, Int.reduceSub, Int.reduceMul, Int.reduceLT, Int.reduceLE, Int.reduceEq, Int.reduceNeg]
  refine wp_ite (fun c => ?_) (fun c => ?_)
  · simp -dsimp (disch := omega) only [↓pre, sp, sp2, wp_some, Int.cast_ofNat_Int, Nat.reduceAdd, Nat.reduceMul, Nat.reduceSub, Nat.reduceLeDiff, Nat.reduceEqDiff, Nat.reducePow, Int.reduceToNat, Int.reducePow, Int.reduceAdd, Int.reduceSub, Int.reduceMul, Int.reduceLT, Int.reduceLE, Int.reduceEq, Int.reduceNeg, row_rw t2.box]
    refine wp_makeSl k2.w' (by omega) (by omega) (by omega) (by omega) rfl (by omega) rfl fun q h3 hq k3 n3 g3 => ?_
    rw [Int.toNat_natCast, manyT_u8] at g3
    simp -dsimp (disch := omega) only [↓pre, sp, sp2, wp_some, Int.cast_ofNat_Int, Nat.reduceAdd, Nat.reduceMul, Nat.reduceSub, Nat.reduceLeDiff, Nat.reduceEqDiff, Nat.reducePow, Int.reduceToNat, Int.reducePow, Int.reduceAdd, Int.reduceSub, Int.reduceMul, Int.reduceLT, Int.reduceLE, Int.reduceEq, Int.reduceNeg]
    refine wp_buildSl (cs := [.slice (some (q, 0, 1)) z z]) k3.w' ⟨by decide, rfl, by decide⟩ rfl rfl fun r h4 hr k4 n4 g4 => ?_
    have t4 := t2.kp (k3.trans k4)
    simp -dsimp (disch := omega) only [↓pre, sp, sp2, wp_some, Int.cast_ofNat_Int, Nat.reduceAdd, Nat.reduceMul, Nat.reduceSub, Nat.reduceLeDiff, Nat.reduceEqDiff, Nat.reducePow, Int.reduceToNat, Int.reducePow, Int.reduceAdd, Int.reduceSub, Int.reduceMul, Int.reduceLT, Int.reduceLE, Int.reduceEq, Int.reduceNeg, row_rw t4.box]
    have s4 : Sz h4 (.slice (some (r, 0, 1)) 1 1) 1 1 [.slice (some (q, 0, 1)) z z] .rw := (Ow.new g4 (by omega) 1 rfl rfl).rd
    refine wp_append k4.w' t4.l s4 rfl (by omega) (by omega) fun lv' h5 o5 k5 f5 => ?_
    have g5 := k5.gt t4.box (t4.off lv (by simp))
    simp -dsimp (disch := omega) only [↓pre, sp, sp2, wp_some, Int.cast_ofNat_Int, Nat.reduceAdd, Nat.reduceMul, Nat.reduceSub, Nat.reduceLeDiff, Nat.reduceEqDiff, Nat.reducePow, Int.reduceToNat, Int.reducePow, Int.reduceAdd, Int.reduceSub, Int.reduceMul, Int.reduceLT, Int.reduceLE, Int.reduceEq, Int.reduceNeg, row_rw g5]
    refine wp_store k5.w' g5 (cells_of o5.isCell) rfl (by simp) (by simp only [ic, o5.isCell]) fun h6 k6 n6 g6 => ?_
    have e1 : IntKind.wrap .i64 ((m : Int) - 1) = ((m - 1 : Nat) : Int) := by rw [wr_i64 (by omega) (by omega)]; omega
    simp -dsimp (disch := omega) only [↓pre, sp, sp2, wp_some, Int.cast_ofNat_Int, Nat.reduceAdd, Nat.reduceMul, Nat.reduceSub, Nat.reduceLeDiff, Nat.reduceEqDiff, Nat.reducePow, Int.reduceToNat, Int.reducePow, Int.reduceAdd, Int.reduceSub, Int.reduceMul, Int.reduceLT, Int.reduceLE, Int.reduceEq, Int.reduceNeg, e1]
    have hpn := k2.w'.lt _ _ t2.box
    have hn34 := (k3.trans k4).n
    have hlvp : ∀ i, isBk lv' i → i ≠ p := fun i hi e => by
      rcases f5 i hi with f | f
      · exact t4.off lv (by simp) (e ▸ f)
      · omega
    have gq : h6.get q = some ⟨.row (bytesOf (List.replicate z 0)) T_uint8 false, .rw, []⟩ :=
      k6.gt (k5.gt (k4.gt g3) (fun hb => by have := t2.l.bk_lt k2.w' hb; omega)) (by omega)
    have kk : Ke (fun i => i = p ∨ isBk lv i) h2 h6 := (Kp.ke (k3.trans k4)).trans ((k5.mono fun _ x => .inr x).trans (k6.mono fun _ x => .inl x))
    have ov6 : Ow h6 (.slice (some (q, 0, 1)) z z) T_uint8 1 z (bytesOf (List.replicate z 0)) := Ow.new gq (by omega) z (by simp [bytesOf]) (isCell_bytes _)
    have hrow := t2.rows
    have hofl := t2.offl
    have hoff := t2.off
    refine hj (m - 1) _ _ (by omega) ⟨i + 1, lv', vs ++ [.slice (some (q, 0, 1)) z z], rfl, by omega, by simp [hvl], ?_, ?_, ?_⟩
    · refine Ke.new_p k2 kk fun i hi => ?_
      rcases hi with rfl | hi
      · exact f2 i (.inl rfl)
      · exact f2 i (.inr ⟨lv, by simp, hi⟩)
    · refine { box := by simpa [splice] using g6, l := (o5.ke k6 fun i hi e => hlvp i hi e).to rfl (by simp), n := by simp [hvl], rows := ?_, offl := ?_, off := ?_, sz := hzb, cnt := by simp; omega, wr := by simp, lf := by simp, pr := by simp }
      · intro a v b hv hb
        simp only [List.getElem?_replicate] at hb
        split at hb <;> simp only [Option.some.injEq, reduceCtorEq] at hb
        subst hb
        refine ⟨by simp, ?_⟩
        by_cases ca : a < vs.length
        · rw [List.getElem?_append_left ca] at hv
          have := hrow a v (List.replicate z 0) hv (by simp only [List.getElem?_replicate]; rw [if_pos (by omega)])
          have hm : v ∈ vs := List.mem_of_getElem? hv
          exact this.2.ke kk fun j hj => by
            rintro (e | e)
            · exact hoff v (by simp [hm]) (e ▸ hj)
            · exact hofl v hm j e hj
        · rw [List.getElem?_append_right (by omega)] at hv
          have e : a - vs.length = 0 := by
            have := (List.getElem?_eq_some_iff.1 hv).1
            simp at this; omega
          rw [e] at hv
          simp only [List.getElem?_cons_zero, Option.some.injEq] at hv
          subst hv
          exact ov6
      · intro v hv a ha ha2
        rcases List.mem_append.1 hv with hm | hm
        · rcases f5 a ha with f | f
          · exact hofl v hm a f ha2
          · have := t2.lt k2.w' (.inr ⟨v, by simp [hm], ha2⟩); omega
        · simp only [List.mem_singleton] at hm
          subst hm
          simp only [isBk] at ha2
          rcases f5 a ha with f | f
          · have := t2.l.bk_lt k2.w' f; omega
          · have := k4.n; omega
      · intro v hv hp2
        simp only [List.mem_cons, List.mem_append, List.not_mem_nil, or_false] at hv
        rcases hv with rfl | hm | rfl
        · exact hlvp p hp2 rfl
        · exact hoff v (by simp [hm]) hp2
        · simp only [isBk] at hp2; omega
    · have hn2 := k2.n
      rintro j (rfl | ⟨v, hv, hi⟩)
      · exact f2 j (.inl rfl)
      · simp only [List.mem_cons, List.mem_append, List.not_mem_nil, or_false] at hv
        rcases hv with rfl | hv | rfl
        · rcases f5 j hi with f | f
          · exact f2 j (.inr ⟨lv, by simp, f⟩)
          · omega
        · exact f2 j (.inr ⟨v, by simp [hv], hi⟩)
        · simp only [isBk] at hi; omega
  · simp -dsimp (disch := omega) only [↓pre, sp, sp2, wp_some, Int.cast_ofNat_Int, Nat.reduceAdd, Nat.reduceMul, Nat.reduceSub, Nat.reduceLeDiff, Nat.reduceEqDiff, Nat.reducePow, Int.reduceToNat, Int.reducePow, Int.reduceAdd, Int.reduceSub, Int.reduceMul, Int.reduceLT, Int.reduceLE, Int.reduceEq, Int.reduceNeg]
    have : i = B := by omega
    subst this
    refine ⟨k2, p, lv, vs, rfl, ?_, f2⟩
    unfold newM
    rw [hz, hB]
    exact t2
end Go.Proofs.Ytbicodikokfokaa.AI
