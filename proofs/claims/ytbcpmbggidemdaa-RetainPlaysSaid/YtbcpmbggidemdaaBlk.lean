/- block: what its functions come to. -/
import Derived.Test.YtbcpmbggidemdaaClone
namespace Go.Proofs.Ytbcpmbggidemdaa.AI
open Go
set_option linter.unusedSimpArgs false
set_option linter.unusedVariables false
variable {ov : AOver} {h : AH} {v : AVal} {md : AMode}

/-- A store: its blocks, their size, how many writes, how many are left, a prefix; is it dead? -/
structure BSt where
  bl : List (List UInt8)
  size : Nat
  writes : Nat
  left : Int
  pre : Int
  dead : Bool
/-- No two of these slices have a block in common. -/
def Apart (vs : List AVal) : Prop := vs.Pairwise fun a b => ∀ i, isBk a i → ¬ isBk b i
/-- The store lies at p: its row of slices, its slices. -/
structure Sto (h : AH) (p : Nat) (s : BSt) (lv : AVal) (vs : List AVal) : Prop where
  box : h.get p = some ⟨.row [lv, .int .i64 s.size, .int .i64 s.writes, .int .i64 s.left, .int .i64 s.pre, .bool s.dead] T_block_Store false, .rw, []⟩
  l : Ow h lv T___uint8 1 vs.length vs
  n : s.bl.length = vs.length
  rows : ∀ (i : Nat) v b, vs[i]? = some v → s.bl[i]? = some b → b.length = s.size ∧ Ow h v T_uint8 1 s.size (bytesOf b)
  apart : Apart (lv :: vs)
  off : ∀ v ∈ lv :: vs, ¬ isBk v p
  sz : 16 ≤ s.size ∧ s.size ≤ 4096
  cnt : vs.length ≤ 64
  wr : s.writes < 2 ^ 62
  lf : -1 ≤ s.left ∧ s.left < 9223372036854775808
  pr : -9223372036854775808 ≤ s.pre ∧ s.pre < 9223372036854775808
/-- The blocks that are the store's. -/
def Mine (p : Nat) (lv : AVal) (vs : List AVal) (i : Nat) : Prop := i = p ∨ ∃ v ∈ lv :: vs, isBk v i
variable {p : Nat} {s : BSt} {lv : AVal} {vs : List AVal}
theorem Sto.ke {S : Nat → Prop} {h' : AH} (t : Sto h p s lv vs) (k : Ke S h h') (hS : ∀ i, Mine p lv vs i → ¬ S i) : Sto h' p s lv vs :=
  { t with
    box := k.gt t.box (hS p (.inl rfl))
    l := t.l.ke k fun i hi => hS i (.inr ⟨lv, by simp, hi⟩)
    rows := fun i v b hv hb => ⟨(t.rows i v b hv hb).1, (t.rows i v b hv hb).2.ke k fun j hj => hS j (.inr ⟨v, by simp [List.mem_of_getElem? hv], hj⟩)⟩ }
theorem Sto.kp {h' : AH} (t : Sto h p s lv vs) (k : Kp h h') : Sto h' p s lv vs := t.ke k fun _ _ => id
theorem Sto.lt (w : Wf h) (t : Sto h p s lv vs) {i : Nat} (hi : Mine p lv vs i) : i < h.n := by
  rcases hi with rfl | ⟨v, hv, hi⟩
  · exact w.lt _ _ t.box
  · rcases List.mem_cons.1 hv with rfl | hv
    · exact t.l.bk_lt w hi
    · obtain ⟨j, hj, e⟩ := List.getElem_of_mem hv
      have hb : j < s.bl.length := by rw [t.n]; exact hj
      exact (t.rows j v s.bl[j] (by rw [← e]; exact List.getElem?_eq_getElem hj) (List.getElem?_eq_getElem hb)).2.bk_lt w hi

/-- What is wrong with a block that must be there. -/
def isM (s : BSt) (i : Int) : Int := if s.dead = true then 82 else if i < 0 ∨ s.bl.length ≤ i then 80 else 0
theorem is_spec (H : Plain ov) (n : Nat) (t : Sto h p s lv vs) (i : Int) : kc ov (n + 1) N_block_Store_is [.ptr (some (p, 0)), .int .i64 i] h = some (.int .i64 (isM s i), h) := by
  apply Wp.eq
  rw [C_block_Store_is H]; unfold F_block_Store_is
  have hl := t.n
  (try simp -dsimp (disch := omega) only [↓pre, sp, sp2, wp_some, Int.cast_ofNat_Int, Nat.reduceAdd, Nat.reduceMul, Nat.reduceSub, Nat.reduceLeDiff, Nat.reduceEqDiff, Nat.reducePow, Int.reduceToNat, Int.reducePow, Int.reduceAdd, Int.reduceSub, Int.reduceMul, Int.reduceLT, Int.reduceLE, Int.reduceEq, Int.reduceNeg, row_rw t.box])
  cases hd : s.dead
  · have e : isM s i = if i < 0 ∨ s.bl.length ≤ i then 80 else 0 := by simp [isM, hd]
    rw [e]
    (try simp -dsimp (disch := omega) only [↓pre, sp, sp2, wp_some, Int.cast_ofNat_Int, Nat.reduceAdd, Nat.reduceMul, Nat.reduceSub, Nat.reduceLeDiff, Nat.reduceEqDiff, Nat.reducePow, Int.reduceToNat, Int.reducePow, Int.reduceAdd, Int.reduceSub, Int.reduceMul, Int.reduceLT, Int.reduceLE, Int.reduceEq, Int.reduceNeg])
    refine wp_kT (.bool (decide (i < 0 ∨ s.bl.length ≤ i))) (fun j hj => ?_) ?_
    · by_cases c : i < 0
      · (try simp -dsimp (disch := omega) only [↓pre, sp, sp2, wp_some, Int.cast_ofNat_Int, Nat.reduceAdd, Nat.reduceMul, Nat.reduceSub, Nat.reduceLeDiff, Nat.reduceEqDiff, Nat.reducePow, Int.reduceToNat, Int.reducePow, Int.reduceAdd, Int.reduceSub, Int.reduceMul, Int.reduceLT, Int.reduceLE, Int.reduceEq, Int.reduceNeg, c]); simpa [c] using hj
      · (try simp -dsimp (disch := omega) only [↓pre, sp, sp2, wp_some, Int.cast_ofNat_Int, Nat.reduceAdd, Nat.reduceMul, Nat.reduceSub, Nat.reduceLeDiff, Nat.reduceEqDiff, Nat.reducePow, Int.reduceToNat, Int.reducePow, Int.reduceAdd, Int.reduceSub, Int.reduceMul, Int.reduceLT, Int.reduceLE, Int.reduceEq, Int.reduceNeg, c, row_rw t.box, (Ow.rd t.l).len])
        have e : (i ≥ (vs.length : Int)) ↔ (s.bl.length : Int) ≤ i := by omega
        simpa only [c, e, false_or] using hj
    · (try simp -dsimp (disch := omega) only [↓pre, sp, sp2, wp_some, Int.cast_ofNat_Int, Nat.reduceAdd, Nat.reduceMul, Nat.reduceSub, Nat.reduceLeDiff, Nat.reduceEqDiff, Nat.reducePow, Int.reduceToNat, Int.reducePow, Int.reduceAdd, Int.reduceSub, Int.reduceMul, Int.reduceLT, Int.reduceLE, Int.reduceEq, Int.reduceNeg])
      refine wp_ite (fun c => ?_) (fun c => ?_)
      · (try simp -dsimp (disch := omega) only [↓pre, sp, sp2, wp_some, Int.cast_ofNat_Int, Nat.reduceAdd, Nat.reduceMul, Nat.reduceSub, Nat.reduceLeDiff, Nat.reduceEqDiff, Nat.reducePow, Int.reduceToNat, Int.reducePow, Int.reduceAdd, Int.reduceSub, Int.reduceMul, Int.reduceLT, Int.reduceLE, Int.reduceEq, Int.reduceNeg])
        rw [if_pos c]
      · (try simp -dsimp (disch := omega) only [↓pre, sp, sp2, wp_some, Int.cast_ofNat_Int, Nat.reduceAdd, Nat.reduceMul, Nat.reduceSub, Nat.reduceLeDiff, Nat.reduceEqDiff, Nat.reducePow, Int.reduceToNat, Int.reducePow, Int.reduceAdd, Int.reduceSub, Int.reduceMul, Int.reduceLT, Int.reduceLE, Int.reduceEq, Int.reduceNeg])
        rw [if_neg c]
  · have e : isM s i = 82 := by simp [isM, hd]
    rw [e]
    (try simp -dsimp (disch := omega) only [↓pre, sp, sp2, wp_some, Int.cast_ofNat_Int, Nat.reduceAdd, Nat.reduceMul, Nat.reduceSub, Nat.reduceLeDiff, Nat.reduceEqDiff, Nat.reducePow, Int.reduceToNat, Int.reducePow, Int.reduceAdd, Int.reduceSub, Int.reduceMul, Int.reduceLT, Int.reduceLE, Int.reduceEq, Int.reduceNeg])

/-- A store that is read. -/
def readM (s : BSt) (i : Int) : List UInt8 × Int := if isM s i = 0 then (s.bl.getD i.toNat [], 0) else ([], isM s i)
theorem isM_zero {s : BSt} {i : Int} (h : isM s i = 0) : s.dead = false ∧ 0 ≤ i ∧ i < s.bl.length := by
  unfold isM at h
  split at h
  · omega
  · split at h
    · omega
    · rename_i h1 h2
      refine ⟨by simpa using h1, by omega, by omega⟩
theorem Sto.at (t : Sto h p s lv vs) {i : Nat} (hi : i < s.bl.length) : ∃ v, vs[i]? = some v ∧ rLoad (ea lv i) h = some v ∧ (s.bl.getD i []).length = s.size ∧ Ow h v T_uint8 1 s.size (bytesOf (s.bl.getD i [])) := by
  have hv : i < vs.length := by have := t.n; omega
  have e1 := List.getElem?_eq_getElem hv
  have e2 := List.getElem?_eq_getElem hi
  have e3 : s.bl.getD i [] = s.bl[i] := by simp [List.getD, e2]
  have := t.rows i _ _ e1 e2
  rw [e3]
  exact ⟨vs[i], e1, by rw [(Ow.rd t.l).ld hv]; exact e1, this.1, this.2⟩
theorem read_spec (H : Plain ov) (n : Nat) (w : Wf h) (t : Sto h p s lv vs) (i : Int) :
    Wp (kc ov (n + 2) N_block_Store_Read [.ptr (some (p, 0)), .int .i64 i] h) fun r h' => Kp h h' ∧ ∃ v, r = .tuple [v, .int .i64 (readM s i).2] ∧ Ob h' v (readM s i).1 ∧ Fresh h v := by
  rw [C_block_Store_Read H]; unfold F_block_Store_Read
  have hl := t.n
  (try simp -dsimp (disch := omega) only [↓pre, sp, sp2, wp_some, Int.cast_ofNat_Int, Nat.reduceAdd, Nat.reduceMul, Nat.reduceSub, Nat.reduceLeDiff, Nat.reduceEqDiff, Nat.reducePow, Int.reduceToNat, Int.reducePow, Int.reduceAdd, Int.reduceSub, Int.reduceMul, Int.reduceLT, Int.reduceLE, Int.reduceEq, Int.reduceNeg, is_spec H n t])
  refine wp_ite (fun c => ?_) (fun c => ?_)
  · (try simp -dsimp (disch := omega) only [↓pre, sp, sp2, wp_some, Int.cast_ofNat_Int, Nat.reduceAdd, Nat.reduceMul, Nat.reduceSub, Nat.reduceLeDiff, Nat.reduceEqDiff, Nat.reducePow, Int.reduceToNat, Int.reducePow, Int.reduceAdd, Int.reduceSub, Int.reduceMul, Int.reduceLT, Int.reduceLE, Int.reduceEq, Int.reduceNeg])
    refine ⟨Ke.refl w, ?_⟩
    have e : readM s i = ([], isM s i) := by unfold readM; rw [if_neg c]
    rw [e]
    exact ⟨_, rfl, Ow.nil h _ _ (by omega), fun i hi => hi.elim⟩
  · have c' : isM s i = 0 := by simpa using c
    obtain ⟨hd, h0, h1⟩ := isM_zero c'
    obtain ⟨v, e1, e2, e3, o⟩ := t.at (i := i.toNat) (by omega)
    (try simp -dsimp (disch := omega) only [↓pre, sp, sp2, wp_some, Int.cast_ofNat_Int, Nat.reduceAdd, Nat.reduceMul, Nat.reduceSub, Nat.reduceLeDiff, Nat.reduceEqDiff, Nat.reducePow, Int.reduceToNat, Int.reducePow, Int.reduceAdd, Int.reduceSub, Int.reduceMul, Int.reduceLT, Int.reduceLE, Int.reduceEq, Int.reduceNeg, row_rw t.box, (Ow.rd t.l).at, e2])
    have s2 : Bs h v (s.bl.getD i.toNat []) .rw := (Ow.rd o).to rfl e3.symm
    refine Wp.bind (clone_spec H n w s2 (by have := t.sz; omega)) fun v2 h2 ⟨k2, o2, f2⟩ => ?_
    (try simp -dsimp (disch := omega) only [↓pre, sp, sp2, wp_some, Int.cast_ofNat_Int, Nat.reduceAdd, Nat.reduceMul, Nat.reduceSub, Nat.reduceLeDiff, Nat.reduceEqDiff, Nat.reducePow, Int.reduceToNat, Int.reducePow, Int.reduceAdd, Int.reduceSub, Int.reduceMul, Int.reduceLT, Int.reduceLE, Int.reduceEq, Int.reduceNeg])
    refine ⟨k2, v2, ?_, ?_, f2⟩
    · simp [readM, c']
    · simp only [readM, c', if_true]; exact o2

theorem Sto.setRow (t : Sto h p s lv vs) {i : Nat} {v : AVal} (hv : vs[i]? = some v) {h' : AH} (k : Ke (isBk v) h h') {b : List UInt8} (o : Ow h' v T_uint8 1 s.size (bytesOf b)) (hb : b.length = s.size) : Sto h' p { s with bl := s.bl.set i b } lv vs := by
  have hiv : i < vs.length := (List.getElem?_eq_some_iff.1 hv).1
  have hmem : v ∈ vs := List.mem_of_getElem? hv
  have hap := t.apart
  unfold Apart at hap
  rw [List.pairwise_cons] at hap
  refine { t with box := k.gt t.box (t.off v (by simp [hmem])), l := t.l.ke k fun j hj => hap.1 v hmem j hj, n := by simpa using t.n, rows := ?_ }
  intro j v' b' hv' hb'
  simp only [List.getElem?_set] at hb'
  split at hb'
  · rename_i e
    subst e
    rw [hv] at hv'
    simp only [Option.some.injEq] at hv'
    subst hv'
    split at hb'
    · simp only [Option.some.injEq] at hb'
      subst hb'
      exact ⟨hb, o⟩
    · cases hb'
  · rename_i hne
    obtain ⟨h1, h2⟩ := t.rows j v' b' hv' hb'
    refine ⟨h1, h2.ke k fun q hq => ?_⟩
    have hj : j < vs.length := (List.getElem?_eq_some_iff.1 hv').1
    have ei : vs[i] = v := (List.getElem?_eq_some_iff.1 hv).2
    have ej : vs[j] = v' := (List.getElem?_eq_some_iff.1 hv').2
    have hp := List.pairwise_iff_getElem.1 hap.2
    rcases Nat.lt_or_ge i j with hlt | hge
    · have := hp i j hiv hj hlt q
      rw [ei, ej] at this
      exact fun c => this c hq
    · have := hp j i hj hiv (by omega) q
      rw [ei, ej] at this
      exact this hq
theorem Sto.setBox (t : Sto h p s lv vs) {h' : AH} (k : Ke (· = p) h h') {wr : Nat} {lf pr : Int} {dd : Bool}
    (g : h'.get p = some ⟨.row [lv, .int .i64 s.size, .int .i64 wr, .int .i64 lf, .int .i64 pr, .bool dd] T_block_Store false, .rw, []⟩)
    (hw : wr < 2 ^ 62) (hl : -1 ≤ lf ∧ lf < 9223372036854775808) (hp : -9223372036854775808 ≤ pr ∧ pr < 9223372036854775808) : Sto h' p { s with writes := wr, left := lf, pre := pr, dead := dd } lv vs :=
  { t with
    box := g
    l := t.l.ke k fun i hi e => t.off lv (by simp) (e ▸ hi)
    rows := fun i v b hv hb => ⟨(t.rows i v b hv hb).1, (t.rows i v b hv hb).2.ke k fun j hj e => t.off v (by simp [List.mem_of_getElem? hv]) (e ▸ hj)⟩
    wr := hw
    lf := hl
    pr := hp }

/-- A store that is written. -/
def writeM (s : BSt) (i : Int) (b : List UInt8) : BSt × Int :=
  if isM s i ≠ 0 then (s, isM s i) else
  if b.length ≠ s.size then (s, 81) else
  if s.left = 0 then ({ s with bl := s.bl.set i.toNat (b.take (min (max s.pre 0) s.size).toNat ++ (s.bl.getD i.toNat []).drop (min (max s.pre 0) s.size).toNat), dead := true }, 82) else
  ({ s with bl := s.bl.set i.toNat b, left := max (s.left - 1) (-1), writes := s.writes + 1 }, 0)
theorem bytesOf_take_drop (b c : List UInt8) (k : Nat) : (bytesOf b).take k ++ (bytesOf c).drop k = bytesOf (b.take k ++ c.drop k) := by rw [bytesOf_take, bytesOf_drop, bytesOf_append]
theorem write_store_spec (H : Plain ov) (n : Nat) (w : Wf h) (t : Sto h p s lv vs) (i : Int) {bv : AVal} {b : List UInt8} (sb : Bs h bv b md) (hm : md = .ro ∨ ¬ Mine p lv vs (bk bv)) (hwr : s.writes < 2 ^ 62 - 1) :
    Wp (kc ov (n + 2) N_block_Store_Write [.ptr (some (p, 0)), .int .i64 i, bv] h) fun r h' => r = .int .i64 (writeM s i b).2 ∧ Sto h' p (writeM s i b).1 lv vs ∧ Ke (Mine p lv vs) h h' := by
  rw [C_block_Store_Write H]; unfold F_block_Store_Write
  have hl := t.n
  have hsz := t.sz
  have hlf := t.lf
  have hpr := t.pr
  (try simp -dsimp (disch := omega) only [↓pre, sp, sp2, wp_some, Int.cast_ofNat_Int, Nat.reduceAdd, Nat.reduceMul, Nat.reduceSub, Nat.reduceLeDiff, Nat.reduceEqDiff, Nat.reducePow, Int.reduceToNat, Int.reducePow, Int.reduceAdd, Int.reduceSub, Int.reduceMul, Int.reduceLT, Int.reduceLE, Int.reduceEq, Int.reduceNeg, is_spec H n t])
  refine wp_ite (fun c => ?_) (fun c => ?_)
  · (try simp -dsimp (disch := omega) only [↓pre, sp, sp2, wp_some, Int.cast_ofNat_Int, Nat.reduceAdd, Nat.reduceMul, Nat.reduceSub, Nat.reduceLeDiff, Nat.reduceEqDiff, Nat.reducePow, Int.reduceToNat, Int.reducePow, Int.reduceAdd, Int.reduceSub, Int.reduceMul, Int.reduceLT, Int.reduceLE, Int.reduceEq, Int.reduceNeg])
    have e : writeM s i b = (s, isM s i) := by unfold writeM; rw [if_pos c]
    rw [e]
    exact ⟨rfl, t, Ke.refl w⟩
  have c' : isM s i = 0 := by simpa using c
  obtain ⟨hd, h0, h1⟩ := isM_zero c'
  obtain ⟨v, e1, e2, e3, o⟩ := t.at (i := i.toNat) (by omega)
  (try simp -dsimp (disch := omega) only [↓pre, sp, sp2, wp_some, Int.cast_ofNat_Int, Nat.reduceAdd, Nat.reduceMul, Nat.reduceSub, Nat.reduceLeDiff, Nat.reduceEqDiff, Nat.reducePow, Int.reduceToNat, Int.reducePow, Int.reduceAdd, Int.reduceSub, Int.reduceMul, Int.reduceLT, Int.reduceLE, Int.reduceEq, Int.reduceNeg, row_rw t.box, sb.len])
  refine wp_ite (fun c2 => ?_) (fun c2 => ?_)
  · (try simp -dsimp (disch := omega) only [↓pre, sp, sp2, wp_some, Int.cast_ofNat_Int, Nat.reduceAdd, Nat.reduceMul, Nat.reduceSub, Nat.reduceLeDiff, Nat.reduceEqDiff, Nat.reducePow, Int.reduceToNat, Int.reducePow, Int.reduceAdd, Int.reduceSub, Int.reduceMul, Int.reduceLT, Int.reduceLE, Int.reduceEq, Int.reduceNeg])
    have e : writeM s i b = (s, 81) := by unfold writeM; rw [if_neg c, if_pos (by omega)]
    rw [e]
    exact ⟨rfl, t, Ke.refl w⟩
  have c2' : b.length = s.size := by omega
  have hvm : v ∈ vs := List.mem_of_getElem? e1
  have hkv : ∀ {a b : AH}, Ke (isBk v) a b → Ke (Mine p lv vs) a b := fun k => k.mono fun j hj => .inr ⟨v, by simp [hvm], hj⟩
  have hkp : ∀ {a b : AH}, Ke (· = p) a b → Ke (Mine p lv vs) a b := fun k => k.mono fun j hj => .inl hj
  refine wp_ite (fun c3 => ?_) (fun c3 => ?_)
  · (try simp -dsimp (disch := omega) only [↓pre, sp, sp2, wp_some, Int.cast_ofNat_Int, Nat.reduceAdd, Nat.reduceMul, Nat.reduceSub, Nat.reduceLeDiff, Nat.reduceEqDiff, Nat.reducePow, Int.reduceToNat, Int.reducePow, Int.reduceAdd, Int.reduceSub, Int.reduceMul, Int.reduceLT, Int.reduceLE, Int.reduceEq, Int.reduceNeg, row_rw t.box, (Ow.rd t.l).at, e2])
    obtain ⟨v', e4, s4, hd4⟩ := o.cutR (q := .i64) (b := min (max s.pre 0) s.size) (by omega) (by omega)
    (try simp -dsimp (disch := omega) only [↓pre, sp, sp2, wp_some, Int.cast_ofNat_Int, Nat.reduceAdd, Nat.reduceMul, Nat.reduceSub, Nat.reduceLeDiff, Nat.reduceEqDiff, Nat.reducePow, Int.reduceToNat, Int.reducePow, Int.reduceAdd, Int.reduceSub, Int.reduceMul, Int.reduceLT, Int.reduceLE, Int.reduceEq, Int.reduceNeg, e4])
    have hbk : md = .ro ∨ ¬ isBk v (bk bv) := hm.imp id fun x y => x (.inr ⟨v, by simp [hvm], y⟩)
    refine wp_copyOw w o (.inr hd4) sb (isCell_bytes b) fun h1 o1 k1 n1 => ?_
    rw [Nat.mul_one, bytesOf_take_drop, show min b.length (min (max s.pre 0) (s.size : Int)).toNat = (min (max s.pre 0) (s.size : Int)).toNat by omega] at o1
    have t1 := t.setRow e1 k1 o1 (by rw [List.length_append, List.length_take, List.length_drop]; omega)
    (try simp -dsimp (disch := omega) only [↓pre, sp, sp2, wp_some, Int.cast_ofNat_Int, Nat.reduceAdd, Nat.reduceMul, Nat.reduceSub, Nat.reduceLeDiff, Nat.reduceEqDiff, Nat.reducePow, Int.reduceToNat, Int.reducePow, Int.reduceAdd, Int.reduceSub, Int.reduceMul, Int.reduceLT, Int.reduceLE, Int.reduceEq, Int.reduceNeg])
    refine wp_store k1.w' t1.box rfl rfl (by simp) rfl fun h2 k2 n2 g2 => ?_
    (try simp -dsimp (disch := omega) only [↓pre, sp, sp2, wp_some, Int.cast_ofNat_Int, Nat.reduceAdd, Nat.reduceMul, Nat.reduceSub, Nat.reduceLeDiff, Nat.reduceEqDiff, Nat.reducePow, Int.reduceToNat, Int.reducePow, Int.reduceAdd, Int.reduceSub, Int.reduceMul, Int.reduceLT, Int.reduceLE, Int.reduceEq, Int.reduceNeg])
    have t2 := t1.setBox k2 (wr := s.writes) (lf := s.left) (pr := s.pre) (dd := true) g2 t.wr t.lf t.pr
    have e : writeM s i b = ({ s with bl := s.bl.set i.toNat (b.take (min (max s.pre 0) s.size).toNat ++ (s.bl.getD i.toNat []).drop (min (max s.pre 0) s.size).toNat), dead := true }, 82) := by
      unfold writeM; rw [if_neg c, if_neg (by omega), if_pos c3]
    rw [e]
    exact ⟨rfl, t2, (hkv k1).trans (hkp k2)⟩
  · refine wp_store w t.box rfl rfl (by simp) rfl fun h2 k2 n2 g2 => ?_
    have t2 := t.setBox k2 (wr := s.writes) (lf := max (s.left - 1) (-1)) (pr := s.pre) (dd := s.dead) g2 t.wr (by omega) t.pr
    obtain ⟨v2, e12, e22, e32, o2⟩ := t2.at (i := i.toNat) (by show i.toNat < s.bl.length; omega)
    rw [e1] at e12
    simp only [Option.some.injEq] at e12
    subst e12
    have sb2 := sb.ke k2 (hm.imp id fun x y => x (.inl y))
    (try simp -dsimp (disch := omega) only [↓pre, sp, sp2, wp_some, Int.cast_ofNat_Int, Nat.reduceAdd, Nat.reduceMul, Nat.reduceSub, Nat.reduceLeDiff, Nat.reduceEqDiff, Nat.reducePow, Int.reduceToNat, Int.reducePow, Int.reduceAdd, Int.reduceSub, Int.reduceMul, Int.reduceLT, Int.reduceLE, Int.reduceEq, Int.reduceNeg, row_rw t2.box, (Ow.rd t2.l).at, e22])
    refine wp_copyOw k2.w' o2 (.inl ⟨rfl, rfl⟩) sb2 (isCell_bytes b) fun h1 o1 k1 n1 => ?_
    have ed : (bytesOf b).take (min b.length s.size * 1) ++ (bytesOf (s.bl.getD i.toNat [])).drop (min b.length s.size * 1) = bytesOf b := by
      rw [Nat.mul_one, bytesOf_take_drop, List.take_of_length_le (by omega), List.drop_of_length_le (by omega), List.append_nil]
    have t1 := t2.setRow e1 k1 (o1.to ed rfl) c2'
    have hwi : IntKind.wrap .i64 ((s.writes : Int) + 1) = ((s.writes + 1 : Nat) : Int) := by rw [wr_i64 (by omega) (by omega)]; omega
    (try simp -dsimp (disch := omega) only [↓pre, sp, sp2, wp_some, Int.cast_ofNat_Int, Nat.reduceAdd, Nat.reduceMul, Nat.reduceSub, Nat.reduceLeDiff, Nat.reduceEqDiff, Nat.reducePow, Int.reduceToNat, Int.reducePow, Int.reduceAdd, Int.reduceSub, Int.reduceMul, Int.reduceLT, Int.reduceLE, Int.reduceEq, Int.reduceNeg, row_rw t1.box, hwi])
    refine wp_store k1.w' t1.box rfl rfl (by simp) rfl fun h3 k3 n3 g3 => ?_
    have t3 := t1.setBox k3 (wr := s.writes + 1) (lf := max (s.left - 1) (-1)) (pr := s.pre) (dd := s.dead) g3 (by omega) (by omega) t.pr
    (try simp -dsimp (disch := omega) only [↓pre, sp, sp2, wp_some, Int.cast_ofNat_Int, Nat.reduceAdd, Nat.reduceMul, Nat.reduceSub, Nat.reduceLeDiff, Nat.reduceEqDiff, Nat.reducePow, Int.reduceToNat, Int.reducePow, Int.reduceAdd, Int.reduceSub, Int.reduceMul, Int.reduceLT, Int.reduceLE, Int.reduceEq, Int.reduceNeg])
    have e : writeM s i b = ({ s with bl := s.bl.set i.toNat b, left := max (s.left - 1) (-1), writes := s.writes + 1 }, 0) := by
      unfold writeM; rw [if_neg c, if_neg (by omega), if_neg c3]
    rw [e]
    exact ⟨rfl, t3, (hkp k2).trans ((hkv k1).trans (hkp k3))⟩

theorem cut_spec (H : Plain ov) (n : Nat) (w : Wf h) (t : Sto h p s lv vs) (k pr : Int) (hk : k < 9223372036854775808) (hp : -9223372036854775808 ≤ pr ∧ pr < 9223372036854775808) :
    Wp (kc ov (n + 1) N_block_Store_Cut [.ptr (some (p, 0)), .int .i64 k, .int .i64 pr] h) fun r h' => r = .tuple [] ∧ Sto h' p { s with left := max k (-1), pre := pr } lv vs ∧ Ke (Mine p lv vs) h h' := by
  rw [C_block_Store_Cut H]; unfold F_block_Store_Cut
  (try simp -dsimp (disch := omega) only [↓pre, sp, sp2, wp_some, Int.cast_ofNat_Int, Nat.reduceAdd, Nat.reduceMul, Nat.reduceSub, Nat.reduceLeDiff, Nat.reduceEqDiff, Nat.reducePow, Int.reduceToNat, Int.reducePow, Int.reduceAdd, Int.reduceSub, Int.reduceMul, Int.reduceLT, Int.reduceLE, Int.reduceEq, Int.reduceNeg])
  refine wp_store w t.box rfl rfl (by simp) rfl fun h2 k2 n2 g2 => ?_
  have t2 := t.setBox k2 (wr := s.writes) (lf := max k (-1)) (pr := s.pre) (dd := s.dead) g2 t.wr (by omega) t.pr
  (try simp -dsimp (disch := omega) only [↓pre, sp, sp2, wp_some, Int.cast_ofNat_Int, Nat.reduceAdd, Nat.reduceMul, Nat.reduceSub, Nat.reduceLeDiff, Nat.reduceEqDiff, Nat.reducePow, Int.reduceToNat, Int.reducePow, Int.reduceAdd, Int.reduceSub, Int.reduceMul, Int.reduceLT, Int.reduceLE, Int.reduceEq, Int.reduceNeg])
  refine wp_store k2.w' t2.box rfl rfl (by simp) rfl fun h3 k3 n3 g3 => ?_
  have t3 := t2.setBox k3 (wr := s.writes) (lf := max k (-1)) (pr := pr) (dd := s.dead) g3 t.wr (by omega) hp
  (try simp -dsimp (disch := omega) only [↓pre, sp, sp2, wp_some, Int.cast_ofNat_Int, Nat.reduceAdd, Nat.reduceMul, Nat.reduceSub, Nat.reduceLeDiff, Nat.reduceEqDiff, Nat.reducePow, Int.reduceToNat, Int.reducePow, Int.reduceAdd, Int.reduceSub, Int.reduceMul, Int.reduceLT, Int.reduceLE, Int.reduceEq, Int.reduceNeg])
  exact ⟨t3, (k2.trans k3).mono fun j hj => .inl hj⟩
theorem power_spec (H : Plain ov) (n : Nat) (w : Wf h) (t : Sto h p s lv vs) :
    Wp (kc ov (n + 1) N_block_Store_Power [.ptr (some (p, 0))] h) fun r h' => r = .tuple [] ∧ Sto h' p { s with left := -1, dead := false } lv vs ∧ Ke (Mine p lv vs) h h' := by
  rw [C_block_Store_Power H]; unfold F_block_Store_Power
  (try simp -dsimp (disch := omega) only [↓pre, sp, sp2, wp_some, Int.cast_ofNat_Int, Nat.reduceAdd, Nat.reduceMul, Nat.reduceSub, Nat.reduceLeDiff, Nat.reduceEqDiff, Nat.reducePow, Int.reduceToNat, Int.reducePow, Int.reduceAdd, Int.reduceSub, Int.reduceMul, Int.reduceLT, Int.reduceLE, Int.reduceEq, Int.reduceNeg])
  refine wp_store w t.box rfl rfl (by simp) rfl fun h2 k2 n2 g2 => ?_
  have t2 := t.setBox k2 (wr := s.writes) (lf := s.left) (pr := s.pre) (dd := false) g2 t.wr t.lf t.pr
  (try simp -dsimp (disch := omega) only [↓pre, sp, sp2, wp_some, Int.cast_ofNat_Int, Nat.reduceAdd, Nat.reduceMul, Nat.reduceSub, Nat.reduceLeDiff, Nat.reduceEqDiff, Nat.reducePow, Int.reduceToNat, Int.reducePow, Int.reduceAdd, Int.reduceSub, Int.reduceMul, Int.reduceLT, Int.reduceLE, Int.reduceEq, Int.reduceNeg])
  refine wp_store k2.w' t2.box rfl rfl (by simp) rfl fun h3 k3 n3 g3 => ?_
  have t3 := t2.setBox k3 (wr := s.writes) (lf := -1) (pr := s.pre) (dd := false) g3 t.wr (by omega) t.pr
  (try simp -dsimp (disch := omega) only [↓pre, sp, sp2, wp_some, Int.cast_ofNat_Int, Nat.reduceAdd, Nat.reduceMul, Nat.reduceSub, Nat.reduceLeDiff, Nat.reduceEqDiff, Nat.reducePow, Int.reduceToNat, Int.reducePow, Int.reduceAdd, Int.reduceSub, Int.reduceMul, Int.reduceLT, Int.reduceLE, Int.reduceEq, Int.reduceNeg])
  exact ⟨t3, (k2.trans k3).mono fun j hj => .inl hj⟩
theorem size_spec (H : Plain ov) (n : Nat) (t : Sto h p s lv vs) : kc ov (n + 1) N_block_Store_Size [.ptr (some (p, 0))] h = some (.int .i64 s.size, h) := by
  rw [C_block_Store_Size H]; unfold F_block_Store_Size
  (try simp -dsimp (disch := omega) only [↓pre, sp, sp2, wp_some, Int.cast_ofNat_Int, Nat.reduceAdd, Nat.reduceMul, Nat.reduceSub, Nat.reduceLeDiff, Nat.reduceEqDiff, Nat.reducePow, Int.reduceToNat, Int.reducePow, Int.reduceAdd, Int.reduceSub, Int.reduceMul, Int.reduceLT, Int.reduceLE, Int.reduceEq, Int.reduceNeg, row_rw t.box])
theorem blocks_spec (H : Plain ov) (n : Nat) (t : Sto h p s lv vs) : kc ov (n + 1) N_block_Store_Blocks [.ptr (some (p, 0))] h = some (.int .i64 s.bl.length, h) := by
  rw [C_block_Store_Blocks H]; unfold F_block_Store_Blocks
  (try simp -dsimp (disch := omega) only [↓pre, sp, sp2, wp_some, Int.cast_ofNat_Int, Nat.reduceAdd, Nat.reduceMul, Nat.reduceSub, Nat.reduceLeDiff, Nat.reduceEqDiff, Nat.reducePow, Int.reduceToNat, Int.reducePow, Int.reduceAdd, Int.reduceSub, Int.reduceMul, Int.reduceLT, Int.reduceLE, Int.reduceEq, Int.reduceNeg, row_rw t.box, (Ow.rd t.l).len, t.n])

/-- A byte of a store is changed. -/
def spoilM (s : BSt) (i a : Int) (x : UInt8) : BSt :=
  if isM s i = 0 ∧ 0 ≤ a ∧ a < s.size then { s with bl := s.bl.set i.toNat ((s.bl.getD i.toNat []).set a.toNat ((s.bl.getD i.toNat []).getD a.toNat 0 ^^^ x)) } else s
theorem spoil_spec (H : Plain ov) (n : Nat) (w : Wf h) (t : Sto h p s lv vs) (i a : Int) (x : UInt8) :
    Wp (kc ov (n + 2) N_block_Store_Spoil [.ptr (some (p, 0)), .int .i64 i, .int .i64 a, .int .u8 x.toNat] h) fun r h' => r = .tuple [] ∧ Sto h' p (spoilM s i a x) lv vs ∧ Ke (Mine p lv vs) h h' := by
  rw [C_block_Store_Spoil H]; unfold F_block_Store_Spoil
  have hl := t.n
  (try simp -dsimp (disch := omega) only [↓pre, sp, sp2, wp_some, Int.cast_ofNat_Int, Nat.reduceAdd, Nat.reduceMul, Nat.reduceSub, Nat.reduceLeDiff, Nat.reduceEqDiff, Nat.reducePow, Int.reduceToNat, Int.reducePow, Int.reduceAdd, Int.reduceSub, Int.reduceMul, Int.reduceLT, Int.reduceLE, Int.reduceEq, Int.reduceNeg, is_spec H n t])
  refine wp_kT (.bool (decide (isM s i = 0 ∧ 0 ≤ a ∧ a < s.size))) (fun j hj => ?_) ?_
  · by_cases c : isM s i = 0
    · by_cases c2 : 0 ≤ a
      · (try simp -dsimp (disch := omega) only [↓pre, sp, sp2, wp_some, Int.cast_ofNat_Int, Nat.reduceAdd, Nat.reduceMul, Nat.reduceSub, Nat.reduceLeDiff, Nat.reduceEqDiff, Nat.reducePow, Int.reduceToNat, Int.reducePow, Int.reduceAdd, Int.reduceSub, Int.reduceMul, Int.reduceLT, Int.reduceLE, Int.reduceEq, Int.reduceNeg, c, row_rw t.box, show a ≥ 0 from c2])
        simpa [c, c2] using hj
      · (try simp -dsimp (disch := omega) only [↓pre, sp, sp2, wp_some, Int.cast_ofNat_Int, Nat.reduceAdd, Nat.reduceMul, Nat.reduceSub, Nat.reduceLeDiff, Nat.reduceEqDiff, Nat.reducePow, Int.reduceToNat, Int.reducePow, Int.reduceAdd, Int.reduceSub, Int.reduceMul, Int.reduceLT, Int.reduceLE, Int.reduceEq, Int.reduceNeg, c, row_rw t.box, show ¬ a ≥ 0 from c2])
        simpa [c, c2] using hj
    · (try simp -dsimp (disch := omega) only [↓pre, sp, sp2, wp_some, Int.cast_ofNat_Int, Nat.reduceAdd, Nat.reduceMul, Nat.reduceSub, Nat.reduceLeDiff, Nat.reduceEqDiff, Nat.reducePow, Int.reduceToNat, Int.reducePow, Int.reduceAdd, Int.reduceSub, Int.reduceMul, Int.reduceLT, Int.reduceLE, Int.reduceEq, Int.reduceNeg, c])
      simpa [c] using hj
  · (try simp -dsimp (disch := omega) only [↓pre, sp, sp2, wp_some, Int.cast_ofNat_Int, Nat.reduceAdd, Nat.reduceMul, Nat.reduceSub, Nat.reduceLeDiff, Nat.reduceEqDiff, Nat.reducePow, Int.reduceToNat, Int.reducePow, Int.reduceAdd, Int.reduceSub, Int.reduceMul, Int.reduceLT, Int.reduceLE, Int.reduceEq, Int.reduceNeg, kj_eq])
    refine wp_ite (fun c => ?_) (fun c => ?_)
    · obtain ⟨hd, h0, h1⟩ := isM_zero c.1
      obtain ⟨v, e1, e2, e3, o⟩ := t.at (i := i.toNat) (by omega)
      have so : Bs h v (s.bl.getD i.toNat []) .rw := (Ow.rd o).to rfl e3.symm
      (try simp -dsimp (disch := omega) only [↓pre, sp, sp2, wp_some, Int.cast_ofNat_Int, Nat.reduceAdd, Nat.reduceMul, Nat.reduceSub, Nat.reduceLeDiff, Nat.reduceEqDiff, Nat.reducePow, Int.reduceToNat, Int.reducePow, Int.reduceAdd, Int.reduceSub, Int.reduceMul, Int.reduceLT, Int.reduceLE, Int.reduceEq, Int.reduceNeg, row_rw t.box, (Ow.rd t.l).at, e2, so.at, so.ldb])
      have ex : iXor .u8 (gb (s.bl.getD i.toNat []) a.toNat : Int) (x.toNat : Int) = ((((s.bl.getD i.toNat []).getD a.toNat 0) ^^^ x).toNat : Int) := xor_u8 _ _
      rw [ex]
      refine wp_storeOw w o rfl rfl rfl (by rw [bytesOf_length]; omega) (by rw [bytesOf_length]; omega) rfl fun h2 o2 k2 n2 => ?_
      (try simp -dsimp (disch := omega) only [↓pre, sp, sp2, wp_some, Int.cast_ofNat_Int, Nat.reduceAdd, Nat.reduceMul, Nat.reduceSub, Nat.reduceLeDiff, Nat.reduceEqDiff, Nat.reducePow, Int.reduceToNat, Int.reducePow, Int.reduceAdd, Int.reduceSub, Int.reduceMul, Int.reduceLT, Int.reduceLE, Int.reduceEq, Int.reduceNeg])
      rw [splice_one _ _ _ (by rw [bytesOf_length]; omega), ← bytesOf_set] at o2
      have t2 := t.setRow e1 k2 o2 (by simpa using e3)
      have e : spoilM s i a x = { s with bl := s.bl.set i.toNat ((s.bl.getD i.toNat []).set a.toNat ((s.bl.getD i.toNat []).getD a.toNat 0 ^^^ x)) } := by unfold spoilM; rw [if_pos c]
      rw [e]
      exact ⟨t2, k2.mono fun j hj => .inr ⟨v, by simp [List.mem_of_getElem? e1], hj⟩⟩
    · (try simp -dsimp (disch := omega) only [↓pre, sp, sp2, wp_some, Int.cast_ofNat_Int, Nat.reduceAdd, Nat.reduceMul, Nat.reduceSub, Nat.reduceLeDiff, Nat.reduceEqDiff, Nat.reducePow, Int.reduceToNat, Int.reducePow, Int.reduceAdd, Int.reduceSub, Int.reduceMul, Int.reduceLT, Int.reduceLE, Int.reduceEq, Int.reduceNeg])
      have e : spoilM s i a x = s := by unfold spoilM; rw [if_neg c]
      rw [e]
      exact ⟨t, Ke.refl w⟩

theorem Sto.row_lt (w : Wf h) (t : Sto h p s lv vs) {v : AVal} (hv : v ∈ vs) {i : Nat} (hi : isBk v i) : i < h.n := t.lt w (.inr ⟨v, by simp [hv], hi⟩)
/-- One block more. -/
theorem Sto.add (w : Wf h) (t : Sto h p s lv vs) {h' : AH} {lv' v : AVal} {b : List UInt8} (k : Ke (fun i => i = p ∨ isBk lv i) h h')
    (g : h'.get p = some ⟨.row [lv', .int .i64 s.size, .int .i64 s.writes, .int .i64 s.left, .int .i64 s.pre, .bool s.dead] T_block_Store false, .rw, []⟩)
    (hl : Ow h' lv' T___uint8 1 (vs.length + 1) (vs ++ [v])) (hv : Ow h' v T_uint8 1 s.size (bytesOf b)) (hb : b.length = s.size) (hvn : ∀ i, isBk v i → h.n ≤ i) (hln : ∀ i, isBk lv' i → (isBk lv i ∨ h.n ≤ i) ∧ ¬ isBk v i) (hc : vs.length < 64) :
    Sto h' p { s with bl := s.bl ++ [b] } lv' (vs ++ [v]) := by
  have hap := t.apart
  unfold Apart at hap
  rw [List.pairwise_cons] at hap
  have hp := w.lt _ _ t.box
  refine { box := g, l := by simpa using hl, n := by simp [t.n], rows := ?_, apart := ?_, off := ?_, sz := t.sz, cnt := by simp; omega, wr := t.wr, lf := t.lf, pr := t.pr }
  · intro i v' b' hv' hb'
    by_cases c : i < vs.length
    · rw [List.getElem?_append_left c] at hv'
      rw [List.getElem?_append_left (by have := t.n; omega)] at hb'
      obtain ⟨h1, h2⟩ := t.rows i v' b' hv' hb'
      have hm : v' ∈ vs := List.mem_of_getElem? hv'
      exact ⟨h1, h2.ke k fun j hj => by
        rintro (e | e)
        · exact t.off v' (by simp [hm]) (e ▸ hj)
        · exact hap.1 v' hm j e hj⟩
    · rw [List.getElem?_append_right (by omega)] at hv'
      rw [List.getElem?_append_right (by have := t.n; omega)] at hb'
      have e : i - vs.length = 0 := by
        have := (List.getElem?_eq_some_iff.1 hv').1
        simp at this; omega
      have e2 : i - s.bl.length = 0 := by have := t.n; omega
      rw [e] at hv'
      rw [e2] at hb'
      simp only [List.getElem?_cons_zero, Option.some.injEq] at hv' hb'
      subst hv' hb'
      exact ⟨hb, hv⟩
  · unfold Apart
    rw [List.pairwise_cons, List.pairwise_append]
    refine ⟨fun v' hv' i hi => ?_, hap.2, by simp, fun a ha b' hb' i hi => ?_⟩
    · rcases List.mem_append.1 hv' with hm | hm
      · rcases (hln i hi).1 with e | e
        · exact hap.1 v' hm i e
        · intro c; have := t.row_lt w hm c; omega
      · simp only [List.mem_singleton] at hm; subst hm; exact (hln i hi).2
    · simp only [List.mem_singleton] at hb'
      subst hb'
      intro c
      have := t.row_lt w ha hi
      have := hvn i c
      omega
  · intro v' hv'
    simp only [List.mem_cons, List.mem_append, List.not_mem_nil, or_false] at hv'
    rcases hv' with rfl | hm | rfl
    · intro c
      rcases (hln p c).1 with e | e
      · exact t.off lv (by simp) e
      · omega
    · exact t.off v' (by simp [hm])
    · intro c; have := hvn p c; omega

/-- A new store. -/
def newM (blocks size : Int) : BSt := { bl := List.replicate (min (max blocks 1) 64).toNat (List.replicate (min (max size 16) 4096).toNat 0), size := (min (max size 16) 4096).toNat, writes := 0, left := -1, pre := 0, dead := false }
theorem new_spec (H : Plain ov) (n : Nat) (w : Wf h) (blocks size : Int) :
    Wp (kc ov (n + 1) N_block_New [.int .i64 blocks, .int .i64 size] h) fun r h' => Kp h h' ∧ ∃ p lv vs, r = .ptr (some (p, 0)) ∧ Sto h' p (newM blocks size) lv vs ∧ ∀ i, Mine p lv vs i → h.n ≤ i := by
  rw [C_block_New H]; unfold F_block_New
  (try simp -dsimp (disch := omega) only [↓pre, sp, sp2, wp_some, Int.cast_ofNat_Int, Nat.reduceAdd, Nat.reduceMul, Nat.reduceSub, Nat.reduceLeDiff, Nat.reduceEqDiff, Nat.reducePow, Int.reduceToNat, Int.reducePow, Int.reduceAdd, Int.reduceSub, Int.reduceMul, Int.reduceLT, Int.reduceLE, Int.reduceEq, Int.reduceNeg, splice_def])
  have hsz : ((min (max size 16) 4096).toNat : Int) = min (max size 16) 4096 := by omega
  rw [← hsz]
  generalize hz : (min (max size 16) 4096).toNat = z
  have hzb : 16 ≤ z ∧ z ≤ 4096 := by omega
  refine wp_box w rfl rfl fun p h1 hp k1 n1 g1 => ?_
  (try simp -dsimp (disch := omega) only [↓pre, sp, sp2, wp_some, Int.cast_ofNat_Int, Nat.reduceAdd, Nat.reduceMul, Nat.reduceSub, Nat.reduceLeDiff, Nat.reduceEqDiff, Nat.reducePow, Int.reduceToNat, Int.reducePow, Int.reduceAdd, Int.reduceSub, Int.reduceMul, Int.reduceLT, Int.reduceLE, Int.reduceEq, Int.reduceNeg])
  have t0 : Sto h1 p ⟨[], z, 0, -1, 0, false⟩ (.slice none 0 0) [] :=
    { box := g1, l := Ow.nil _ _ _ (by omega), n := rfl, rows := fun i v b hv => by simp at hv, apart := by simp [Apart], off := fun v hv hi => by simp at hv; subst hv; exact hi, sz := hzb, cnt := by simp, wr := by simp, lf := by simp, pr := by simp }
  refine wp_loop (fun m l h2 => ∃ (i : Nat) (lv : AVal) (vs : List AVal), l = [.int .i64 i] ∧ i + m = (min (max blocks 1) 64).toNat ∧ vs.length = i ∧ Kp h h2 ∧ Sto h2 p ⟨List.replicate i (List.replicate z 0), z, 0, -1, 0, false⟩ lv vs ∧ ∀ j, Mine p lv vs j → h.n ≤ j) (min (max blocks 1) 64).toNat (by omega)
    ⟨0, .slice none 0 0, [], rfl, by omega, rfl, k1, t0, ?_⟩ ?_
  · rintro j (rfl | ⟨v, hv, hi⟩)
    · omega
    · simp at hv; subst hv; exact hi.elim
  rintro m _ h2 j ⟨i, lv, vs, rfl, him, hvl, k2, t2, f2⟩ hj
  unfold L_block_New_0
  (try simp -dsimp (disch := omega) only [↓pre, sp, sp2, wp_some, Int.cast_ofNat_Int, Nat.reduceAdd, Nat.reduceMul, Nat.reduceSub, Nat.reduceLeDiff, Nat.reduceEqDiff, Nat.reducePow, Int.reduceToNat, Int.reducePow, Int.reduceAdd, Int.reduceSub, Int.reduceMul, Int.reduceLT, Int.reduceLE, Int.reduceEq, Int.reduceNeg])
  refine wp_ite (fun c => ?_) (fun c => ?_)
  · (try simp -dsimp (disch := omega) only [↓pre, sp, sp2, wp_some, Int.cast_ofNat_Int, Nat.reduceAdd, Nat.reduceMul, Nat.reduceSub, Nat.reduceLeDiff, Nat.reduceEqDiff, Nat.reducePow, Int.reduceToNat, Int.reducePow, Int.reduceAdd, Int.reduceSub, Int.reduceMul, Int.reduceLT, Int.reduceLE, Int.reduceEq, Int.reduceNeg, row_rw t2.box])
    refine wp_makeSl k2.w' (by omega) (by omega) (by omega) (by omega) rfl (by omega) rfl fun q h3 hq k3 n3 g3 => ?_
    rw [Int.toNat_natCast, manyT_u8] at g3
    (try simp -dsimp (disch := omega) only [↓pre, sp, sp2, wp_some, Int.cast_ofNat_Int, Nat.reduceAdd, Nat.reduceMul, Nat.reduceSub, Nat.reduceLeDiff, Nat.reduceEqDiff, Nat.reducePow, Int.reduceToNat, Int.reducePow, Int.reduceAdd, Int.reduceSub, Int.reduceMul, Int.reduceLT, Int.reduceLE, Int.reduceEq, Int.reduceNeg])
    refine wp_buildSl (cs := [.slice (some (q, 0, 1)) z z]) k3.w' ⟨by decide, rfl, by decide⟩ rfl rfl fun r h4 hr k4 n4 g4 => ?_
    have t4 := t2.kp (k3.trans k4)
    (try simp -dsimp (disch := omega) only [↓pre, sp, sp2, wp_some, Int.cast_ofNat_Int, Nat.reduceAdd, Nat.reduceMul, Nat.reduceSub, Nat.reduceLeDiff, Nat.reduceEqDiff, Nat.reducePow, Int.reduceToNat, Int.reducePow, Int.reduceAdd, Int.reduceSub, Int.reduceMul, Int.reduceLT, Int.reduceLE, Int.reduceEq, Int.reduceNeg, row_rw t4.box])
    have s4 : Sz h4 (.slice (some (r, 0, 1)) 1 1) 1 1 [.slice (some (q, 0, 1)) z z] .rw := (Ow.new g4 (by omega) 1 rfl rfl).rd
    refine wp_append k4.w' t4.l s4 rfl (by omega) (by omega) fun lv' h5 o5 k5 f5 => ?_
    have g5 := k5.gt t4.box (t4.off lv (by simp))
    (try simp -dsimp (disch := omega) only [↓pre, sp, sp2, wp_some, Int.cast_ofNat_Int, Nat.reduceAdd, Nat.reduceMul, Nat.reduceSub, Nat.reduceLeDiff, Nat.reduceEqDiff, Nat.reducePow, Int.reduceToNat, Int.reducePow, Int.reduceAdd, Int.reduceSub, Int.reduceMul, Int.reduceLT, Int.reduceLE, Int.reduceEq, Int.reduceNeg, row_rw g5])
    refine wp_store k5.w' g5 (cells_of o5.isCell) rfl (by simp) (by simp only [ic, o5.isCell]) fun h6 k6 n6 g6 => ?_
    have e1 : IntKind.wrap .i64 ((i : Int) + 1) = ((i + 1 : Nat) : Int) := by rw [wr_i64 (by omega) (by omega)]; omega
    (try simp -dsimp (disch := omega) only [↓pre, sp, sp2, wp_some, Int.cast_ofNat_Int, Nat.reduceAdd, Nat.reduceMul, Nat.reduceSub, Nat.reduceLeDiff, Nat.reduceEqDiff, Nat.reducePow, Int.reduceToNat, Int.reducePow, Int.reduceAdd, Int.reduceSub, Int.reduceMul, Int.reduceLT, Int.reduceLE, Int.reduceEq, Int.reduceNeg, e1])
    have hpn := k2.w'.lt _ _ t2.box
    have hlvp : ∀ i, isBk lv' i → i ≠ p := fun i hi e => by
      rcases f5 i hi with f | f
      · exact t4.off lv (by simp) (e ▸ f)
      · have := (k3.trans k4).n; omega
    have gq : h6.get q = some ⟨.row (bytesOf (List.replicate z 0)) T_uint8 false, .rw, []⟩ :=
      k6.gt (k5.gt (k4.gt g3) (fun hb => by have := t2.l.bk_lt k2.w' hb; omega)) (by omega)
    have kk : Ke (fun i => i = p ∨ isBk lv i) h2 h6 := (Kp.ke (k3.trans k4)).trans ((k5.mono fun _ x => .inr x).trans (k6.mono fun _ x => .inl x))
    have t6 := t2.add k2.w' (lv' := lv') (v := .slice (some (q, 0, 1)) z z) (b := List.replicate z 0) kk (by simpa [splice] using g6) (by
        have := (o5.ke k6 fun i hi e => hlvp i hi e)
        simpa using this) ((Ow.new gq (by omega) z (by simp [bytesOf]) (isCell_bytes _))) (by simp) (fun i hi => by simp only [isBk] at hi; omega) (fun i hi => by
        rcases f5 i hi with f | f
        · exact ⟨.inl f, fun c => by simp only [isBk] at c; have := t2.l.bk_lt k2.w' f; omega⟩
        · exact ⟨.inr (by have := (k3.trans k4).n; omega), fun c => by simp only [isBk] at c; omega⟩) (by omega)
    refine hj (m - 1) _ _ (by omega) ⟨i + 1, lv', vs ++ [.slice (some (q, 0, 1)) z z], rfl, by omega, by simp [hvl], ?_, ?_, ?_⟩
    · refine Ke.new_p k2 kk fun i hi => ?_
      rcases hi with rfl | hi
      · exact f2 i (.inl rfl)
      · exact f2 i (.inr ⟨lv, by simp, hi⟩)
    · rw [List.replicate_succ']; exact t6
    · rintro j (rfl | ⟨v, hv, hi⟩)
      · exact f2 j (.inl rfl)
      · simp only [List.mem_cons, List.mem_append, List.not_mem_nil, or_false] at hv
        have hn2 := k2.n
        have hn34 := (k3.trans k4).n
        rcases hv with rfl | hv | rfl
        · rcases f5 j hi with f | f
          · exact f2 j (.inr ⟨lv, by simp, f⟩)
          · omega
        · exact f2 j (.inr ⟨v, by simp [hv], hi⟩)
        · simp only [isBk] at hi; omega
  · (try simp -dsimp (disch := omega) only [↓pre, sp, sp2, wp_some, Int.cast_ofNat_Int, Nat.reduceAdd, Nat.reduceMul, Nat.reduceSub, Nat.reduceLeDiff, Nat.reduceEqDiff, Nat.reducePow, Int.reduceToNat, Int.reducePow, Int.reduceAdd, Int.reduceSub, Int.reduceMul, Int.reduceLT, Int.reduceLE, Int.reduceEq, Int.reduceNeg])
    have : i = (min (max blocks 1) 64).toNat := by omega
    subst this
    refine ⟨k2, p, lv, vs, rfl, ?_, f2⟩
    unfold newM
    rw [hz]
    exact t2

theorem copy_store_spec (H : Plain ov) (n : Nat) (w : Wf h) (t : Sto h p s lv vs) :
    Wp (kc ov (n + 2) N_block_Store_Copy [.ptr (some (p, 0))] h) fun r h' => Kp h h' ∧ ∃ p lv vs, r = .ptr (some (p, 0)) ∧ Sto h' p s lv vs ∧ ∀ i, Mine p lv vs i → h.n ≤ i := by
  rw [C_block_Store_Copy H]; unfold F_block_Store_Copy
  have hsz := t.sz
  have hcnt := t.cnt
  have htn := t.n
  (try simp -dsimp (disch := omega) only [↓pre, sp, sp2, wp_some, Int.cast_ofNat_Int, Nat.reduceAdd, Nat.reduceMul, Nat.reduceSub, Nat.reduceLeDiff, Nat.reduceEqDiff, Nat.reducePow, Int.reduceToNat, Int.reducePow, Int.reduceAdd, Int.reduceSub, Int.reduceMul, Int.reduceLT, Int.reduceLE, Int.reduceEq, Int.reduceNeg, row_rw t.box])
  refine wp_box w rfl rfl fun q h1 hq k1 n1 g1 => ?_
  refine wp_store k1.w' g1 rfl rfl (by simp) (by simp only [ic, t.l.isCell]) fun h2 k2 n2 g2 => ?_
  (try simp -dsimp (disch := omega) only [↓pre, sp, sp2, wp_some, Int.cast_ofNat_Int, Nat.reduceAdd, Nat.reduceMul, Nat.reduceSub, Nat.reduceLeDiff, Nat.reduceEqDiff, Nat.reducePow, Int.reduceToNat, Int.reducePow, Int.reduceAdd, Int.reduceSub, Int.reduceMul, Int.reduceLT, Int.reduceLE, Int.reduceEq, Int.reduceNeg])
  refine wp_store k2.w' g2 rfl rfl (by simp [splice]) rfl fun h3 k3 n3 g3 => ?_
  have K3 : Kp h h3 := Ke.new_p k1 (k2.trans k3) fun i hi => by omega
  have t3 := t.kp K3
  (try simp -dsimp (disch := omega) only [↓pre, sp, sp2, wp_some, Int.cast_ofNat_Int, Nat.reduceAdd, Nat.reduceMul, Nat.reduceSub, Nat.reduceLeDiff, Nat.reduceEqDiff, Nat.reducePow, Int.reduceToNat, Int.reducePow, Int.reduceAdd, Int.reduceSub, Int.reduceMul, Int.reduceLT, Int.reduceLE, Int.reduceEq, Int.reduceNeg, row_rw t3.box, (Ow.rd t3.l).len])
  have u0 : Sto h3 q ⟨[], s.size, s.writes, s.left, s.pre, s.dead⟩ (.slice none 0 0) [] :=
    { box := by simpa [splice] using g3, l := Ow.nil _ _ _ (by omega), n := rfl, rows := fun i v b hv => by simp at hv, apart := by simp [Apart], off := fun v hv hi => by simp at hv; subst hv; exact hi, sz := hsz, cnt := by simp, wr := t.wr, lf := t.lf, pr := t.pr }
  refine wp_loop (fun m l h4 => ∃ (i : Nat) (lu : AVal) (us : List AVal), l = [.int .i64 i] ∧ i + m = vs.length ∧ us.length = i ∧ Kp h h4 ∧ Sto h4 q ⟨s.bl.take i, s.size, s.writes, s.left, s.pre, s.dead⟩ lu us ∧ ∀ j, Mine q lu us j → h.n ≤ j) vs.length (by omega)
    ⟨0, .slice none 0 0, [], rfl, by omega, rfl, K3, u0, ?_⟩ ?_
  · rintro j (rfl | ⟨v, hv, hi⟩)
    · omega
    · simp at hv; subst hv; exact hi.elim
  rintro m _ h4 j ⟨i, lu, us, rfl, him, hul, k4, u4, f4⟩ hj
  unfold L_block_Store_Copy_0
  (try simp -dsimp (disch := omega) only [↓pre, sp, sp2, wp_some, Int.cast_ofNat_Int, Nat.reduceAdd, Nat.reduceMul, Nat.reduceSub, Nat.reduceLeDiff, Nat.reduceEqDiff, Nat.reducePow, Int.reduceToNat, Int.reducePow, Int.reduceAdd, Int.reduceSub, Int.reduceMul, Int.reduceLT, Int.reduceLE, Int.reduceEq, Int.reduceNeg])
  refine wp_ite (fun c => ?_) (fun c => ?_)
  · have t4 := t.kp k4
    have hib : i < s.bl.length := by omega
    obtain ⟨v, e1, e2, e3, o⟩ := t4.at (i := i) hib
    have so : Bs h4 v (s.bl.getD i []) .rw := (Ow.rd o).to rfl e3.symm
    (try simp -dsimp (disch := omega) only [↓pre, sp, sp2, wp_some, Int.cast_ofNat_Int, Nat.reduceAdd, Nat.reduceMul, Nat.reduceSub, Nat.reduceLeDiff, Nat.reduceEqDiff, Nat.reducePow, Int.reduceToNat, Int.reducePow, Int.reduceAdd, Int.reduceSub, Int.reduceMul, Int.reduceLT, Int.reduceLE, Int.reduceEq, Int.reduceNeg, (Ow.rd t4.l).at, e2, row_rw u4.box])
    refine Wp.bind (clone_spec H n k4.w' so (by omega)) fun v2 h5 ⟨k5, o5, f5⟩ => ?_
    refine wp_buildSl (cs := [v2]) k5.w' ⟨by decide, rfl, by decide⟩ (by
      have := cells_of o5.isCell
      simp only [manyT, List.replicate_succ, List.replicate_zero, List.flatten_cons, List.flatten_nil, List.append_nil, aFill, this, splice]
      rfl) (by simp only [ic, o5.isCell]) fun r h6 hr k6 n6 g6 => ?_
    have u6 := u4.kp (k5.trans k6)
    (try simp -dsimp (disch := omega) only [↓pre, sp, sp2, wp_some, Int.cast_ofNat_Int, Nat.reduceAdd, Nat.reduceMul, Nat.reduceSub, Nat.reduceLeDiff, Nat.reduceEqDiff, Nat.reducePow, Int.reduceToNat, Int.reducePow, Int.reduceAdd, Int.reduceSub, Int.reduceMul, Int.reduceLT, Int.reduceLE, Int.reduceEq, Int.reduceNeg, row_rw u6.box])
    have s6 : Sz h6 (.slice (some (r, 0, 1)) 1 1) 1 1 [v2] .rw := (Ow.new g6 (by omega) 1 rfl (by simp only [ic, o5.isCell])).rd
    refine wp_append k6.w' u6.l s6 (by simp only [ic, o5.isCell]) (by omega) (by omega) fun lv' h7 o7 k7 f7 => ?_
    have g7 := k7.gt u6.box (u6.off lu (by simp))
    (try simp -dsimp (disch := omega) only [↓pre, sp, sp2, wp_some, Int.cast_ofNat_Int, Nat.reduceAdd, Nat.reduceMul, Nat.reduceSub, Nat.reduceLeDiff, Nat.reduceEqDiff, Nat.reducePow, Int.reduceToNat, Int.reducePow, Int.reduceAdd, Int.reduceSub, Int.reduceMul, Int.reduceLT, Int.reduceLE, Int.reduceEq, Int.reduceNeg, row_rw g7])
    refine wp_store k7.w' g7 (cells_of o7.isCell) rfl (by simp) (by simp only [ic, o7.isCell]) fun h8 k8 n8 g8 => ?_
    have ew : IntKind.wrap .i64 ((i : Int) + 1) = ((i + 1 : Nat) : Int) := by rw [wr_i64 (by omega) (by omega)]; omega
    (try simp -dsimp (disch := omega) only [↓pre, sp, sp2, wp_some, Int.cast_ofNat_Int, Nat.reduceAdd, Nat.reduceMul, Nat.reduceSub, Nat.reduceLeDiff, Nat.reduceEqDiff, Nat.reducePow, Int.reduceToNat, Int.reducePow, Int.reduceAdd, Int.reduceSub, Int.reduceMul, Int.reduceLT, Int.reduceLE, Int.reduceEq, Int.reduceNeg, ew])
    have hqn := k4.w'.lt _ _ u4.box
    have hn56 := k5.n
    have hn6 := k6.n
    have hlvq : ∀ i, isBk lv' i → i ≠ q := fun i hi e => by
      rcases f7 i hi with f | f
      · exact u6.off lu (by simp) (e ▸ f)
      · omega
    have kk : Ke (fun i => i = q ∨ isBk lu i) h4 h8 := (Kp.ke (k5.trans k6)).trans ((k7.mono fun _ x => .inr x).trans (k8.mono fun _ x => .inl x))
    have o8 : Ow h8 v2 T_uint8 1 s.size (bytesOf (s.bl.getD i [])) := by
      rw [← e3]
      refine ((o5.kp k6).ke k7 fun j hj hb => ?_).ke k8 fun j hj e => ?_
      · have := f5 j hj; have := u4.l.bk_lt k4.w' hb; omega
      · have := f5 j hj; omega
    have f5' : ∀ j, isBk v2 j → j < h6.n := fun j hj => (o5.kp k6).bk_lt k6.w' hj
    have u8 := u4.add k4.w' (lv' := lv') (v := v2) (b := s.bl.getD i []) kk (by simpa [splice] using g8) (by
        have := (o7.ke k8 fun i hi e => hlvq i hi e)
        simpa using this) o8 e3 f5 (fun i hi => by
        rcases f7 i hi with f | f
        · exact ⟨.inl f, fun c => by have := f5 i c; have := u4.l.bk_lt k4.w' f; omega⟩
        · exact ⟨.inr (by omega), fun c => by have := f5' i c; omega⟩) (by omega)
    refine hj (m - 1) _ _ (by omega) ⟨i + 1, lv', us ++ [v2], rfl, by omega, by simp [hul], ?_, ?_, ?_⟩
    · refine Ke.new_p k4 kk fun i hi => ?_
      rcases hi with rfl | hi
      · exact f4 i (.inl rfl)
      · exact f4 i (.inr ⟨lu, by simp, hi⟩)
    · have : s.bl.take (i + 1) = s.bl.take i ++ [s.bl.getD i []] := by
        rw [List.take_succ_eq_append_getElem hib]
        congr 2
        simp [List.getD, hib]
      rw [this]; exact u8
    · have hn4 := k4.n
      rintro j (rfl | ⟨v, hv, hi⟩)
      · exact f4 j (.inl rfl)
      · simp only [List.mem_cons, List.mem_append, List.not_mem_nil, or_false] at hv
        rcases hv with rfl | hv | rfl
        · rcases f7 j hi with f | f
          · exact f4 j (.inr ⟨lu, by simp, f⟩)
          · omega
        · exact f4 j (.inr ⟨v, by simp [hv], hi⟩)
        · have := f5 j hi; omega
  · (try simp -dsimp (disch := omega) only [↓pre, sp, sp2, wp_some, Int.cast_ofNat_Int, Nat.reduceAdd, Nat.reduceMul, Nat.reduceSub, Nat.reduceLeDiff, Nat.reduceEqDiff, Nat.reducePow, Int.reduceToNat, Int.reducePow, Int.reduceAdd, Int.reduceSub, Int.reduceMul, Int.reduceLT, Int.reduceLE, Int.reduceEq, Int.reduceNeg])
    have : i = vs.length := by omega
    subst this
    refine ⟨k4, q, lu, us, rfl, ?_, f4⟩
    rw [← htn, List.take_length] at u4
    exact u4
end Go.Proofs.Ytbcpmbggidemdaa.AI
