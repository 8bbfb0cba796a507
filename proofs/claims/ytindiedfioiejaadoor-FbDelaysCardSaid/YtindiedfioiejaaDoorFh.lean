/- Chapter 17: helps of the laws. -/
import Derived.Test.YtindiedfioiejaaDoorFk
namespace Go.Proofs.YtindiedfioiejaaDoor.AI
open Go
set_option linter.unusedSimpArgs false
set_option linter.unusedVariables false
variable {ov : AOver} {h : AH}
theorem bnames_spec (H : Plain ov) (n : Nat) (w : Wf h) : Wp (kc ov (n + 1) N_runglaw17_names [] h) fun r h' => Kp h h' ∧ Os h' r (allBl.map Bl.nm) := by
  rw [C_runglaw17_names H]; unfold F_runglaw17_names
  (try simp -dsimp (disch := omega) only [↓pre, sp, sp2, wp_some, Int.cast_ofNat_Int, Nat.reduceAdd, Nat.reduceMul, Nat.reduceSub, Nat.reduceLeDiff, Nat.reduceEqDiff, Nat.reducePow, Int.reduceToNat, Int.reducePow, Int.reduceAdd, Int.reduceSub, Int.reduceMul, Int.reduceLT, Int.reduceLE, Int.reduceEq, Int.reduceNeg])
  refine wp_buildSl (cs := strs (allBl.map Bl.nm)) w (by simp) rfl (strs_cells _) fun q h1 hq k1 n1 g1 => ?_
  (try simp -dsimp (disch := omega) only [↓pre, sp, sp2, wp_some, Int.cast_ofNat_Int, Nat.reduceAdd, Nat.reduceMul, Nat.reduceSub, Nat.reduceLeDiff, Nat.reduceEqDiff, Nat.reducePow, Int.reduceToNat, Int.reducePow, Int.reduceAdd, Int.reduceSub, Int.reduceMul, Int.reduceLT, Int.reduceLE, Int.reduceEq, Int.reduceNeg])
  exact ⟨k1, strs_new g1⟩
/-- The block of a place. -/
def blAt (i : Nat) : Bl := allBl.getD i .ton
theorem names_at {v : AVal} (o : Os h v (allBl.map Bl.nm)) {i : Nat} (hi : i < 10) : rLoad (ea v i) h = some (.str (blAt i).nm) := by
  rw [(Ow.rd o).ld (by rw [strs_len]; exact hi)]
  rcases (by omega : i = 0 ∨ i = 1 ∨ i = 2 ∨ i = 3 ∨ i = 4 ∨ i = 5 ∨ i = 6 ∨ i = 7 ∨ i = 8 ∨ i = 9) with rfl | rfl | rfl | rfl | rfl | rfl | rfl | rfl | rfl | rfl <;> rfl
theorem ref_small (nm : Nm) (li lo : List Int) (k0 k1 k2 now : Int) : (toldS nm li lo k0 k1 k2 now).out.length ≤ 100 := by
  unfold toldS
  cases e : bl? nm with
  | none => simp [noTold]
  | some b => simp only; rw [ref_len]; exact (bl_len b).2
theorem ow_lt {v : AVal} {e : TypeId} {sz n : Nat} {c : List AVal} (o : Ow h v e sz n c) (w : Wf h) {i : Nat} (hi : isBk v i) : i < h.n := by
  rcases o.2.2.2 with ⟨rfl, _⟩ | ⟨j, off, cs, opn, par, rfl, g, _⟩
  · exact hi.elim
  · simp only [isBk] at hi; subst hi; exact w.lt _ _ g
theorem splice_set (L : List Int) {i : Nat} (hi : i < L.length) (x : Int) : splice (i64s L) i [.int .i64 x] = i64s (L.set i x) := by
  rw [splice_def]
  simp only [i64s, List.map_set]
  rw [List.set_eq_take_append_cons_drop, if_pos (by simpa using hi)]
  simp
theorem set_len (L : List Int) (i : Nat) (x : Int) : (L.set i x).length = L.length := List.length_set
/-- One of one's own numbers is set. -/
theorem wp_iset (w : Wf h) {v : AVal} {L : List Int} (o : Oi h v L) {i : Nat} (hi : i < L.length) (x : Int) {Q : AVal → AH → Prop} {K : AVal → AH → Ans}
    (c : ∀ h1, Oi h1 v (L.set i x) → Ke (isBk v) h h1 → h1.n = h.n → Wp (K (.tuple []) h1) Q) :
    Wp (ke ((rStore 1 (ea v i) (.int .i64 x) h).map fun h' => (.tuple [], h')) K) Q := by
  refine wp_storeOw (vs := [.int .i64 x]) w o rfl rfl rfl (by simp [i64s]; omega) (by simp [i64s]; omega) rfl fun h1 o1 e1 n1 => c h1 ?_ e1 n1
  rw [splice_set L hi] at o1
  exact o1.to rfl (set_len L i x).symm
section
/-- A block's outputs in a slice, what it keeps in a box. -/
structure Lf (h : AH) (B : Nat) (v : AVal) (q : Nat) (t : Told) : Prop where
  o : Oi h v t.out
  f : ∀ i, isBk v i → B ≤ i
  k : Kb h q t
  q : q < B
  I : ToldI t
  l : t.out.length ≤ 100
variable {B q q' : Nat} {v x : AVal} {t t' : Told}
theorem Lf.kp {h' : AH} (s : Lf h B v q t) (k : Kp h h') : Lf h' B v q t := ⟨oik s.o k, s.f, s.k.kp k, s.q, s.I, s.l⟩
theorem Lf.kq {h' : AH} (s : Lf h B v q t) (k : Ke (· = q') h h') (hq : q' < B) (ne : q ≠ q') : Lf h' B v q t :=
  ⟨Ow.ke s.o k fun i hi e => by have := s.f i hi; omega, s.f, s.k.ke k ne, s.q, s.I, s.l⟩
/-- What is left alone by a life's step. -/
def Kept (q : Nat) (h h' : AH) : Prop := ∃ h1, Kp h h1 ∧ Ke (· = q) h1 h' ∧ h1.n = h'.n
theorem Kept.lf {h' : AH} (c : Kept q' h h') (s : Lf h B v q t) (hq : q' < B) (ne : q ≠ q') : Lf h' B v q t := let ⟨h1, a, b, _⟩ := c; (s.kp a).kq b hq ne
theorem Kept.kp {h0 h' : AH} (c : Kept q h h') (k : Kp h0 h) (hq : h0.n ≤ q) : Kp h0 h' := let ⟨h1, a, b, _⟩ := c; Ke.new_p (k.trans a) b fun i hi => by omega
theorem Kept.oi {h' : AH} {L : List Int} (c : Kept q h h') (o : Oi h x L) (hx : ∀ i, isBk x i → i ≠ q) : Oi h' x L := let ⟨h1, a, b, _⟩ := c; Ow.ke (oik o a) b fun i hi e => hx i hi e
theorem Kept.w {h' : AH} (c : Kept q h h') : Wf h' := let ⟨h1, a, b, _⟩ := c; b.w'
/-- What was kept is set behind a step. -/
theorem wp_life {h1 : AH} (s : Lf h B v q t) (hB : B ≤ h.n) (tq : ToldQ h t' (.tuple [x, .agg (k3 t'.k0 t'.k1 t'.k2)]) h1) (I : ToldI t') (l : t'.out.length ≤ 100) {Q : AVal → AH → Prop} {K : AVal → AH → Ans}
    (c : ∀ h2, Kept q h h2 → Lf h2 B x q t' → Wp (K (.tuple []) h2) Q) :
    Wp (ke ((rStore 3 (.ptr (some (q, 0))) (.agg (k3 t'.k0 t'.k1 t'.k2)) h1).map fun h' => (.tuple [], h')) K) Q := by
  obtain ⟨K1, x', e, o, f⟩ := tq
  simp only [AVal.tuple.injEq, List.cons.injEq, and_true] at e
  obtain rfl := e
  refine wp_kb K1.w' (s.k.kp K1) t' fun h2 K2 n2 b2 => c h2 ⟨h1, K1, K2, n2.symm⟩ ⟨Ow.ke o K2 fun i hi e => ?_, fun i hi => by have := f i hi; omega, b2, s.q, I, l⟩
  have := f i hi
  have := s.q
  omega
/-- .. in whichever form. -/
theorem Kb.ldd {q : Nat} {t : Told} (b : Kb h q t) : rLoadA 3 (.ptr (some (q, 0))) h = some (.agg (k3 t.k0 t.k1 t.k2)) ∧ ((h.row q).bind fun cs => if 3 ≤ cs.length then some (AVal.agg (List.take 3 cs)) else none) = some (.agg (k3 t.k0 t.k1 t.k2)) :=
  ⟨b.ld, by rw [row_rw b]; rfl⟩
/-! Bits. -/
def Bt (h : AH) (v : AVal) (k N : Nat) (f : Nat → Nat → Bool) : Prop := ∃ cs, Sz h v k N cs .ro ∧ ∀ i j, i < N → j < k → cs[i * k + j]? = some (.bool (f i j))
variable {k N : Nat} {f : Nat → Nat → Bool}
theorem Bt.ke {S : Nat → Prop} {h' : AH} (b : Bt h v k N f) (c : Ke S h h') : Bt h' v k N f := let ⟨cs, s, p⟩ := b; ⟨cs, s.ro c, p⟩
theorem Bt.len (b : Bt h v k N f) : rLen v = some (.int .i64 N) := let ⟨cs, s, p⟩ := b; s.len
theorem Bt.at (b : Bt h v k N f) {q : IntKind} {i : Int} (h0 : 0 ≤ i) (h1 : i < N) : rAt k v (.int q i) = some (ea v (i.toNat * k)) := let ⟨cs, s, p⟩ := b; s.at h0 h1
theorem Bt.ld (b : Bt h v k N f) {i j : Nat} (hi : i < N) (hj : j < k) : rLoad (ea v (i * k + j)) h = some (.bool (f i j)) := by
  obtain ⟨cs, s, p⟩ := b
  have hc := p i j hi hj
  rw [s.ld, hc]
  rcases Nat.lt_or_ge (i * k + j) cs.length with h | h
  · exact h
  · rw [List.getElem?_eq_none h] at hc; cases hc
theorem rAtArr_ea {len sz j : Nat} {v : AVal} {q : IntKind} {n : Int} (h0 : 0 ≤ n) (h1 : n < len) : rAtArr len sz (ea v j) (.int q n) = some (ea v (j + n.toNat * sz)) := by
  unfold ea; rw [rAtArr_ptr h0 h1, Nat.add_assoc]
/-- So many bits are in. -/
def fillL (f : Nat → Bool) (m j : Nat) (rest : List Int) : List Int := (List.range m).map (fun i => if i < j ∧ f i = true then 1 else 0) ++ rest
theorem fillL_len (f : Nat → Bool) (m j : Nat) (rest : List Int) : (fillL f m j rest).length = m + rest.length := by simp [fillL]
theorem fillL_no {f : Nat → Bool} {m j : Nat} {rest : List Int} (hj : f j = false) : fillL f m j rest = fillL f m (j + 1) rest := by
  unfold fillL
  congr 1
  apply List.map_congr_left
  intro i hi
  by_cases c : i = j
  · subst c; simp [hj]
  · have : i < j ↔ i < j + 1 := by omega
    simp [this]
theorem fillL_set {f : Nat → Bool} {m j : Nat} {rest : List Int} (hm : j < m) (hj : f j = true) : (fillL f m j rest).set j 1 = fillL f m (j + 1) rest := by
  unfold fillL
  rw [List.set_append_left _ _ (by simpa using hm)]
  congr 1
  apply List.ext_getElem
  · simp
  · intro i h1 h2
    rw [List.getElem_set]
    simp only [List.getElem_map, List.getElem_range]
    by_cases c : j = i
    · subst c; simp [hj]
    · have : i < j ↔ i < j + 1 := by omega
      simp [c, this]
theorem fillL_all (f : Nat → Bool) (m : Nat) (rest : List Int) : fillL f m m rest = (List.range m).map (fun i => tr (f i)) ++ rest := by
  unfold fillL
  congr 1
  apply List.map_congr_left
  intro i hi
  simp only [List.mem_range] at hi
  simp only [hi, true_and, tr]
theorem fillL_0 (f : Nat → Bool) (m : Nat) (rest : List Int) : fillL f m 0 rest = List.replicate m 0 ++ rest := by
  unfold fillL
  congr 1
  apply List.ext_getElem <;> simp
theorem tr_I64s (f : Nat → Bool) (m : Nat) : I64s ((List.range m).map fun i => tr (f i)) := fun x hx => by
  simp only [List.mem_map] at hx
  obtain ⟨i, _, rfl⟩ := hx
  exact tr_I _
end
theorem ne_of {o : List Int} {i : Nat} {s : Bool} (e : gi o i = tr s) : decide (gi o i ≠ 0) = s := by rw [e]; exact tr_ne s
theorem wz {k : Int} {s : Bool} (e : wrapM 4 k = tr s) : decide (wrapM 4 k = 0) = !s ∧ decide (wrapM 4 k ≠ 0) = s := by
  rw [e]; cases s <;> exact ⟨rfl, rfl⟩
theorem tr_dec (b : Bool) : decide (tr b = 1) = b := by cases b <;> rfl
theorem beq_no (b : Bool) : (!(b == b)) = false := by cases b <;> rfl
theorem neq_same (c a : Bool) : rBin .neq .bool c (.bool a) (.bool a) = some (.bool false) := by cases a <;> rfl
theorem life0 {B q : Nat} (b : Kb h q noTold) (hq : q < B) : Lf h B (.slice none 0 0) q noTold :=
  ⟨Ow.nil _ _ _ (by omega), fun i hi => hi.elim, b, hq, ⟨nil_I, tr_I false, tr_I false, tr_I false⟩, by simp [noTold]⟩
section
/-- One life: its outputs, what it keeps. -/
structure Lo (h : AH) (v : AVal) (q : Nat) (t : Told) : Prop where
  o : Oi h v t.out
  ne : ¬ isBk v q
  k : Kb h q t
  I : ToldI t
  l : t.out.length ≤ 100
variable {q : Nat} {v x : AVal} {t t' : Told}
theorem Lo.kp {h' : AH} (s : Lo h v q t) (k : Kp h h') : Lo h' v q t := ⟨oik s.o k, s.ne, s.k.kp k, s.I, s.l⟩
theorem wp_lo {h1 : AH} (s : Lo h v q t) (tq : ToldQ h t' (.tuple [x, .agg (k3 t'.k0 t'.k1 t'.k2)]) h1) (I : ToldI t') (l : t'.out.length ≤ 100) {Q : AVal → AH → Prop} {K : AVal → AH → Ans}
    (c : ∀ h2, Kept q h h2 → Lo h2 x q t' → Wp (K (.tuple []) h2) Q) :
    Wp (ke ((rStore 3 (.ptr (some (q, 0))) (.agg (k3 t'.k0 t'.k1 t'.k2)) h1).map fun h' => (.tuple [], h')) K) Q := by
  obtain ⟨K1, x', e, o, f⟩ := tq
  simp only [AVal.tuple.injEq, List.cons.injEq, and_true] at e
  obtain rfl := e
  have hq := K1.w.lt _ _ s.k
  refine wp_kb K1.w' (s.k.kp K1) t' fun h2 K2 n2 b2 => c h2 ⟨h1, K1, K2, n2.symm⟩ ⟨Ow.ke o K2 fun i hi e => ?_, fun hi => ?_, b2, I, l⟩
  · have := f i hi; omega
  · have := f _ hi; omega
def R16 (x : Int) : Prop := -32768 ≤ x ∧ x ≤ 32767
theorem w3_R (x : Int) : R16 (wrapM 3 x) := by unfold R16; rw [w3]; omega
theorem w3_id {x : Int} (h : R16 x) : wrapM 3 x = x := by unfold R16 at h; rw [w3]; omega
end
end Go.Proofs.YtindiedfioiejaaDoor.AI
