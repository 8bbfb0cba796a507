/- More steps; slices of one's own that are written. -/
import Derived.Test.YtbcpmbggidemdaaAiLib
namespace Go.Proofs.Ytbcpmbggidemdaa.AI
open Go
set_option linter.unusedSimpArgs false
set_option linter.unusedVariables false

theorem Wp.eq {x : Ans} {a : AVal} {b : AH} (w : Wp x fun r h' => r = a ∧ h' = b) : x = some (a, b) := by
  obtain ⟨r, h', e, rfl, rfl⟩ := w
  exact e
theorem aMax_int (k q : IntKind) (x y : Int) : aMM aMax2 [.int k x, .int q y] = some (.int k (max x y)) := by
  simp only [aMM, aFold, aMax2, Option.bind_some]
  congr 2
  rw [Int.max_def]
  split <;> split <;> omega
theorem aMin_int (k q : IntKind) (x y : Int) : aMM aMin2 [.int k x, .int q y] = some (.int k (min x y)) := by
  simp only [aMM, aFold, aMin2, Option.bind_some]
  congr 2
  rw [Int.min_def]
  split <;> split <;> omega
theorem rBin_quo (e : EqK) (c : Bool) (k : IntKind) (x y : Int) (h : ¬ y = 0) : rBin .quo e c (.int k x) (.int k y) = some (.int k (k.wrap (x.tdiv y))) := by simp [rBin, aInt, h]
theorem rBin_rem (e : EqK) (c : Bool) (k : IntKind) (x y : Int) (h : ¬ y = 0) : rBin .rem e c (.int k x) (.int k y) = some (.int k (x.tmod y)) := by simp [rBin, aInt, h]
theorem rBin_beql (c : Bool) (x y : Bool) : rBin .eql .bool c (.bool x) (.bool y) = some (.bool (x == y)) := rfl
theorem rBin_bneq (c : Bool) (x y : Bool) : rBin .neq .bool c (.bool x) (.bool y) = some (.bool (!(x == y))) := rfl
/-- More steps. -/
theorem sp2 :
    (∀ a : Nat × Nat, aNilCheck (.ptr (some a)) = some (.ptr (some a))) ∧
    (∀ (k q : IntKind) (x y : Int), aMM aMax2 [.int k x, .int q y] = some (.int k (max x y))) ∧
    (∀ (k q : IntKind) (x y : Int), aMM aMin2 [.int k x, .int q y] = some (.int k (min x y))) ∧
    (∀ (c : Bool) (a : Nat × Nat), rBin .eql .ptr c (.ptr (some a)) (.ptr none) = some (.bool false)) ∧
    (∀ (c : Bool) (a : Nat × Nat), rBin .neq .ptr c (.ptr (some a)) (.ptr none) = some (.bool true)) ∧
    (∀ (c : Bool), rBin .eql .ptr c (.ptr none) (.ptr none) = some (.bool true)) ∧
    (∀ (c : Bool), rBin .neq .ptr c (.ptr none) (.ptr none) = some (.bool false)) ∧
    (∀ (e : EqK) (c : Bool) (k : IntKind) (x y : Int), ¬ y = 0 → rBin .quo e c (.int k x) (.int k y) = some (.int k (k.wrap (x.tdiv y)))) ∧
    (∀ (e : EqK) (c : Bool) (k : IntKind) (x y : Int), ¬ y = 0 → rBin .rem e c (.int k x) (.int k y) = some (.int k (x.tmod y))) ∧
    (∀ (c : Bool) (x y : Bool), rBin .eql .bool c (.bool x) (.bool y) = some (.bool (x == y))) ∧
    (∀ (c : Bool) (x y : Bool), rBin .neq .bool c (.bool x) (.bool y) = some (.bool (!(x == y)))) ∧
    (∀ (cs : List AVal) (i : Nat), rField i (.agg cs) = cs[i]?) ∧
    (∀ (cs : List AVal) (n i : Nat), rFieldA n i (.agg cs) = if i + n ≤ cs.length then some (.agg ((cs.drop i).take n)) else none) ∧
    (∀ m n : Nat, Int.tmod (m : Int) (n : Int) = ((m % n : Nat) : Int)) ∧ (∀ m n : Nat, Int.tdiv (m : Int) (n : Int) = ((m / n : Nat) : Int)) ∧
    (∀ b : Bool, (b == true) = b) ∧ (∀ b : Bool, (b && true) = b) ∧ (∀ b : Bool, (true && b) = b) ∧ (∀ b : Bool, (b && false) = false) ∧ (∀ b : Bool, (false && b) = false) :=
  ⟨fun _ => rfl, aMax_int, aMin_int, fun _ _ => rfl, fun _ _ => rfl, fun _ => rfl, fun _ => rfl, rBin_quo, rBin_rem, rBin_beql, rBin_bneq, fun _ _ => rfl, fun _ _ _ => rfl, fun m n => (Int.ofNat_tmod m n).symm, fun m n => (Int.ofNat_tdiv m n).symm, by simp, by simp, by simp, by simp, by simp⟩

variable {h : AH} {v : AVal} {e : TypeId} {sz n : Nat} {c : List AVal} {md : AMode}
theorem splice_len {cs vs : List AVal} {off : Nat} (h : off + vs.length ≤ cs.length) : (splice cs off vs).length = cs.length := by
  simp [splice]; omega
theorem splice_drop {cs vs : List AVal} {o off : Nat} (h : off + o + vs.length ≤ cs.length) : (splice cs (off + o) vs).drop off = splice (cs.drop off) o vs := by
  unfold splice
  rw [List.take_add, List.append_assoc, List.append_assoc, List.drop_left' (by rw [List.length_take]; omega), List.drop_drop, List.append_assoc]
  congr 3
  omega
theorem splice_cells {cs vs : List AVal} {off : Nat} (h1 : cs.all AVal.isCell = true) (h2 : vs.all AVal.isCell = true) : (splice cs off vs).all AVal.isCell = true := by
  rw [List.all_eq_true] at *
  intro x hx
  simp only [splice, List.mem_append] at hx
  rcases hx with (hx | hx) | hx
  · exact h1 x (List.mem_of_mem_take hx)
  · exact h2 x hx
  · exact h1 x (List.mem_of_mem_drop hx)
theorem Ow.pos (o : Ow h v e sz n c) (hn : 0 < c.length) : 0 < n := (Ow.rd o).pos hn
/-- Cells of its own are written. -/
theorem write_ow (w : Wf h) (o : Ow h v e sz n c) {j : Nat} {vs : List AVal} (hj : j + vs.length ≤ c.length) (h0 : 0 < c.length) (hc : vs.all AVal.isCell = true) :
    ∃ h', h.write (bk v) (ofs v + j) vs = some h' ∧ Ow h' v e sz n (splice c j vs) ∧ Ke (isBk v) h h' ∧ h'.n = h.n := by
  obtain ⟨hz, hl, hcc, ho⟩ := o
  rcases ho with ⟨rfl, rfl⟩ | ⟨i, off, cs, opn, par, rfl, hg, h1, h2⟩
  · simp at hl; subst hl; simp at h0
  · have hlen : c.length = cs.length - off := by rw [← h2, List.length_drop]
    obtain ⟨h', e1, e2, e3, e4⟩ := write_own w (off := off + j) (vs := vs) hg (by omega) hc
    refine ⟨h', e1, ⟨hz, by rw [splice_len hj]; exact hl, splice_cells hcc hc, .inr ⟨i, off, _, opn, [], rfl, e2, ?_, ?_⟩⟩, e3.mono fun k hk => hk, e4⟩
    · rw [splice_len (by omega)]; exact h1
    · rw [splice_drop (by omega), h2]
/-- A store into one's own slice. -/
theorem wp_storeOw {Q : AVal → AH → Prop} {j m : Nat} {a x : AVal} {vs : List AVal} {K : AVal → AH → Ans} (w : Wf h) (o : Ow h v e sz n c) (ha : a = ea v j) (hx : x.cells = some vs) (hm : vs.length = m) (hj : j + m ≤ c.length) (h0 : 0 < c.length) (hc : vs.all AVal.isCell = true)
    (k : ∀ h1, Ow h1 v e sz n (splice c j vs) → Ke (isBk v) h h1 → h1.n = h.n → Wp (K (.tuple []) h1) Q) :
    Wp (ke ((rStore m a x h).map fun h' => (.tuple [], h')) K) Q := by
  subst ha hm
  obtain ⟨h', e1, o', k', n'⟩ := write_ow w o hj h0 hc
  have : rStore vs.length (ea v j) x h = some h' := by
    unfold rStore ea
    simp only [hx, if_true, e1]
  rw [this]
  exact k h' o' k' n'
/-- A copy into the beginning of one's own slice: 'd' is a cut of it. -/
theorem wp_copyOw {Q : AVal → AH → Prop} {d x : AVal} {k m : Nat} {cx : List AVal} {K : AVal → AH → Ans} (w : Wf h) (o : Ow h v e sz n c) (hd : d = v ∧ k = n ∨ ((∃ cap, d = .slice (some (bk v, ofs v, sz)) k cap) ∧ k ≤ n) ∨ ((∃ a cap, d = .slice a k cap) ∧ k = 0)) (s : Sz h x sz m cx md) (hc : cx.all AVal.isCell = true)
    (kk : ∀ h1, Ow h1 v e sz n (cx.take (min m k * sz) ++ c.drop (min m k * sz)) → Ke (isBk v) h h1 → h1.n = h.n → Wp (K (.int .i64 (min m k : Nat)) h1) Q) :
    Wp (ke (rCopy sz d x h) K) Q := by
  have hlx := s.clen
  have hz := o.1
  have hlc := o.2.1
  -- what d is like
  have hd' : (∃ a cap, d = .slice a k cap) ∧ (k = 0 ∨ (∃ cap, d = .slice (some (bk v, ofs v, sz)) k cap) ∧ k ≤ n) := by
    rcases hd with ⟨rfl, rfl⟩ | ⟨⟨cap, rfl⟩, hk⟩ | ⟨⟨a, cap, rfl⟩, rfl⟩
    · obtain ⟨a, cap, ev, _⟩ := Ow.rd o
      refine ⟨⟨a, cap, ev⟩, ?_⟩
      rcases Nat.eq_zero_or_pos k with e | e
      · exact .inl e
      · obtain ⟨_, cap, ev⟩ := (Ow.rd o).rd e
        exact .inr ⟨⟨cap, ev⟩, Nat.le_refl _⟩
    · exact ⟨⟨_, _, rfl⟩, .inr ⟨⟨_, rfl⟩, hk⟩⟩
    · exact ⟨⟨_, _, rfl⟩, .inl rfl⟩
  obtain ⟨⟨a, cap, rfl⟩, hk⟩ := hd'
  unfold rCopy
  rw [s.src]
  simp only [Option.bind_some]
  by_cases h0 : min m k = 0
  · have key : (match (AVal.slice a k cap) with
      | .slice none _ _ => some (AVal.int .i64 0, h)
      | .slice (some (i, off, z)) len _ => if min m len = 0 then some (AVal.int .i64 0, h) else if z = sz then (h.write i off (cx.take (min m len * sz))).map fun h' => (AVal.int .i64 (min m len : Nat), h') else none
      | _ => none) = some (AVal.int .i64 0, h) := by
      rcases a with _ | ⟨i, off, z⟩
      · rfl
      · simp only [h0, if_true]
    have := kk h (by rw [h0]; simpa using o) (Ke.refl w) rfl
    rw [h0] at this
    exact Eq.mpr (by congr 1; exact congrArg (fun y => ke y K) key) this
  · obtain ⟨⟨cap', e2⟩, hkn⟩ := hk.resolve_left (by omega)
    simp only [AVal.slice.injEq, true_and] at e2
    obtain ⟨rfl, rfl⟩ := e2
    have hmk : min m k * sz ≤ m * sz := Nat.mul_le_mul_right _ (Nat.min_le_left _ _)
    have hmn : min m k * sz ≤ n * sz := Nat.mul_le_mul_right _ (by omega)
    have hp : 0 < min m k * sz := Nat.mul_pos (by omega) hz
    obtain ⟨h', e1, o', k', n'⟩ := write_ow w o (j := 0) (vs := cx.take (min m k * sz)) (by rw [List.length_take]; omega) (by omega) (by
      rw [List.all_eq_true] at *
      intro y hy
      exact hc y (List.mem_of_mem_take hy))
    simp only [if_neg h0, if_true]
    rw [Nat.add_zero] at e1
    rw [e1]
    refine kk h' ?_ k' n'
    refine o'.to ?_ rfl
    have hT : (cx.take (min m k * sz)).length = min m k * sz := by rw [List.length_take]; omega
    simp only [splice, List.take_zero, List.nil_append, Nat.zero_add, hT]
theorem Ow.cutR (o : Ow h v e sz n c) {q : IntKind} {b : Int} (h0 : 0 ≤ b) (hbn : b ≤ n) :
    ∃ v', rCut sz v none (some (.int q b)) none = some v' ∧ Sz h v' sz b.toNat (c.take (b.toNat * sz)) .rw ∧ ((∃ cap, v' = .slice (some (bk v, ofs v, sz)) b.toNat cap) ∧ b.toNat ≤ n ∨ (∃ a cap, v' = .slice a b.toNat cap) ∧ b.toNat = 0) := by
  obtain ⟨v', e1, s1, _⟩ := (Ow.rd o).cutR (q := q) h0 hbn
  refine ⟨v', e1, s1, ?_⟩
  obtain ⟨a, cap, e2, _⟩ := s1
  rcases Nat.eq_zero_or_pos b.toNat with e0 | e0
  · exact .inr ⟨⟨a, cap, e2⟩, e0⟩
  · left
    refine ⟨?_, by omega⟩
    obtain ⟨hz, hl, hc, ho⟩ := o
    rcases ho with ⟨rfl, rfl⟩ | ⟨i, off, cs, opn, par, rfl, hg, h1, h2⟩
    · omega
    · unfold rCut at e1
      simp only [aBound_none, aBound_int h0 hbn, Option.bind_some] at e1
      split at e1
      · omega
      · split at e1
        · simp only [Option.some.injEq, Nat.zero_mul, Nat.add_zero, Nat.sub_zero] at e1
          exact ⟨_, e1.symm⟩
        · cases e1
theorem Ow.bkIs (o : Ow h v e sz n c) (hn : 0 < n) : isBk v (bk v) := by
  obtain ⟨_, _, _, ho⟩ := o
  rcases ho with ⟨rfl, rfl⟩ | ⟨i, off, cs, opn, par, rfl, _⟩
  · omega
  · rfl
theorem set_rep {α : Type} (a b : α) (i m : Nat) : (List.replicate i a ++ List.replicate (m + 1) b).set i a = List.replicate (i + 1) a ++ List.replicate m b := by
  rw [List.set_append_right _ _ (by simp), List.length_replicate, Nat.sub_self, List.replicate_succ, List.set_cons_zero, List.replicate_succ', List.append_assoc]
  rfl
/-- Bytes, exclusive or. -/
theorem xor_u8 (x y : UInt8) : iXor .u8 (x.toNat : Int) (y.toNat : Int) = ((x ^^^ y).toNat : Int) := by
  unfold iXor
  have e : ∀ z : UInt8, BitVec.ofInt IntKind.u8.bits (z.toNat : Int) = z.toBitVec := by
    intro z
    apply BitVec.eq_of_toNat_eq
    rw [ofInt_toNat (by exact z.toNat_lt)]
    rfl
  rw [e, e, wr_u8 (by omega) (by have := (x.toBitVec ^^^ y.toBitVec).isLt; simp only [IntKind.bits] at this ⊢; omega)]
  rfl
theorem Ow.bk_lt {sz n : Nat} {c : List AVal} (w : Wf h) (o : Ow h v e sz n c) {i : Nat} (hi : isBk v i) : i < h.n := by
  obtain ⟨_, _, _, ho⟩ := o
  rcases ho with ⟨rfl, _⟩ | ⟨j, off, cs, opn, par, rfl, hg, _⟩
  · exact hi.elim
  · simp only [isBk] at hi; subst hi; exact w.lt _ _ hg
theorem splice_one (l : List AVal) (j : Nat) (x : AVal) (hj : j < l.length) : splice l j [x] = l.set j x := by
  unfold splice
  rw [List.set_eq_take_append_cons_drop, if_pos hj]
  simp
theorem bytesOf_set (l : List UInt8) (j : Nat) (x : UInt8) : bytesOf (l.set j x) = (bytesOf l).set j (.int .u8 x.toNat) := by simp [bytesOf, List.map_set]
theorem manyT_u8 (n : Nat) : manyT n [.int .u8 0] = bytesOf (List.replicate n 0) := by
  induction n with
  | zero => rfl
  | succ n ih =>
    simp only [manyT, bytesOf, List.replicate_succ, List.flatten_cons, List.map_cons] at ih ⊢
    rw [ih]; rfl
theorem Ow.roOr {l : List UInt8} (o : Ow h v e 1 l.length (bytesOf l)) : ∃ md, Bs h v l md ∧ (md = .ro ∨ isBk v (bk v)) := by
  have o' := o
  obtain ⟨_, hl, _, ho⟩ := o
  rcases ho with ⟨rfl, hn⟩ | ⟨i, off, cs, opn, par, rfl, _⟩
  · have : l = [] := List.eq_nil_of_length_eq_zero hn
    subst this
    exact ⟨.ro, Sz.nil h 1 (by omega) _, .inl rfl⟩
  · exact ⟨.rw, o'.rd, .inr rfl⟩

/-- What it reads is kept where its block is. -/
theorem Sz.keF {S : Nat → Prop} {h' : AH} (s : Sz h v sz n c md) (k : Ke S h h') (hS : ∀ i, isBk v i → ¬ S i) : Sz h' v sz n c md := by
  obtain ⟨a, cap, rfl, h1, h2, h3, h4⟩ := s
  rcases h4 with h4 | h4 | ⟨i, off, rfl, r⟩
  · exact ⟨a, cap, rfl, h1, h2, h3, .inl h4⟩
  · exact ⟨a, cap, rfl, h1, h2, h3, .inr (.inl h4)⟩
  · exact ⟨_, cap, rfl, h1, h2, h3, .inr (.inr ⟨i, off, rfl, r.ke k (.inr (hS i rfl))⟩)⟩
theorem Sz.bk_lt (w : Wf h) (s : Sz h v sz n c md) (hn : 0 < n) {i : Nat} (hi : isBk v i) : i < h.n := by
  obtain ⟨⟨⟨cs, e, o, p, g, _⟩, _⟩, cap, e2⟩ := s.rd hn
  rw [e2] at hi
  simp only [isBk] at hi
  subst hi
  exact w.lt _ _ g
/-- What is behind a beginning of one's own. -/
theorem Ow.cutL (o : Ow h v e sz n c) {p : IntKind} {a : Int} (h0 : 0 ≤ a) (ha : a ≤ n) :
    ∃ v', rCut sz v (some (.int p a)) none none = some v' ∧ Ow h v' e sz (n - a.toNat) (c.drop (a.toNat * sz)) ∧ ∀ i, isBk v' i → isBk v i := by
  obtain ⟨hz, hl, hc, ho⟩ := o
  have hcd : (c.drop (a.toNat * sz)).all AVal.isCell = true := by
    rw [List.all_eq_true] at hc ⊢
    intro x hx
    exact hc x (List.mem_of_mem_drop hx)
  have hlen : (c.drop (a.toNat * sz)).length = (n - a.toNat) * sz := by simp [hl, Nat.sub_mul]
  have hmn : a.toNat * sz ≤ n * sz := Nat.mul_le_mul_right _ (by omega)
  rcases ho with ⟨rfl, rfl⟩ | ⟨i, off, cs, opn, par, rfl, hg, h1, h2⟩
  · have a0 : a = 0 := by omega
    subst a0
    have : c = [] := List.eq_nil_of_length_eq_zero (by simpa using hl)
    subst this
    exact ⟨.slice none 0 0, by simp [rCut, aBound], by simpa using Ow.nil h e sz hz, fun i hi => hi⟩
  · refine ⟨.slice (some (i, off + a.toNat * sz, sz)) (n - a.toNat) (n - a.toNat), ?_, ⟨hz, hlen, hcd, .inr ⟨i, off + a.toNat * sz, cs, opn, par, rfl, hg, ?_, ?_⟩⟩, fun i hi => hi⟩
    · unfold rCut
      have e1 : aBound (some (.int p a)) 0 n = some a.toNat := aBound_int h0 (by omega)
      simp only [aBound_none, e1, Option.bind_some]
      rw [if_neg (by omega), if_pos (by simp [hz])]
    · rw [Nat.sub_mul]; omega
    · rw [← h2, List.drop_drop]
end Go.Proofs.Ytbcpmbggidemdaa.AI
