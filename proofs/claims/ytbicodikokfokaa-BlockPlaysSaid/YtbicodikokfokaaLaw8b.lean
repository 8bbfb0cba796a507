/- Chapter 8: BlockPlays: what its text comes to. -/
import Derived.Test.YtbicodikokfokaaRef8
import Derived.Test.YtbicodikokfokaaLaw8a
namespace Go.Proofs.Ytbicodikokfokaa.AI
open Go
set_option linter.unusedSimpArgs false
set_option linter.unusedVariables false
variable {ov : AOver} {h : AH} {v a b : AVal} {md md' : AMode} {p : Nat} {s r : BSt} {lv : AVal} {vs : List AVal} {p2 : Nat} {lu : AVal} {us : List AVal}

/-- Two stores that answer alike. -/
structure Same (s r : BSt) : Prop where
  bl : s.bl = r.bl
  size : s.size = r.size
  writes : s.writes = r.writes
  dead : s.dead = r.dead
  left : s.dead = false → s.left = r.left
  pre : s.dead = false → s.left ≠ -1 → s.pre = r.pre
theorem Same.is (e : Same s r) (i : Int) : isM s i = isM r i := by unfold isM; rw [e.dead, e.bl]
theorem Same.read (e : Same s r) (i : Int) : readM s i = readM r i := by unfold readM; rw [e.is, e.bl]
theorem Same.write (e : Same s r) (hl : -1 ≤ s.left) (i : Int) (b : List UInt8) : (writeM s i b).2 = (writeM r i b).2 ∧ Same (writeM s i b).1 (writeM r i b).1 := by
  unfold writeM
  rw [← e.is]
  by_cases c : isM s i ≠ 0
  · rw [if_pos c, if_pos c]; exact ⟨rfl, e⟩
  rw [if_neg c, if_neg c]
  have hd := (isM_zero (by simpa using c)).1
  have hl2 := e.left hd
  rw [← e.size]
  by_cases c2 : b.length ≠ s.size
  · rw [if_pos c2, if_pos c2]; exact ⟨rfl, e⟩
  rw [if_neg c2, if_neg c2, ← hl2]
  by_cases c3 : s.left = 0
  · rw [if_pos c3, if_pos c3]
    have hp := e.pre hd (by omega)
    exact ⟨rfl, ⟨by simp only [e.bl, hp], rfl, e.writes, rfl, fun h => by simp at h, fun h => by simp at h⟩⟩
  · rw [if_neg c3, if_neg c3]
    refine ⟨rfl, ⟨by simp only [e.bl], rfl, by simp only [e.writes], e.dead, fun _ => by simp only [hl2], fun _ hn => e.pre hd ?_⟩⟩
    intro hm
    simp only at hn
    omega
theorem Same.spoil (e : Same s r) (i a : Int) (x : UInt8) : Same (spoilM s i a x) (spoilM r i a x) := by
  unfold spoilM
  rw [← e.is, ← e.size]
  split
  · exact ⟨by simp only [e.bl], rfl, e.writes, e.dead, e.left, e.pre⟩
  · exact e
theorem Same.cut (e : Same s r) (k pr : Int) : Same { s with left := max k (-1), pre := pr } (if r.dead = true then r else { r with left := max k (-1), pre := pr }) := by
  split
  · rename_i hd
    have : s.dead = true := by rw [e.dead]; exact hd
    exact ⟨e.bl, e.size, e.writes, e.dead, fun h => by simp [this] at h, fun h => by simp [this] at h⟩
  · exact ⟨e.bl, e.size, e.writes, e.dead, fun _ => rfl, fun _ _ => rfl⟩
theorem Same.power (e : Same s r) : Same { s with left := -1, dead := false } { r with left := -1, dead := false } :=
  ⟨e.bl, e.size, e.writes, rfl, fun _ => rfl, fun _ h => absurd rfl h⟩

/-- Step of a script. -/
structure Stp where
  what : Int
  i : Int
  n : Int
  p : Int
  x : UInt8
  b : List UInt8
def rg (k : Int) : Prop := -9223372036854775808 ≤ k ∧ k < 9223372036854775808
/-- The script's cells. -/
def StA (h : AH) (cs : List AVal) (l : List Stp) : Prop := ∀ (i : Nat) x, l[i]? = some x → ∃ bv, (cs.drop (i * 6)).take 6 = [.int .i64 x.what, .int .i64 x.i, .int .i64 x.n, .int .i64 x.p, .int .u8 x.x.toNat, bv] ∧ rg x.what ∧ rg x.i ∧ rg x.n ∧ rg x.p ∧ Bs h bv x.b .ro ∧ x.b.length ≤ 2 ^ 48
theorem StA.ke {S : Nat → Prop} {h' : AH} {cs : List AVal} {l : List Stp} (t : StA h cs l) (k : Ke S h h') : StA h' cs l := fun i x hx => by
  obtain ⟨bv, e, h1, h2, h3, h4, sb, hb⟩ := t i x hx
  exact ⟨bv, e, h1, h2, h3, h4, sb.ro k, hb⟩

theorem light8_spec (H : Plain ov) (n : Nat) (w : Wf h) {cs : List AVal} {l : List Stp} (sa : Sz h a 6 l.length cs .ro) (st : StA h cs l) (hl : l.length ≤ 2 ^ 48) :
    ∃ r, kc ov (n + 1) N_runglaw8_light [a] h = some (.bool r, h) ∧ (r = true → l.length ≤ 200 ∧ ∀ x ∈ l, x.b.length ≤ 20000) := by
  suffices Wp (kc ov (n + 1) N_runglaw8_light [a] h) fun v h' => h' = h ∧ ∃ r, v = .bool r ∧ (r = true → l.length ≤ 200 ∧ ∀ x ∈ l, x.b.length ≤ 20000) by
    obtain ⟨v, h', e, rfl, r, rfl, hr⟩ := this
    exact ⟨r, e, hr⟩
  rw [C_runglaw8_light H]; unfold F_runglaw8_light
  simp -dsimp (disch := omega) only [↓pre, sp, sp2, wp_some, Int.cast_ofNat_Int, Nat.reduceAdd, Nat.reduceMul, Nat.reduceSub, Nat.reduceLeDiff, Nat.reduceEqDiff, Nat.reducePow, Int.reduceToNat, Int.reducePow, Int.reduceAdd, Int.reduceSub, Int.reduceMul, Int.reduceLT, Int.reduceLE, Int.reduceEq, Int.reduceNeg]
  refine wp_loop (fun m x h2 => h2 = h ∧ ∃ i t : Nat, x = [.int .i64 t, .int .i64 i] ∧ i + m = l.length ∧ t ≤ 2 ^ 49 ∧ ∀ j y, j < i → l[j]? = some y → y.b.length ≤ t) l.length (by omega) ⟨rfl, 0, 0, rfl, by omega, by omega, fun j y hj => by omega⟩ ?_
  rintro m _ h2 j ⟨rfl, i, t, rfl, him, ht, hin⟩ hj
  unfold L_runglaw8_light_0
  simp -dsimp (disch := omega) only [↓pre, sp, sp2, wp_some, Int.cast_ofNat_Int, Nat.reduceAdd, Nat.reduceMul, Nat.reduceSub, Nat.reduceLeDiff, Nat.reduceEqDiff, Nat.reducePow, Int.reduceToNat, Int.reducePow, Int.reduceAdd, Int.reduceSub, Int.reduceMul, Int.reduceLT, Int.reduceLE, Int.reduceEq, Int.reduceNeg, sa.len]
  refine wp_kT (.bool (decide (i < l.length ∧ t ≤ 20000))) (fun j hj => ?_) ?_
  · by_cases c : (i : Int) < l.length
    · simp -dsimp (disch := omega) only [↓pre, sp, sp2, wp_some, Int.cast_ofNat_Int, Nat.reduceAdd, Nat.reduceMul, Nat.reduceSub, Nat.reduceLeDiff, Nat.reduceEqDiff, Nat.reducePow, Int.reduceToNat, Int.reducePow, Int.reduceAdd, Int.reduceSub, Int.reduceMul, Int.reduceLT, Int.reduceLE, Int.reduceEq, Int.reduceNeg, c]
      have e : ((t : Int) ≤ 20000) ↔ t ≤ 20000 := by omega
      simpa only [show i < l.length by omega, e, true_and] using hj
    · simp -dsimp (disch := omega) only [↓pre, sp, sp2, wp_some, Int.cast_ofNat_Int, Nat.reduceAdd, Nat.reduceMul, Nat.reduceSub, Nat.reduceLeDiff, Nat.reduceEqDiff, Nat.reducePow, Int.reduceToNat, Int.reducePow, Int.reduceAdd, Int.reduceSub, Int.reduceMul, Int.reduceLT, Int.reduceLE, Int.reduceEq, Int.reduceNeg, c]
      simpa only [show ¬ i < l.length by omega, false_and, decide_false] using hj
  simp -dsimp (disch := omega) only [↓pre, sp, sp2, wp_some, Int.cast_ofNat_Int, Nat.reduceAdd, Nat.reduceMul, Nat.reduceSub, Nat.reduceLeDiff, Nat.reduceEqDiff, Nat.reducePow, Int.reduceToNat, Int.reducePow, Int.reduceAdd, Int.reduceSub, Int.reduceMul, Int.reduceLT, Int.reduceLE, Int.reduceEq, Int.reduceNeg]
  refine wp_ite (fun c => ?_) (fun c => ?_)
  · obtain ⟨bv, e1, _, _, _, _, sb, hb⟩ := st i l[i] (List.getElem?_eq_getElem c.1)
    have hcl := sa.clen
    have e5 : rLoad (ea a (i * 6 + 5)) h2 = some bv := by
      rw [sa.ld (by omega)]
      have := congrArg (·[5]?) e1
      simpa [List.getElem?_take, List.getElem?_drop] using this
    have ew : IntKind.wrap .i64 (IntKind.wrap .i64 ((t : Int) + 1) + (l[i].b.length : Nat)) = ((t + 1 + l[i].b.length : Nat) : Int) := by
      generalize l[i].b.length = q at hb
      rw [wr_i64 (n := (t : Int) + 1) (by omega) (by omega), wr_i64 (by omega) (by omega)]; omega
    have ew2 : IntKind.wrap .i64 ((i : Int) + 1) = ((i + 1 : Nat) : Int) := by rw [wr_i64 (by omega) (by omega)]; omega
    simp -dsimp (disch := omega) only [↓pre, sp, sp2, wp_some, Int.cast_ofNat_Int, Nat.reduceAdd, Nat.reduceMul, Nat.reduceSub, Nat.reduceLeDiff, Nat.reduceEqDiff, Nat.reducePow, Int.reduceToNat, Int.reducePow, Int.reduceAdd, Int.reduceSub, Int.reduceMul, Int.reduceLT, Int.reduceLE, Int.reduceEq, Int.reduceNeg, sa.at, e5, sb.len, ew, ew2]
    have hlt : t + 1 + l[i].b.length ≤ 2 ^ 49 := by have := c.2; omega
    refine hj (m - 1) _ _ (by omega) ⟨rfl, i + 1, t + 1 + l[i].b.length, rfl, by omega, hlt, fun k y hk hy => ?_⟩
    by_cases ck : k = i
    · subst ck
      rw [List.getElem?_eq_getElem c.1] at hy
      simp only [Option.some.injEq] at hy
      subst hy; omega
    · have := hin k y (by omega) hy; omega
  · simp -dsimp (disch := omega) only [↓pre, sp, sp2, wp_some, Int.cast_ofNat_Int, Nat.reduceAdd, Nat.reduceMul, Nat.reduceSub, Nat.reduceLeDiff, Nat.reduceEqDiff, Nat.reducePow, Int.reduceToNat, Int.reducePow, Int.reduceAdd, Int.reduceSub, Int.reduceMul, Int.reduceLT, Int.reduceLE, Int.reduceEq, Int.reduceNeg, sa.len]
    refine wp_kT (.bool (decide (l.length ≤ 200 ∧ t ≤ 20000))) (fun j hj => ?_) ?_
    · have e : ((t : Int) ≤ 20000) ↔ t ≤ 20000 := by omega
      by_cases c : (l.length : Int) ≤ 200
      · simp -dsimp (disch := omega) only [↓pre, sp, sp2, wp_some, Int.cast_ofNat_Int, Nat.reduceAdd, Nat.reduceMul, Nat.reduceSub, Nat.reduceLeDiff, Nat.reduceEqDiff, Nat.reducePow, Int.reduceToNat, Int.reducePow, Int.reduceAdd, Int.reduceSub, Int.reduceMul, Int.reduceLT, Int.reduceLE, Int.reduceEq, Int.reduceNeg, c]
        simpa only [show l.length ≤ 200 by omega, e, true_and] using hj
      · simp -dsimp (disch := omega) only [↓pre, sp, sp2, wp_some, Int.cast_ofNat_Int, Nat.reduceAdd, Nat.reduceMul, Nat.reduceSub, Nat.reduceLeDiff, Nat.reduceEqDiff, Nat.reducePow, Int.reduceToNat, Int.reducePow, Int.reduceAdd, Int.reduceSub, Int.reduceMul, Int.reduceLT, Int.reduceLE, Int.reduceEq, Int.reduceNeg, c]
        simpa only [show ¬ l.length ≤ 200 by omega, false_and, decide_false] using hj
    · simp -dsimp (disch := omega) only [↓pre, sp, sp2, wp_some, Int.cast_ofNat_Int, Nat.reduceAdd, Nat.reduceMul, Nat.reduceSub, Nat.reduceLeDiff, Nat.reduceEqDiff, Nat.reducePow, Int.reduceToNat, Int.reducePow, Int.reduceAdd, Int.reduceSub, Int.reduceMul, Int.reduceLT, Int.reduceLE, Int.reduceEq, Int.reduceNeg]
      refine ⟨_, rfl, fun hd => ?_⟩
      have hd := of_decide_eq_true hd
      refine ⟨hd.1, fun x hx => ?_⟩
      obtain ⟨k, hk, e⟩ := List.getElem_of_mem hx
      have := hin k x (by omega) (by rw [← e]; exact List.getElem?_eq_getElem hk)
      omega

theorem readM_len (t : Sto h p s lv vs) (i : Int) : (readM s i).1.length ≤ 4096 := by
  unfold readM
  split
  · rename_i c
    obtain ⟨hd, h0, h1⟩ := isM_zero c
    obtain ⟨v, _, _, e3, _⟩ := t.at (i := i.toNat) (by omega)
    have := t.sz
    show (s.bl.getD i.toNat []).length ≤ 4096
    omega
  · simp
theorem alike_spec (H : Plain ov) (n : Nat) (w : Wf h) (t : Sto h p s lv vs) (u : RSto h p2 r lu us) (e : Same s r) (hap : ∀ i, Mine p lv vs i → ¬ Mine p2 lu us i) :
    Wp (kc ov (n + 3) N_runglaw8_alike [.ptr (some (p, 0)), .ptr (some (p2, 0))] h) fun v h' => v = .bool true ∧ Kp h h' := by
  rw [C_runglaw8_alike H]; unfold F_runglaw8_alike
  have htn := t.n
  have hun := u.n
  have hbl := e.bl
  have hlen : s.bl.length = us.length := by rw [e.bl]; exact u.n
  have hc := u.cnt
  simp -dsimp (disch := omega) only [↓pre, sp, sp2, wp_some, Int.cast_ofNat_Int, Nat.reduceAdd, Nat.reduceMul, Nat.reduceSub, Nat.reduceLeDiff, Nat.reduceEqDiff, Nat.reducePow, Int.reduceToNat, Int.reducePow, Int.reduceAdd, Int.reduceSub, Int.reduceMul, Int.reduceLT, Int.reduceLE, Int.reduceEq, Int.reduceNeg, row_rw u.box, dead_spec H _ t, writes_spec H _ t, blocks_spec H _ t, (Ow.rd u.l).len, ← e.dead, ← e.writes, ← hlen]
  have hdd : (!(s.dead == s.dead)) = false := by simp
  simp -dsimp (disch := omega) only [↓pre, sp, sp2, wp_some, Int.cast_ofNat_Int, Nat.reduceAdd, Nat.reduceMul, Nat.reduceSub, Nat.reduceLeDiff, Nat.reduceEqDiff, Nat.reducePow, Int.reduceToNat, Int.reducePow, Int.reduceAdd, Int.reduceSub, Int.reduceMul, Int.reduceLT, Int.reduceLE, Int.reduceEq, Int.reduceNeg, hdd, Bool.or_true, row_rw u.box, dead_spec H _ t, writes_spec H _ t, blocks_spec H _ t, (Ow.rd u.l).len, ← e.dead, ← e.writes, ← hlen]
  refine wp_loop (fun m x h2 => ∃ k : Nat, x = [.int .i64 ((k : Int) - 1)] ∧ k + m = s.bl.length + 2 ∧ Kp h h2) (s.bl.length + 2) (by omega) ⟨0, rfl, by omega, Ke.refl w⟩ ?_
  rintro m _ h2 j ⟨k, rfl, hk, k2⟩ hj
  unfold L_runglaw8_alike_0
  have t2 := t.kp k2
  have u2 := u.kp k2
  simp -dsimp (disch := omega) only [↓pre, sp, sp2, wp_some, Int.cast_ofNat_Int, Nat.reduceAdd, Nat.reduceMul, Nat.reduceSub, Nat.reduceLeDiff, Nat.reduceEqDiff, Nat.reducePow, Int.reduceToNat, Int.reducePow, Int.reduceAdd, Int.reduceSub, Int.reduceMul, Int.reduceLT, Int.reduceLE, Int.reduceEq, Int.reduceNeg, row_rw u2.box, (Ow.rd u2.l).len, ← hlen]
  refine wp_ite (fun c => ?_) (fun c => ?_)
  · refine Wp.bind (read_spec H _ k2.w' t2 ((k : Int) - 1)) fun v1 h3 ⟨k3, x1, e1, o1, f1⟩ => ?_
    subst e1
    have u3 := u2.kp k3
    obtain ⟨x2, e2, s2⟩ := rread_spec H (n + 1) u3 ((k : Int) - 1)
    rw [← e.read] at e2 s2
    have hb := fun n => bytes_spec H n o1.rd s2
    simp -dsimp (disch := omega) only [↓pre, sp, sp2, wp_some, Int.cast_ofNat_Int, Nat.reduceAdd, Nat.reduceMul, Nat.reduceSub, Nat.reduceLeDiff, Nat.reduceEqDiff, Nat.reducePow, Int.reduceToNat, Int.reducePow, Int.reduceAdd, Int.reduceSub, Int.reduceMul, Int.reduceLT, Int.reduceLE, Int.reduceEq, Int.reduceNeg, e2]
    refine wp_kTh (fun v h9 => v = .bool false ∧ h9 = h3) (fun j hj => ?_) ?_
    · simp -dsimp (disch := omega) only [↓pre, sp, sp2, wp_some, Int.cast_ofNat_Int, Nat.reduceAdd, Nat.reduceMul, Nat.reduceSub, Nat.reduceLeDiff, Nat.reduceEqDiff, Nat.reducePow, Int.reduceToNat, Int.reducePow, Int.reduceAdd, Int.reduceSub, Int.reduceMul, Int.reduceLT, Int.reduceLE, Int.reduceEq, Int.reduceNeg, hb]
      exact hj _ _ ⟨by simp, rfl⟩
    · rintro v h4 ⟨rfl, rfl⟩
      simp -dsimp (disch := omega) only [↓pre, sp, sp2, wp_some, Int.cast_ofNat_Int, Nat.reduceAdd, Nat.reduceMul, Nat.reduceSub, Nat.reduceLeDiff, Nat.reduceEqDiff, Nat.reducePow, Int.reduceToNat, Int.reducePow, Int.reduceAdd, Int.reduceSub, Int.reduceMul, Int.reduceLT, Int.reduceLE, Int.reduceEq, Int.reduceNeg]
      refine Wp.bind (spoilh_spec H _ k3.w' o1 (by have := readM_len t2 ((k : Int) - 1); omega)) fun v5 h5 ⟨e5, k5⟩ => ?_
      have ew : IntKind.wrap .i64 ((k : Int) - 1 + 1) = (((k + 1 : Nat) : Int) - 1) := by rw [wr_i64 (by omega) (by omega)]; omega
      simp -dsimp (disch := omega) only [↓pre, sp, sp2, wp_some, Int.cast_ofNat_Int, Nat.reduceAdd, Nat.reduceMul, Nat.reduceSub, Nat.reduceLeDiff, Nat.reduceEqDiff, Nat.reducePow, Int.reduceToNat, Int.reducePow, Int.reduceAdd, Int.reduceSub, Int.reduceMul, Int.reduceLT, Int.reduceLE, Int.reduceEq, Int.reduceNeg, ew]
      exact hj (m - 1) _ _ (by omega) ⟨k + 1, rfl, by omega, k2.trans (Ke.new_p k3 k5 f1)⟩
  · simp -dsimp (disch := omega) only [↓pre, sp, sp2, wp_some, Int.cast_ofNat_Int, Nat.reduceAdd, Nat.reduceMul, Nat.reduceSub, Nat.reduceLeDiff, Nat.reduceEqDiff, Nat.reducePow, Int.reduceToNat, Int.reducePow, Int.reduceAdd, Int.reduceSub, Int.reduceMul, Int.reduceLT, Int.reduceLE, Int.reduceEq, Int.reduceNeg]
    exact k2
theorem writeM_size (s : BSt) (i : Int) (b : List UInt8) : (writeM s i b).1.size = s.size := by
  unfold writeM
  repeat' split
  all_goals rfl
theorem Ow.roOr {l : List UInt8} (o : Ob h v l) : ∃ md, Bs h v l md ∧ (md = .ro ∨ isBk v (bk v)) := by
  have o' := o
  obtain ⟨_, hl, _, ho⟩ := o
  rcases ho with ⟨rfl, hn⟩ | ⟨i, off, cs, opn, par, rfl, _⟩
  · have : l = [] := List.eq_nil_of_length_eq_zero hn
    subst this
    exact ⟨.ro, Sz.nil h 1 (by omega) _, .inl rfl⟩
  · exact ⟨.rw, o'.rd, .inr rfl⟩
/-- The two stores after a step. -/
def PR (h1 : AH) (k z : Nat) (y : List AVal) (h3 : AH) : Prop := ∃ (p : Nat) (lv : AVal) (vs : List AVal) (p2 : Nat) (lu : AVal) (us : List AVal) (s r : BSt), y = [.ptr (some (p, 0)), .ptr (some (p2, 0))] ∧ Ke (fun _ => True) h1 h3 ∧ Sto h3 p s lv vs ∧ RSto h3 p2 r lu us ∧ Same s r ∧ (∀ i, Mine p lv vs i → ¬ Mine p2 lu us i) ∧ s.writes ≤ k + 1 ∧ s.size = z
theorem plays_loop (H : Plain ov) (d : Nat) {z : Nat} {cs : List AVal} {l : List Stp} (hz : 16 ≤ z ∧ z ≤ 4096) (w : Wf h) (sa : Sz h a 6 l.length cs .ro) (st : StA h cs l) (hl : l.length ≤ 200) (hlb : ∀ x ∈ l, x.b.length ≤ 20000)
    (t : Sto h p s lv vs) (u : RSto h p2 r lu us) (e : Same s r) (hap : ∀ i, Mine p lv vs i → ¬ Mine p2 lu us i) (hw : s.writes = 0) (hsz : s.size = z) :
    Wp (kLoop (L_runglaw8_BlockPlays_0 (kc ov (d + 3)) (kd ov (d + 3)) a (.int .i64 z)) rounds [.ptr (some (p, 0)), .ptr (some (p2, 0)), .int .i64 0] h) fun v _ => v = .bool true := by
  refine wp_loop (fun m x h2 => ∃ (k : Nat) (p : Nat) (lv : AVal) (vs : List AVal) (p2 : Nat) (lu : AVal) (us : List AVal) (s r : BSt), x = [.ptr (some (p, 0)), .ptr (some (p2, 0)), .int .i64 k] ∧ k + m = l.length ∧ Ke (fun _ => True) h h2 ∧ Sto h2 p s lv vs ∧ RSto h2 p2 r lu us ∧ Same s r ∧ (∀ i, Mine p lv vs i → ¬ Mine p2 lu us i) ∧ s.writes ≤ k ∧ s.size = z) l.length (by omega)
    ⟨0, p, lv, vs, p2, lu, us, s, r, rfl, by omega, Ke.refl w, t, u, e, hap, by omega, hsz⟩ ?_
  clear hw hsz hap e u t
  rintro m _ h2 j ⟨k, p, lv, vs, p2, lu, us, s, r, rfl, hk, k2, t, u, e, hap, hw, hsz⟩ hj
  unfold L_runglaw8_BlockPlays_0
  have sa2 := sa.ro k2
  have st2 := st.ke k2
  simp -dsimp (disch := omega) only [↓pre, sp, sp2, wp_some, Int.cast_ofNat_Int, Nat.reduceAdd, Nat.reduceMul, Nat.reduceSub, Nat.reduceLeDiff, Nat.reduceEqDiff, Nat.reducePow, Int.reduceToNat, Int.reducePow, Int.reduceAdd, Int.reduceSub, Int.reduceMul, Int.reduceLT, Int.reduceLE, Int.reduceEq, Int.reduceNeg, sa2.len]
  refine wp_ite (fun c => ?_) (fun c => ?_)
  · have c' : k < l.length := by omega
    obtain ⟨bv, ec, rwt, ri, rn, rp, sb, _⟩ := st2 k l[k] (List.getElem?_eq_getElem c')
    have hxb := hlb _ (List.getElem_mem c')
    have eA : rLoadA 6 (ea a (k * 6)) h2 = some (.agg ((cs.drop (k * 6)).take 6)) := sa2.ldA (by have := sa2.clen; omega) (by omega)
    rw [ec] at eA
    generalize l[k] = x at *
    simp -dsimp (disch := omega) only [↓pre, sp, sp2, wp_some, Int.cast_ofNat_Int, Nat.reduceAdd, Nat.reduceMul, Nat.reduceSub, Nat.reduceLeDiff, Nat.reduceEqDiff, Nat.reducePow, Int.reduceToNat, Int.reducePow, Int.reduceAdd, Int.reduceSub, Int.reduceMul, Int.reduceLT, Int.reduceLE, Int.reduceEq, Int.reduceNeg, sa2.at, eA]
    refine wp_box k2.w' rfl rfl fun q h9 hq k9 n9 g9 => ?_
    refine wp_store k9.w' g9 rfl rfl (by simp) (by simp only [ic, sb.isCell]) fun h10 k10 n10 g10 => ?_
    have K10 : Kp h2 h10 := Ke.new_p k9 k10 (fun i hi => by omega)
    have g : h10.get q = some ⟨.row [.int .i64 x.what, .int .i64 x.i, .int .i64 x.n, .int .i64 x.p, .int .u8 x.x.toNat, bv] T_runglaw8_Step false, .rw, []⟩ := by simpa [splice] using g10
    have t1 := t.kp K10
    have u1 := u.kp K10
    have sb1 := sb.kp K10
    have hqs : ¬ Mine p lv vs q := fun hm => by have := t.lt k2.w' hm; omega
    have hqr : ¬ Mine p2 lu us q := fun hm => by have := u.lt k2.w' hm; omega
    simp -dsimp (disch := omega) only [↓pre, sp, sp2, wp_some, Int.cast_ofNat_Int, Nat.reduceAdd, Nat.reduceMul, Nat.reduceSub, Nat.reduceLeDiff, Nat.reduceEqDiff, Nat.reducePow, Int.reduceToNat, Int.reducePow, Int.reduceAdd, Int.reduceSub, Int.reduceMul, Int.reduceLT, Int.reduceLE, Int.reduceEq, Int.reduceNeg, row_rw g]
    refine wp_kJ (fun x' h' => h' = h10 ∧ x' = [.bool (decide (x.what = 0 ∨ x.what = 1 ∨ x.what = 2 ∨ x.what = 3))]) (fun j hj => ?_) ?_
    · by_cases c0 : x.what = 0
      · simp -dsimp (disch := omega) only [↓pre, sp, sp2, wp_some, Int.cast_ofNat_Int, Nat.reduceAdd, Nat.reduceMul, Nat.reduceSub, Nat.reduceLeDiff, Nat.reduceEqDiff, Nat.reducePow, Int.reduceToNat, Int.reducePow, Int.reduceAdd, Int.reduceSub, Int.reduceMul, Int.reduceLT, Int.reduceLE, Int.reduceEq, Int.reduceNeg, c0]; exact hj _ _ ⟨rfl, by simp [c0]⟩
      by_cases c1 : x.what = 1
      · simp -dsimp (disch := omega) only [↓pre, sp, sp2, wp_some, Int.cast_ofNat_Int, Nat.reduceAdd, Nat.reduceMul, Nat.reduceSub, Nat.reduceLeDiff, Nat.reduceEqDiff, Nat.reducePow, Int.reduceToNat, Int.reducePow, Int.reduceAdd, Int.reduceSub, Int.reduceMul, Int.reduceLT, Int.reduceLE, Int.reduceEq, Int.reduceNeg, c1, kj_eq]; exact hj _ _ ⟨rfl, by simp [c1]⟩
      by_cases c2 : x.what = 2
      · simp -dsimp (disch := omega) only [↓pre, sp, sp2, wp_some, Int.cast_ofNat_Int, Nat.reduceAdd, Nat.reduceMul, Nat.reduceSub, Nat.reduceLeDiff, Nat.reduceEqDiff, Nat.reducePow, Int.reduceToNat, Int.reducePow, Int.reduceAdd, Int.reduceSub, Int.reduceMul, Int.reduceLT, Int.reduceLE, Int.reduceEq, Int.reduceNeg, c2, kj_eq]; exact hj _ _ ⟨rfl, by simp [c2]⟩
      simp -dsimp (disch := omega) only [↓pre, sp, sp2, wp_some, Int.cast_ofNat_Int, Nat.reduceAdd, Nat.reduceMul, Nat.reduceSub, Nat.reduceLeDiff, Nat.reduceEqDiff, Nat.reducePow, Int.reduceToNat, Int.reducePow, Int.reduceAdd, Int.reduceSub, Int.reduceMul, Int.reduceLT, Int.reduceLE, Int.reduceEq, Int.reduceNeg, c0, c1, c2, kj_eq]
      exact hj _ _ ⟨rfl, by simp [c0, c1, c2]⟩
    rintro _ h11 ⟨rfl, rfl⟩
    refine wp_kJ (PR h11 k z) (fun j hj => ?_) ?_
    · refine wp_kIf (fun cw => ?_) (fun cw => ?_)
      · simp -dsimp (disch := omega) only [↓pre, sp, sp2, wp_some, Int.cast_ofNat_Int, Nat.reduceAdd, Nat.reduceMul, Nat.reduceSub, Nat.reduceLeDiff, Nat.reduceEqDiff, Nat.reducePow, Int.reduceToNat, Int.reducePow, Int.reduceAdd, Int.reduceSub, Int.reduceMul, Int.reduceLT, Int.reduceLE, Int.reduceEq, Int.reduceNeg, row_rw g]
        refine Wp.bind (drawn_spec H _ K10.w' sb1 (z := z) (by omega) (by omega)) fun v1 h3 ⟨k3, o3, f3⟩ => ?_
        have hdl := drawnM_length x.b z
        have hv1 := f3 _ (o3.bkIs (by omega))
        have g3 := k3.gt g
        have hq3 := k3.w'.lt _ _ g3
        simp -dsimp (disch := omega) only [↓pre, sp, sp2, wp_some, Int.cast_ofNat_Int, Nat.reduceAdd, Nat.reduceMul, Nat.reduceSub, Nat.reduceLeDiff, Nat.reduceEqDiff, Nat.reducePow, Int.reduceToNat, Int.reducePow, Int.reduceAdd, Int.reduceSub, Int.reduceMul, Int.reduceLT, Int.reduceLE, Int.reduceEq, Int.reduceNeg, row_rw g3]
        refine wp_kJ (fun y h4 => h4 = h3 ∧ ∃ v b md, y = [v] ∧ Bs h3 v b md ∧ b.length ≤ 20000 ∧ (md = .ro ∨ (¬ Mine p lv vs (bk v) ∧ ¬ Mine p2 lu us (bk v) ∧ bk v < h3.n))) (fun j1 hj1 => ?_) ?_
        · refine wp_kIf (fun c7 => ?_) (fun c7 => ?_)
          · simp -dsimp (disch := omega) only [↓pre, sp, sp2, wp_some, Int.cast_ofNat_Int, Nat.reduceAdd, Nat.reduceMul, Nat.reduceSub, Nat.reduceLeDiff, Nat.reduceEqDiff, Nat.reducePow, Int.reduceToNat, Int.reducePow, Int.reduceAdd, Int.reduceSub, Int.reduceMul, Int.reduceLT, Int.reduceLE, Int.reduceEq, Int.reduceNeg, row_rw g3]
            exact hj1 _ _ ⟨rfl, bv, x.b, .ro, rfl, sb1.kp k3, hxb, .inl rfl⟩
          · exact hj1 _ _ ⟨rfl, v1, _, .rw, rfl, o3.rd, by omega, .inr ⟨fun hm => by have := t1.lt K10.w' hm; omega, fun hm => by have := u1.lt K10.w' hm; omega, o3.bk_lt k3.w' (o3.bkIs (by omega))⟩⟩
        rintro _ h3 ⟨rfl, v, b, md, rfl, sv, hvb, hmd⟩
        simp -dsimp (disch := omega) only [↓pre, sp, sp2, wp_some, Int.cast_ofNat_Int, Nat.reduceAdd, Nat.reduceMul, Nat.reduceSub, Nat.reduceLeDiff, Nat.reduceEqDiff, Nat.reducePow, Int.reduceToNat, Int.reducePow, Int.reduceAdd, Int.reduceSub, Int.reduceMul, Int.reduceLT, Int.reduceLE, Int.reduceEq, Int.reduceNeg]
        refine Wp.bind (copy_spec H _ k3.w' sv (by omega)) fun v2 h4 ⟨k4, o4, f4⟩ => ?_
        obtain ⟨md2, s4, hm4⟩ := o4.roOr
        have t4 := (t1.kp k3).kp k4
        have u4 := (u1.kp k3).kp k4
        have g4 := k4.gt g3
        have hn3 := k3.n
        have hn4 := k4.n
        have hp2 : ∀ i, Mine p lv vs i → ¬ isBk v2 i := fun i hi h2 => by have := t1.lt K10.w' hi; have := f4 i h2; omega
        have hr2 : ∀ i, Mine p2 lu us i → ¬ isBk v2 i := fun i hi h2 => by have := u1.lt K10.w' hi; have := f4 i h2; omega
        simp -dsimp (disch := omega) only [↓pre, sp, sp2, wp_some, Int.cast_ofNat_Int, Nat.reduceAdd, Nat.reduceMul, Nat.reduceSub, Nat.reduceLeDiff, Nat.reduceEqDiff, Nat.reducePow, Int.reduceToNat, Int.reducePow, Int.reduceAdd, Int.reduceSub, Int.reduceMul, Int.reduceLT, Int.reduceLE, Int.reduceEq, Int.reduceNeg, row_rw g4]
        refine Wp.bind (write_store_spec H _ k4.w' t4 x.i s4 (hm4.imp id fun x y => hp2 _ y x) (by omega)) fun v5 h5 ⟨e5, t5, k5⟩ => ?_
        subst e5
        simp -dsimp (disch := omega) only [↓pre, sp, sp2, wp_some, Int.cast_ofNat_Int, Nat.reduceAdd, Nat.reduceMul, Nat.reduceSub, Nat.reduceLeDiff, Nat.reduceEqDiff, Nat.reducePow, Int.reduceToNat, Int.reducePow, Int.reduceAdd, Int.reduceSub, Int.reduceMul, Int.reduceLT, Int.reduceLE, Int.reduceEq, Int.reduceNeg]
        refine Wp.bind (spoilh_spec H _ k5.w' (o4.ke k5 fun i hi hm => hp2 i hm hi) (by omega)) fun v6 h6 ⟨e6, k6⟩ => ?_
        have t6 := t5.ke k6 hp2
        have u6 := (u4.ke k5 fun i hi hm => hap i hm hi).ke k6 hr2
        have g6 := k6.gt (k5.gt g4 hqs) (fun hb => by have := f4 q hb; omega)
        have sv6 := ((sv.kp k4).ke k5 (hmd.imp id fun x => x.1)).ke k6 (hmd.imp id fun x y => by have := f4 _ y; omega)
        simp -dsimp (disch := omega) only [↓pre, sp, sp2, wp_some, Int.cast_ofNat_Int, Nat.reduceAdd, Nat.reduceMul, Nat.reduceSub, Nat.reduceLeDiff, Nat.reduceEqDiff, Nat.reducePow, Int.reduceToNat, Int.reducePow, Int.reduceAdd, Int.reduceSub, Int.reduceMul, Int.reduceLT, Int.reduceLE, Int.reduceEq, Int.reduceNeg, row_rw g6]
        refine Wp.bind (rwrite_spec H _ k6.w' u6 x.i sv6 (hmd.imp id fun x => x.2.1) (by rw [← e.writes]; omega)) fun v7 h7 ⟨e7, k7, us', u7, f7⟩ => ?_
        subst e7
        obtain ⟨we, wS⟩ := e.write t.lf.1 x.i b
        simp -dsimp (disch := omega) only [↓pre, sp, sp2, wp_some, Int.cast_ofNat_Int, Nat.reduceAdd, Nat.reduceMul, Nat.reduceSub, Nat.reduceLeDiff, Nat.reduceEqDiff, Nat.reducePow, Int.reduceToNat, Int.reducePow, Int.reduceAdd, Int.reduceSub, Int.reduceMul, Int.reduceLT, Int.reduceLE, Int.reduceEq, Int.reduceNeg, we]
        have kT : Ke (fun _ => True) h11 h7 := ((Kp.ke k3).trans (Kp.ke k4)).trans ((k5.mono fun _ _ => trivial).trans ((k6.mono fun _ _ => trivial).trans (k7.mono fun _ _ => trivial)))
        refine hj _ _ ⟨p, lv, vs, p2, lu, us', _, _, rfl, kT, t6.ke k7 fun i hi hm => hap i hi hm.mine, u7, wS, fun i hi hm => ?_, Nat.le_trans (writeM_writes _ _ _) (by omega), by rw [writeM_size]; exact hsz⟩
        rcases f7 i hm with f | f
        · exact hap i hi f
        · have := t6.lt k6.w' hi; omega
      simp -dsimp (disch := omega) only [↓pre, sp, sp2, wp_some, Int.cast_ofNat_Int, Nat.reduceAdd, Nat.reduceMul, Nat.reduceSub, Nat.reduceLeDiff, Nat.reduceEqDiff, Nat.reducePow, Int.reduceToNat, Int.reducePow, Int.reduceAdd, Int.reduceSub, Int.reduceMul, Int.reduceLT, Int.reduceLE, Int.reduceEq, Int.reduceNeg, row_rw g]
      refine wp_kJ (PR h11 k z) (fun j5 hj5 => ?_) (by
        rintro _ h3 ⟨p, lv, vs, p2, lu, us, s, r, rfl, hh⟩
        simp -dsimp (disch := omega) only [↓pre, sp, sp2, wp_some, Int.cast_ofNat_Int, Nat.reduceAdd, Nat.reduceMul, Nat.reduceSub, Nat.reduceLeDiff, Nat.reduceEqDiff, Nat.reducePow, Int.reduceToNat, Int.reducePow, Int.reduceAdd, Int.reduceSub, Int.reduceMul, Int.reduceLT, Int.reduceLE, Int.reduceEq, Int.reduceNeg]
        exact hj _ _ ⟨p, lv, vs, p2, lu, us, s, r, rfl, hh⟩)
      clear hj
      refine wp_kIf (fun c5 => ?_) (fun c5 => ?_)
      · simp -dsimp (disch := omega) only [↓pre, sp, sp2, wp_some, Int.cast_ofNat_Int, Nat.reduceAdd, Nat.reduceMul, Nat.reduceSub, Nat.reduceLeDiff, Nat.reduceEqDiff, Nat.reducePow, Int.reduceToNat, Int.reducePow, Int.reduceAdd, Int.reduceSub, Int.reduceMul, Int.reduceLT, Int.reduceLE, Int.reduceEq, Int.reduceNeg, row_rw g]
        refine Wp.bind (cut_spec H _ K10.w' t1 x.n x.p rn.2 rp) fun v1 h3 ⟨e1, t3, k3⟩ => ?_
        subst e1
        have u3 := u1.ke k3 fun i hi hm => hap i hm hi
        simp -dsimp (disch := omega) only [↓pre, sp, sp2, wp_some, Int.cast_ofNat_Int, Nat.reduceAdd, Nat.reduceMul, Nat.reduceSub, Nat.reduceLeDiff, Nat.reduceEqDiff, Nat.reducePow, Int.reduceToNat, Int.reducePow, Int.reduceAdd, Int.reduceSub, Int.reduceMul, Int.reduceLT, Int.reduceLE, Int.reduceEq, Int.reduceNeg, row_rw (k3.gt g hqs)]
        refine Wp.bind (rcut_spec H _ k3.w' u3 x.n x.p rn.2 rp) fun v2 h4 ⟨e2, k4, u4⟩ => ?_
        exact hj5 _ _ ⟨p, lv, vs, p2, lu, us, _, _, rfl, (k3.mono fun _ _ => trivial).trans (k4.mono fun _ _ => trivial), t3.ke k4 fun i hi hm => hap i hi hm.mine, u4, e.cut _ _, hap, by show s.writes ≤ k + 1; omega, hsz⟩
      simp -dsimp (disch := omega) only [↓pre, sp, sp2, wp_some, Int.cast_ofNat_Int, Nat.reduceAdd, Nat.reduceMul, Nat.reduceSub, Nat.reduceLeDiff, Nat.reduceEqDiff, Nat.reducePow, Int.reduceToNat, Int.reducePow, Int.reduceAdd, Int.reduceSub, Int.reduceMul, Int.reduceLT, Int.reduceLE, Int.reduceEq, Int.reduceNeg, row_rw g]
      refine wp_kJ (PR h11 k z) (fun j6 hj6 => ?_) (by
        rintro _ h3 ⟨p, lv, vs, p2, lu, us, s, r, rfl, hh⟩
        simp -dsimp (disch := omega) only [↓pre, sp, sp2, wp_some, Int.cast_ofNat_Int, Nat.reduceAdd, Nat.reduceMul, Nat.reduceSub, Nat.reduceLeDiff, Nat.reduceEqDiff, Nat.reducePow, Int.reduceToNat, Int.reducePow, Int.reduceAdd, Int.reduceSub, Int.reduceMul, Int.reduceLT, Int.reduceLE, Int.reduceEq, Int.reduceNeg]
        exact hj5 _ _ ⟨p, lv, vs, p2, lu, us, s, r, rfl, hh⟩)
      clear hj5
      refine wp_kIf (fun c6 => ?_) (fun c6 => ?_)
      · simp -dsimp (disch := omega) only [↓pre, sp, sp2, wp_some, Int.cast_ofNat_Int, Nat.reduceAdd, Nat.reduceMul, Nat.reduceSub, Nat.reduceLeDiff, Nat.reduceEqDiff, Nat.reducePow, Int.reduceToNat, Int.reducePow, Int.reduceAdd, Int.reduceSub, Int.reduceMul, Int.reduceLT, Int.reduceLE, Int.reduceEq, Int.reduceNeg, row_rw g]
        refine Wp.bind (power_spec H _ K10.w' t1) fun v1 h3 ⟨e1, t3, k3⟩ => ?_
        subst e1
        have u3 := u1.ke k3 fun i hi hm => hap i hm hi
        simp -dsimp (disch := omega) only [↓pre, sp, sp2, wp_some, Int.cast_ofNat_Int, Nat.reduceAdd, Nat.reduceMul, Nat.reduceSub, Nat.reduceLeDiff, Nat.reduceEqDiff, Nat.reducePow, Int.reduceToNat, Int.reducePow, Int.reduceAdd, Int.reduceSub, Int.reduceMul, Int.reduceLT, Int.reduceLE, Int.reduceEq, Int.reduceNeg, row_rw (k3.gt g hqs)]
        refine Wp.bind (rpower_spec H _ k3.w' u3) fun v2 h4 ⟨e2, k4, u4⟩ => ?_
        exact hj6 _ _ ⟨p, lv, vs, p2, lu, us, _, _, rfl, (k3.mono fun _ _ => trivial).trans (k4.mono fun _ _ => trivial), t3.ke k4 fun i hi hm => hap i hi hm.mine, u4, e.power, hap, by show s.writes ≤ k + 1; omega, hsz⟩
      simp -dsimp (disch := omega) only [↓pre, sp, sp2, wp_some, Int.cast_ofNat_Int, Nat.reduceAdd, Nat.reduceMul, Nat.reduceSub, Nat.reduceLeDiff, Nat.reduceEqDiff, Nat.reducePow, Int.reduceToNat, Int.reducePow, Int.reduceAdd, Int.reduceSub, Int.reduceMul, Int.reduceLT, Int.reduceLE, Int.reduceEq, Int.reduceNeg, row_rw g]
      refine wp_kJ (PR h11 k z) (fun j7 hj7 => ?_) (by
        rintro _ h3 ⟨p, lv, vs, p2, lu, us, s, r, rfl, hh⟩
        simp -dsimp (disch := omega) only [↓pre, sp, sp2, wp_some, Int.cast_ofNat_Int, Nat.reduceAdd, Nat.reduceMul, Nat.reduceSub, Nat.reduceLeDiff, Nat.reduceEqDiff, Nat.reducePow, Int.reduceToNat, Int.reducePow, Int.reduceAdd, Int.reduceSub, Int.reduceMul, Int.reduceLT, Int.reduceLE, Int.reduceEq, Int.reduceNeg]
        exact hj6 _ _ ⟨p, lv, vs, p2, lu, us, s, r, rfl, hh⟩)
      clear hj6
      refine wp_kIf (fun c7 => ?_) (fun c7 => ?_)
      · simp -dsimp (disch := omega) only [↓pre, sp, sp2, wp_some, Int.cast_ofNat_Int, Nat.reduceAdd, Nat.reduceMul, Nat.reduceSub, Nat.reduceLeDiff, Nat.reduceEqDiff, Nat.reducePow, Int.reduceToNat, Int.reducePow, Int.reduceAdd, Int.reduceSub, Int.reduceMul, Int.reduceLT, Int.reduceLE, Int.reduceEq, Int.reduceNeg, row_rw g]
        have hsp := spoil_spec H (d + 1) K10.w' t1 x.i x.p x.x
        refine Wp.bind hsp fun v1 h3 ⟨e1, t3, k3⟩ => ?_
        subst e1
        have u3 := u1.ke k3 fun i hi hm => hap i hm hi
        simp -dsimp (disch := omega) only [↓pre, sp, sp2, wp_some, Int.cast_ofNat_Int, Nat.reduceAdd, Nat.reduceMul, Nat.reduceSub, Nat.reduceLeDiff, Nat.reduceEqDiff, Nat.reducePow, Int.reduceToNat, Int.reducePow, Int.reduceAdd, Int.reduceSub, Int.reduceMul, Int.reduceLT, Int.reduceLE, Int.reduceEq, Int.reduceNeg, row_rw (k3.gt g hqs)]
        refine Wp.bind (rspoil_spec H _ k3.w' u3 x.i x.p x.x) fun v2 h4 ⟨e2, k4, us', u4, f4⟩ => ?_
        refine hj7 _ _ ⟨p, lv, vs, p2, lu, us', _, _, rfl, (k3.mono fun _ _ => trivial).trans (k4.mono fun _ _ => trivial), t3.ke k4 fun i hi hm => hap i hi hm.mine, u4, e.spoil _ _ _, fun i hi hm => ?_, by rw [spoilM_writes]; omega, ?_⟩
        · rcases f4 i hm with f | f
          · exact hap i hi f
          · have := t3.lt k3.w' hi; omega
        · rw [← hsz]; unfold spoilM; split <;> rfl
      simp -dsimp (disch := omega) only [↓pre, sp, sp2, wp_some, Int.cast_ofNat_Int, Nat.reduceAdd, Nat.reduceMul, Nat.reduceSub, Nat.reduceLeDiff, Nat.reduceEqDiff, Nat.reducePow, Int.reduceToNat, Int.reducePow, Int.reduceAdd, Int.reduceSub, Int.reduceMul, Int.reduceLT, Int.reduceLE, Int.reduceEq, Int.reduceNeg, row_rw g]
      refine wp_kJ (PR h11 k z) (fun j8 hj8 => ?_) (by
        rintro _ h3 ⟨p, lv, vs, p2, lu, us, s, r, rfl, hh⟩
        simp -dsimp (disch := omega) only [↓pre, sp, sp2, wp_some, Int.cast_ofNat_Int, Nat.reduceAdd, Nat.reduceMul, Nat.reduceSub, Nat.reduceLeDiff, Nat.reduceEqDiff, Nat.reducePow, Int.reduceToNat, Int.reducePow, Int.reduceAdd, Int.reduceSub, Int.reduceMul, Int.reduceLT, Int.reduceLE, Int.reduceEq, Int.reduceNeg]
        exact hj7 _ _ ⟨p, lv, vs, p2, lu, us, s, r, rfl, hh⟩)
      clear hj7
      refine wp_kIf (fun c8 => ?_) (fun c8 => ?_)
      · simp -dsimp (disch := omega) only [↓pre, sp, sp2, wp_some, Int.cast_ofNat_Int, Nat.reduceAdd, Nat.reduceMul, Nat.reduceSub, Nat.reduceLeDiff, Nat.reduceEqDiff, Nat.reducePow, Int.reduceToNat, Int.reducePow, Int.reduceAdd, Int.reduceSub, Int.reduceMul, Int.reduceLT, Int.reduceLE, Int.reduceEq, Int.reduceNeg, row_rw g]
        refine Wp.bind (copy_store_spec H _ K10.w' t1) fun v1 h3 ⟨k3, p5, lv5, vs5, e1, t5, f5⟩ => ?_
        subst e1
        simp -dsimp (disch := omega) only [↓pre, sp, sp2, wp_some, Int.cast_ofNat_Int, Nat.reduceAdd, Nat.reduceMul, Nat.reduceSub, Nat.reduceLeDiff, Nat.reduceEqDiff, Nat.reducePow, Int.reduceToNat, Int.reducePow, Int.reduceAdd, Int.reduceSub, Int.reduceMul, Int.reduceLT, Int.reduceLE, Int.reduceEq, Int.reduceNeg]
        refine wp_buildSl (cs := [.int .u8 1, .int .u8 2, .int .u8 3]) k3.w' ⟨by decide, rfl, by decide⟩ rfl rfl fun r2 h4 hr k4 n4 g4 => ?_
        simp -dsimp (disch := omega) only [↓pre, sp, sp2, wp_some, Int.cast_ofNat_Int, Nat.reduceAdd, Nat.reduceMul, Nat.reduceSub, Nat.reduceLeDiff, Nat.reduceEqDiff, Nat.reducePow, Int.reduceToNat, Int.reducePow, Int.reduceAdd, Int.reduceSub, Int.reduceMul, Int.reduceLT, Int.reduceLE, Int.reduceEq, Int.reduceNeg]
        have s4 : Bs h4 (.slice (some (r2, 0, 1)) 3 3) [1, 2, 3] .rw := (Ow.new g4 (by omega) 3 rfl rfl).rd
        refine Wp.bind (drawn_spec H _ k4.w' s4 (z := z) (by omega) (by simp)) fun v5 h5 ⟨k5, o5, f5'⟩ => ?_
        have hdl := drawnM_length [1, 2, 3] z
        have hv5 := f5' _ (o5.bkIs (by omega))
        have hn3 := k3.n
        have hn4 := k4.n
        simp -dsimp (disch := omega) only [↓pre, sp, sp2, wp_some, Int.cast_ofNat_Int, Nat.reduceAdd, Nat.reduceMul, Nat.reduceSub, Nat.reduceLeDiff, Nat.reduceEqDiff, Nat.reducePow, Int.reduceToNat, Int.reducePow, Int.reduceAdd, Int.reduceSub, Int.reduceMul, Int.reduceLT, Int.reduceLE, Int.reduceEq, Int.reduceNeg]
        refine Wp.bind (write_store_spec H _ k5.w' (((t1.kp k3).kp k4).kp k5) 0 o5.rd (.inr fun hm => by have := t1.lt K10.w' hm; omega) (by omega)) fun v6 h6 ⟨e6, _, k6⟩ => ?_
        have t6 := ((t5.kp k4).kp k5).ke k6 fun i hi hm => by have := t1.lt K10.w' hm; have := f5 i hi; omega
        have u6 := (((u1.kp k3).kp k4).kp k5).ke k6 fun i hi hm => hap i hm hi
        simp -dsimp (disch := omega) only [↓pre, sp, sp2, wp_some, Int.cast_ofNat_Int, Nat.reduceAdd, Nat.reduceMul, Nat.reduceSub, Nat.reduceLeDiff, Nat.reduceEqDiff, Nat.reducePow, Int.reduceToNat, Int.reducePow, Int.reduceAdd, Int.reduceSub, Int.reduceMul, Int.reduceLT, Int.reduceLE, Int.reduceEq, Int.reduceNeg]
        refine Wp.bind (rcopy_spec H _ k6.w' u6) fun v7 h7 ⟨k7, q7, lu7, e7, u7, f7⟩ => ?_
        subst e7
        simp -dsimp (disch := omega) only [↓pre, sp, sp2, wp_some, Int.cast_ofNat_Int, Nat.reduceAdd, Nat.reduceMul, Nat.reduceSub, Nat.reduceLeDiff, Nat.reduceEqDiff, Nat.reducePow, Int.reduceToNat, Int.reducePow, Int.reduceAdd, Int.reduceSub, Int.reduceMul, Int.reduceLT, Int.reduceLE, Int.reduceEq, Int.reduceNeg]
        have kT : Ke (fun _ => True) h11 h7 := ((Kp.ke k3).trans ((Kp.ke k4).trans (Kp.ke k5))).trans ((k6.mono fun _ _ => trivial).trans (Kp.ke k7))
        refine hj8 _ _ ⟨p5, lv5, vs5, q7, lu7, us, s, r, rfl, kT, t6.kp k7, u7, e, fun i hi hm => ?_, by omega, hsz⟩
        rcases f7 i hm with f | f
        · have := u1.lt K10.w' f; have := f5 i hi; omega
        · have := t6.lt k6.w' hi; omega
      · exact hj8 _ _ ⟨p, lv, vs, p2, lu, us, s, r, rfl, Ke.refl K10.w', t1, u1, e, hap, by omega, hsz⟩
    rintro _ h3 ⟨p, lv, vs, p2, lu, us, s, r, rfl, k3, t3, u3, e3, hap3, hw3, hsz3⟩
    simp -dsimp (disch := omega) only [↓pre, sp, sp2, wp_some, Int.cast_ofNat_Int, Nat.reduceAdd, Nat.reduceMul, Nat.reduceSub, Nat.reduceLeDiff, Nat.reduceEqDiff, Nat.reducePow, Int.reduceToNat, Int.reducePow, Int.reduceAdd, Int.reduceSub, Int.reduceMul, Int.reduceLT, Int.reduceLE, Int.reduceEq, Int.reduceNeg]
    refine wp_kTh (fun v h9 => v = .bool false ∧ Kp h3 h9) (fun j1 hj1 => ?_) ?_
    · by_cases c3 : (k : Int).tmod 4 = 3
      · simp -dsimp (disch := omega) only [↓pre, sp, sp2, wp_some, Int.cast_ofNat_Int, Nat.reduceAdd, Nat.reduceMul, Nat.reduceSub, Nat.reduceLeDiff, Nat.reduceEqDiff, Nat.reducePow, Int.reduceToNat, Int.reducePow, Int.reduceAdd, Int.reduceSub, Int.reduceMul, Int.reduceLT, Int.reduceLE, Int.reduceEq, Int.reduceNeg, c3]
        refine Wp.bind (alike_spec H d k3.w' t3 u3 e3 hap3) fun v h4 ⟨e4, k4⟩ => ?_
        subst e4
        simp -dsimp (disch := omega) only [↓pre, sp, sp2, wp_some, Int.cast_ofNat_Int, Nat.reduceAdd, Nat.reduceMul, Nat.reduceSub, Nat.reduceLeDiff, Nat.reduceEqDiff, Nat.reducePow, Int.reduceToNat, Int.reducePow, Int.reduceAdd, Int.reduceSub, Int.reduceMul, Int.reduceLT, Int.reduceLE, Int.reduceEq, Int.reduceNeg, c3]
        exact hj1 _ _ ⟨rfl, k4⟩
      · simp -dsimp (disch := omega) only [↓pre, sp, sp2, wp_some, Int.cast_ofNat_Int, Nat.reduceAdd, Nat.reduceMul, Nat.reduceSub, Nat.reduceLeDiff, Nat.reduceEqDiff, Nat.reducePow, Int.reduceToNat, Int.reducePow, Int.reduceAdd, Int.reduceSub, Int.reduceMul, Int.reduceLT, Int.reduceLE, Int.reduceEq, Int.reduceNeg, c3]
        exact hj1 _ _ ⟨rfl, Ke.refl k3.w'⟩
    rintro _ h4 ⟨rfl, k4⟩
    have ew : IntKind.wrap .i64 ((k : Int) + 1) = ((k + 1 : Nat) : Int) := by rw [wr_i64 (by omega) (by omega)]; omega
    simp -dsimp (disch := omega) only [↓pre, sp, sp2, wp_some, Int.cast_ofNat_Int, Nat.reduceAdd, Nat.reduceMul, Nat.reduceSub, Nat.reduceLeDiff, Nat.reduceEqDiff, Nat.reducePow, Int.reduceToNat, Int.reducePow, Int.reduceAdd, Int.reduceSub, Int.reduceMul, Int.reduceLT, Int.reduceLE, Int.reduceEq, Int.reduceNeg, ew]
    exact hj (m - 1) _ _ (by omega) ⟨k + 1, p, lv, vs, p2, lu, us, s, r, rfl, by omega, k2.trans ((Kp.ke K10).trans (k3.trans (Kp.ke k4))), t3.kp k4, u3.kp k4, e3, hap3, hw3, hsz3⟩
  · refine Wp.bind (alike_spec H d k2.w' t u e hap) fun v h3 ⟨e3, _⟩ => ?_
    subst e3
    simp -dsimp (disch := omega) only [↓pre, sp, sp2, wp_some, Int.cast_ofNat_Int, Nat.reduceAdd, Nat.reduceMul, Nat.reduceSub, Nat.reduceLeDiff, Nat.reduceEqDiff, Nat.reducePow, Int.reduceToNat, Int.reducePow, Int.reduceAdd, Int.reduceSub, Int.reduceMul, Int.reduceLT, Int.reduceLE, Int.reduceEq, Int.reduceNeg]
theorem blockPlays (H : Ov8 ov) (d : Nat) (w : Wf h) {bl sz : Int} {cs : List AVal} {l : List Stp} (sa : Sz h a 6 l.length cs .ro) (st : StA h cs l) (hl : l.length ≤ 2 ^ 48) :
    Wp (kc ov (d + 4) N_runglaw8_BlockPlays [.int .i64 bl, .int .i64 sz, a] h) fun r _ => r = .bool true := by
  rw [C_runglaw8_BlockPlays H.p]; unfold F_runglaw8_BlockPlays
  obtain ⟨r, er, hr⟩ := light8_spec H.p (d + 2) w sa st hl
  simp -dsimp (disch := omega) only [↓pre, sp, sp2, wp_some, Int.cast_ofNat_Int, Nat.reduceAdd, Nat.reduceMul, Nat.reduceSub, Nat.reduceLeDiff, Nat.reduceEqDiff, Nat.reducePow, Int.reduceToNat, Int.reducePow, Int.reduceAdd, Int.reduceSub, Int.reduceMul, Int.reduceLT, Int.reduceLE, Int.reduceEq, Int.reduceNeg, known_spec H, er]
  cases r
  · simp -dsimp (disch := omega) only [↓pre, sp, sp2, wp_some, Int.cast_ofNat_Int, Nat.reduceAdd, Nat.reduceMul, Nat.reduceSub, Nat.reduceLeDiff, Nat.reduceEqDiff, Nat.reducePow, Int.reduceToNat, Int.reducePow, Int.reduceAdd, Int.reduceSub, Int.reduceMul, Int.reduceLT, Int.reduceLE, Int.reduceEq, Int.reduceNeg]
  obtain ⟨hl1, hl2⟩ := hr rfl
  simp -dsimp (disch := omega) only [↓pre, sp, sp2, wp_some, Int.cast_ofNat_Int, Nat.reduceAdd, Nat.reduceMul, Nat.reduceSub, Nat.reduceLeDiff, Nat.reduceEqDiff, Nat.reducePow, Int.reduceToNat, Int.reducePow, Int.reduceAdd, Int.reduceSub, Int.reduceMul, Int.reduceLT, Int.reduceLE, Int.reduceEq, Int.reduceNeg]
  refine wp_kJ (fun y h' => h' = h ∧ ∃ s2 : Int, y = [.int .i64 s2]) (fun j hj => ?_) ?_
  · refine wp_kIf (fun c => ?_) (fun c => ?_)
    · simp -dsimp (disch := omega) only [↓pre, sp, sp2, wp_some, Int.cast_ofNat_Int, Nat.reduceAdd, Nat.reduceMul, Nat.reduceSub, Nat.reduceLeDiff, Nat.reduceEqDiff, Nat.reducePow, Int.reduceToNat, Int.reducePow, Int.reduceAdd, Int.reduceSub, Int.reduceMul, Int.reduceLT, Int.reduceLE, Int.reduceEq, Int.reduceNeg]
      exact hj _ _ ⟨rfl, _, rfl⟩
    · exact hj _ _ ⟨rfl, _, rfl⟩
  rintro _ h0 ⟨rfl, s2, rfl⟩
  simp -dsimp (disch := omega) only [↓pre, sp, sp2, wp_some, Int.cast_ofNat_Int, Nat.reduceAdd, Nat.reduceMul, Nat.reduceSub, Nat.reduceLeDiff, Nat.reduceEqDiff, Nat.reducePow, Int.reduceToNat, Int.reducePow, Int.reduceAdd, Int.reduceSub, Int.reduceMul, Int.reduceLT, Int.reduceLE, Int.reduceEq, Int.reduceNeg]
  refine Wp.bind (new_spec H.p _ w bl s2) fun v6 h1 ⟨k1, p, lv, vs, e1, t1, f1⟩ => ?_
  subst e1
  simp -dsimp (disch := omega) only [↓pre, sp, sp2, wp_some, Int.cast_ofNat_Int, Nat.reduceAdd, Nat.reduceMul, Nat.reduceSub, Nat.reduceLeDiff, Nat.reduceEqDiff, Nat.reducePow, Int.reduceToNat, Int.reducePow, Int.reduceAdd, Int.reduceSub, Int.reduceMul, Int.reduceLT, Int.reduceLE, Int.reduceEq, Int.reduceNeg]
  refine Wp.bind (rnew_spec H.p _ k1.w' bl s2) fun v7 h2 ⟨k2, p2, lu, us, e2, u2, f2⟩ => ?_
  subst e2
  have t2 := t1.kp k2
  have kk := k1.trans k2
  have hsz := t2.sz
  have hb1 : 0 < (newM bl s2).bl.length := by simp [newM]; omega
  obtain ⟨v0, er0, s0⟩ := rread_spec H.p (d + 2) u2 0
  have hr0 : (readM (newM bl s2) 0).2 = 0 := by
    have : isM (newM bl s2) 0 = 0 := by
      unfold isM
      rw [if_neg (by simp [newM]), if_neg (by omega)]
    unfold readM
    rw [if_pos this]
  rw [hr0] at er0
  obtain ⟨x, ex1, ex2, ex3, xo⟩ := u2.at (i := 0) hb1
  have hun := u2.n
  have hlx := (Ow.rd xo).len
  simp -dsimp (disch := omega) only [↓pre, sp, sp2, wp_some, Int.cast_ofNat_Int, Nat.reduceAdd, Nat.reduceMul, Nat.reduceSub, Nat.reduceLeDiff, Nat.reduceEqDiff, Nat.reducePow, Int.reduceToNat, Int.reducePow, Int.reduceAdd, Int.reduceSub, Int.reduceMul, Int.reduceLT, Int.reduceLE, Int.reduceEq, Int.reduceNeg, size_spec H.p _ t2, er0]
  refine wp_kT (.bool false) (fun j hj => ?_) ?_
  · simp -dsimp (disch := omega) only [↓pre, sp, sp2, wp_some, Int.cast_ofNat_Int, Nat.reduceAdd, Nat.reduceMul, Nat.reduceSub, Nat.reduceLeDiff, Nat.reduceEqDiff, Nat.reducePow, Int.reduceToNat, Int.reducePow, Int.reduceAdd, Int.reduceSub, Int.reduceMul, Int.reduceLT, Int.reduceLE, Int.reduceEq, Int.reduceNeg, row_rw u2.box, (Ow.rd u2.l).at, ex2, hlx]
    exact hj
  simp -dsimp (disch := omega) only [↓pre, sp, sp2, wp_some, Int.cast_ofNat_Int, Nat.reduceAdd, Nat.reduceMul, Nat.reduceSub, Nat.reduceLeDiff, Nat.reduceEqDiff, Nat.reducePow, Int.reduceToNat, Int.reducePow, Int.reduceAdd, Int.reduceSub, Int.reduceMul, Int.reduceLT, Int.reduceLE, Int.reduceEq, Int.reduceNeg]
  have hap : ∀ i, Mine p lv vs i → ¬ Mine p2 lu us i := fun i hi hm => by have := t1.lt k1.w' hi; have := f2 i hm; omega
  exact plays_loop H.p d hsz kk.w' (sa.kp kk) (st.ke kk) hl1 hl2 t2 u2 ⟨rfl, rfl, rfl, rfl, fun _ => rfl, fun _ _ => rfl⟩ hap rfl rfl
end Go.Proofs.Ytbicodikokfokaa.AI
