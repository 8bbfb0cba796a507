/- LinePlays: what its text comes to. -/
import Derived.Test.YtpbkgmcpelhlpaaLaw7
namespace Go.Proofs.Ytpbkgmcpelhlpaa.AI
open Go
set_option linter.unusedSimpArgs false
set_option linter.unusedVariables false
variable {ov : AOver} {h : AH} {v a b : AVal} {md md' : AMode} {p : Nat}

/-- A step of a script. -/
structure St7 where
  what : Int
  n : Int
  b : List UInt8
/-- The script's cells. -/
def StA (h : AH) (cs : List AVal) (l : List St7) : Prop := cs.length = l.length * 3 ∧ ∀ (i : Nat) x, l[i]? = some x → ∃ bv, cs[i * 3]? = some (.int .i64 x.what) ∧ cs[i * 3 + 1]? = some (.int .i64 x.n) ∧ cs[i * 3 + 2]? = some bv ∧ (-9223372036854775808 ≤ x.n ∧ x.n < 9223372036854775808) ∧ Bs h bv x.b .ro ∧ x.b.length ≤ 2 ^ 48
theorem StA.ke {S : Nat → Prop} {h' : AH} {cs : List AVal} {l : List St7} (t : StA h cs l) (k : Ke S h h') : StA h' cs l := ⟨t.1, fun i x hx => by
  obtain ⟨bv, e1, e2, e3, hn, sb, hb⟩ := t.2 i x hx
  exact ⟨bv, e1, e2, e3, hn, sb.ro k, hb⟩⟩
/-- Frames that wait, as the statement keeps them. -/
def WA (h : AH) (R : AVal → Prop) (cs : List AVal) (ws : List (UInt8 × List UInt8)) : Prop := cs.length = ws.length * 2 ∧ ∀ (i : Nat) f, ws[i]? = some f → ∃ u, cs[i * 2]? = some (.int .u8 f.1.toNat) ∧ cs[i * 2 + 1]? = some u ∧ Bs h u f.2 .rw ∧ 0 < f.2.length ∧ R u
theorem WA.mono {h' : AH} {R R' : AVal → Prop} {cs : List AVal} {ws : List (UInt8 × List UInt8)} (a : WA h R cs ws) (m : ∀ u (f : UInt8 × List UInt8), Bs h u f.2 .rw → 0 < f.2.length → R u → Bs h' u f.2 .rw ∧ R' u) : WA h' R' cs ws := ⟨a.1, fun i f hf => by
  obtain ⟨u, e1, e2, b, hl, r⟩ := a.2 i f hf
  obtain ⟨b', r'⟩ := m u f b hl r
  exact ⟨u, e1, e2, b', hl, r'⟩⟩
theorem WA.add {R : AVal → Prop} {cs : List AVal} {ws : List (UInt8 × List UInt8)} {f : UInt8 × List UInt8} {u : AVal} (a : WA h R cs ws) (b : Bs h u f.2 .rw) (hl : 0 < f.2.length) (r : R u) : WA h R (cs ++ [.int .u8 f.1.toNat, u]) (ws ++ [f]) := by
  have hcl := a.1
  refine ⟨by simp [hcl]; omega, fun i g hg => ?_⟩
  by_cases hi : i < ws.length
  · rw [List.getElem?_append_left hi] at hg
    obtain ⟨u', e1, e2, b', hl', r'⟩ := a.2 i g hg
    exact ⟨u', by rw [List.getElem?_append_left (by omega)]; exact e1, by rw [List.getElem?_append_left (by omega)]; exact e2, b', hl', r'⟩
  · have hi' : i = ws.length := by
      have := lt_of_at7 hg
      simp at this; omega
    subst hi'
    simp only [List.getElem?_append_right (Nat.le_refl _), Nat.sub_self, List.getElem?_cons_zero, Option.some.injEq] at hg
    subst hg
    refine ⟨u, ?_, ?_, b, hl, r⟩
    · rw [← hcl, List.getElem?_append_right (Nat.le_refl _), Nat.sub_self]; rfl
    · rw [← hcl, List.getElem?_append_right (by omega), show cs.length + 1 - cs.length = 1 by omega]; rfl
where
  lt_of_at7 {α : Type} {cs : List α} {off : Nat} {x : α} (hx : cs[off]? = some x) : off < cs.length := by
    rcases Nat.lt_or_ge off cs.length with h | h
    · exact h
    · rw [List.getElem?_eq_none h] at hx; cases hx
theorem WA.tail {R : AVal → Prop} {cs : List AVal} {f : UInt8 × List UInt8} {ws : List (UInt8 × List UInt8)} (a : WA h R cs (f :: ws)) : WA h R (cs.drop 2) ws := by
  have := a.1
  refine ⟨by rw [List.length_drop, this, List.length_cons]; omega, fun i g hg => ?_⟩
  obtain ⟨u, e1, e2, r⟩ := a.2 (i + 1) g (by simpa using hg)
  exact ⟨u, by rw [List.getElem?_drop, show 2 + i * 2 = (i + 1) * 2 by omega]; exact e1, by rw [List.getElem?_drop, show 2 + (i * 2 + 1) = (i + 1) * 2 + 1 by omega]; exact e2, r⟩

/-- The line, and what the statement keeps beside it. -/
structure LPC (h0 h : AH) (p : Nat) (x : UInt8) (S : Int) (hv wv : AVal) (q i : Nat) (N : Nat → Prop) (s : LS) (wcs : List AVal) : Prop where
  w : Wf h
  k : Ke (fun _ => True) h0 h
  L : Li N h p s
  o : Oc h hv T_uint8 1 s.held.length (bytesOf s.held)
  ow : Ow h wv T_runglaw7_frame 2 s.wait.length wcs
  wa : WA h (fun u => ∀ i, isBk u i → N i ∧ ¬ isBk hv i ∧ ¬ isBk wv i) wcs s.wait
  hn : ∀ i, isBk hv i → N i ∧ ¬ isBk wv i
  wn : ∀ i, isBk wv i → N i
  ux : s.unit = x
  sl : s.sil = S
  qs : s.held ≠ [] → q = s.still
  qi : q ≤ i
  si : s.still ≤ i
  wl : s.wait.length ≤ 8
  hl : s.held.length ≤ 257
def LP (h0 h : AH) (p : Nat) (x : UInt8) (S : Int) (hv wv : AVal) (q i : Nat) : Prop := ∃ N s wcs, LPC h0 h p x S hv wv q i N s wcs
variable {h0 h' : AH} {x : UInt8} {S : Int} {hv wv : AVal} {q i : Nat} {N : Nat → Prop} {s s' : LS} {wcs : List AVal}
theorem LPC.next (C : LPC h0 h p x S hv wv q i N s wcs) : LPC h0 h p x S hv wv q (i + 1) N s wcs :=
  ⟨C.w, C.k, C.L, C.o, C.ow, C.wa, C.hn, C.wn, C.ux, C.sl, C.qs, by have := C.qi; omega, by have := C.si; omega, C.wl, C.hl⟩
theorem LPC.lt (C : LPC h0 h p x S hv wv q i N s wcs) {j : Nat} (hj : N j) : j < h.n := C.L.2 j hj
theorem feed_take (l b : List UInt8) (hl : l.length ≤ 257) : (l ++ b).take (min (l ++ b).length 257) = l ++ b.take (257 - l.length) := by
  rw [List.take_append]
  have e1 : l.take (min (l ++ b).length 257) = l := List.take_of_length_le (by rw [List.length_append]; omega)
  rw [e1]
  congr 1
  rw [List.take_eq_take_iff, List.length_append]; omega

theorem linePlays (H : Plain ov) (K : ov N_runglaw7_known = some knownYes) (n : Nat) (w : Wf h) {k : Int} {cs : List AVal} {l : List St7} (hk : -9223372036854775808 ≤ k ∧ k < 9223372036854775808) (sa : Sz h a 3 l.length cs .ro) (st : StA h cs l) (hll : l.length ≤ 2 ^ 48) :
    Wp (kc ov (n + 6) N_runglaw7_LinePlays [.int .u8 x.toNat, .int .i64 k, a] h) fun r h' => r = .bool true := by
  rw [C_runglaw7_LinePlays H]; unfold F_runglaw7_LinePlays
  (try simp -dsimp (disch := omega) only [↓pre, sp, sp2, wp_some, Int.cast_ofNat_Int, Nat.reduceAdd, Nat.reduceMul, Nat.reduceSub, Nat.reduceLeDiff, Nat.reduceEqDiff, Nat.reducePow, Int.reduceToNat, Int.reducePow, Int.reduceAdd, Int.reduceSub, Int.reduceMul, Int.reduceLT, Int.reduceLE, Int.reduceEq, Int.reduceNeg, known_spec K])
  refine wp_loop (fun m y h1 => ∃ (i : Nat) (nn : Nat), y = [.int .i64 nn, .int .i64 i] ∧ i + m = l.length ∧ h = h1 ∧ nn ≤ 2 ^ 50 ∧ (nn ≤ 20000 → ∀ j z, j < i → l[j]? = some z → z.b.length ≤ 20000)) l.length (by omega)
    ⟨0, 0, rfl, by omega, rfl, by omega, fun _ j z hj => by omega⟩ ?_
  rintro m _ _ j ⟨i, nn, rfl, him, rfl, hnn, hall⟩ hj
  unfold L_runglaw7_LinePlays_1
  (try simp -dsimp (disch := omega) only [↓pre, sp, sp2, wp_some, Int.cast_ofNat_Int, Nat.reduceAdd, Nat.reduceMul, Nat.reduceSub, Nat.reduceLeDiff, Nat.reduceEqDiff, Nat.reducePow, Int.reduceToNat, Int.reducePow, Int.reduceAdd, Int.reduceSub, Int.reduceMul, Int.reduceLT, Int.reduceLE, Int.reduceEq, Int.reduceNeg, sa.len])
  refine wp_kT (.bool (decide (i < l.length ∧ nn ≤ 20000))) (fun j hj => ?_) ?_
  · by_cases c : (i : Int) < l.length
    · (try simp -dsimp (disch := omega) only [↓pre, sp, sp2, wp_some, Int.cast_ofNat_Int, Nat.reduceAdd, Nat.reduceMul, Nat.reduceSub, Nat.reduceLeDiff, Nat.reduceEqDiff, Nat.reducePow, Int.reduceToNat, Int.reducePow, Int.reduceAdd, Int.reduceSub, Int.reduceMul, Int.reduceLT, Int.reduceLE, Int.reduceEq, Int.reduceNeg, c, decide_true])
      have e1 : ((nn : Int) ≤ 20000) ↔ nn ≤ 20000 := by omega
      simpa only [show i < l.length by omega, e1, true_and] using hj
    · (try simp -dsimp (disch := omega) only [↓pre, sp, sp2, wp_some, Int.cast_ofNat_Int, Nat.reduceAdd, Nat.reduceMul, Nat.reduceSub, Nat.reduceLeDiff, Nat.reduceEqDiff, Nat.reducePow, Int.reduceToNat, Int.reducePow, Int.reduceAdd, Int.reduceSub, Int.reduceMul, Int.reduceLT, Int.reduceLE, Int.reduceEq, Int.reduceNeg, c, decide_false])
      simpa only [show ¬ i < l.length by omega, false_and, decide_false] using hj
  (try simp -dsimp (disch := omega) only [↓pre, sp, sp2, wp_some, Int.cast_ofNat_Int, Nat.reduceAdd, Nat.reduceMul, Nat.reduceSub, Nat.reduceLeDiff, Nat.reduceEqDiff, Nat.reducePow, Int.reduceToNat, Int.reducePow, Int.reduceAdd, Int.reduceSub, Int.reduceMul, Int.reduceLT, Int.reduceLE, Int.reduceEq, Int.reduceNeg])
  refine wp_ite (fun c => ?_) (fun c => ?_)
  · obtain ⟨z, hz⟩ : ∃ z, l[i]? = some z := ⟨_, List.getElem?_eq_getElem c.1⟩
    obtain ⟨bv, e1, e2, e3, hn, sb, hbl⟩ := st.2 i z hz
    have hcl := st.1
    have hld : rLoad (ea a (i * 3 + 2)) h = some bv := by rw [sa.ld (by omega), e3]
    have en : (nn : Int) + 1 + z.b.length = ((nn + 1 + z.b.length : Nat) : Int) := by omega
    have ei : ((i : Int) + 1) = ((i + 1 : Nat) : Int) := by omega
    (try simp -dsimp (disch := omega) only [↓pre, sp, sp2, wp_some, Int.cast_ofNat_Int, Nat.reduceAdd, Nat.reduceMul, Nat.reduceSub, Nat.reduceLeDiff, Nat.reduceEqDiff, Nat.reducePow, Int.reduceToNat, Int.reducePow, Int.reduceAdd, Int.reduceSub, Int.reduceMul, Int.reduceLT, Int.reduceLE, Int.reduceEq, Int.reduceNeg, sa.at, hld, sb.len, en, ei])
    refine hj (m - 1) _ _ (by omega) ⟨i + 1, nn + 1 + z.b.length, rfl, by omega, rfl, by omega, fun hn2 j2 z2 hj2 hz2 => ?_⟩
    by_cases hji : j2 = i
    · subst hji; rw [hz] at hz2; cases hz2; omega
    · exact hall (by omega) j2 z2 (by omega) hz2
  clear hj
  refine wp_kT (.bool (decide (nn > 20000 ∨ l.length > 500))) (fun j hj => ?_) ?_
  · by_cases c : (nn : Int) > 20000
    · (try simp -dsimp (disch := omega) only [↓pre, sp, sp2, wp_some, Int.cast_ofNat_Int, Nat.reduceAdd, Nat.reduceMul, Nat.reduceSub, Nat.reduceLeDiff, Nat.reduceEqDiff, Nat.reducePow, Int.reduceToNat, Int.reducePow, Int.reduceAdd, Int.reduceSub, Int.reduceMul, Int.reduceLT, Int.reduceLE, Int.reduceEq, Int.reduceNeg, c, decide_true]); simpa only [show nn > 20000 by omega, true_or, decide_true] using hj
    · (try simp -dsimp (disch := omega) only [↓pre, sp, sp2, wp_some, Int.cast_ofNat_Int, Nat.reduceAdd, Nat.reduceMul, Nat.reduceSub, Nat.reduceLeDiff, Nat.reduceEqDiff, Nat.reducePow, Int.reduceToNat, Int.reducePow, Int.reduceAdd, Int.reduceSub, Int.reduceMul, Int.reduceLT, Int.reduceLE, Int.reduceEq, Int.reduceNeg, c, decide_false, sa.len])
      have e : ((l.length : Int) > 500) ↔ l.length > 500 := by omega
      simpa only [e, show ¬ nn > 20000 by omega, false_or] using hj
  (try simp -dsimp (disch := omega) only [↓pre, sp, sp2, wp_some, Int.cast_ofNat_Int, Nat.reduceAdd, Nat.reduceMul, Nat.reduceSub, Nat.reduceLeDiff, Nat.reduceEqDiff, Nat.reducePow, Int.reduceToNat, Int.reducePow, Int.reduceAdd, Int.reduceSub, Int.reduceMul, Int.reduceLT, Int.reduceLE, Int.reduceEq, Int.reduceNeg])
  refine wp_ite (fun c2 => ?_) (fun c2 => ?_)
  · (try simp -dsimp (disch := omega) only [↓pre, sp, sp2, wp_some, Int.cast_ofNat_Int, Nat.reduceAdd, Nat.reduceMul, Nat.reduceSub, Nat.reduceLeDiff, Nat.reduceEqDiff, Nat.reducePow, Int.reduceToNat, Int.reducePow, Int.reduceAdd, Int.reduceSub, Int.reduceMul, Int.reduceLT, Int.reduceLE, Int.reduceEq, Int.reduceNeg])
  have hsmall : ∀ (j : Nat) (z : St7), l[j]? = some z → z.b.length ≤ 20000 := fun j z hz => hall (by omega) j z (by
    rcases Nat.lt_or_ge j i with hh | hh
    · exact hh
    · rw [List.getElem?_eq_none (by omega)] at hz; cases hz) hz
  have hlen : l.length ≤ 500 := by omega
  clear hall c c2
  (try simp -dsimp (disch := omega) only [↓pre, sp, sp2, wp_some, Int.cast_ofNat_Int, Nat.reduceAdd, Nat.reduceMul, Nat.reduceSub, Nat.reduceLeDiff, Nat.reduceEqDiff, Nat.reducePow, Int.reduceToNat, Int.reducePow, Int.reduceAdd, Int.reduceSub, Int.reduceMul, Int.reduceLT, Int.reduceLE, Int.reduceEq, Int.reduceNeg])
  refine Wp.bind (li_new H (n + 4) w x k) fun v2 h2 ⟨k2, p, e3, L2⟩ => ?_
  subst e3
  (try simp -dsimp (disch := omega) only [↓pre, sp, sp2, wp_some, Int.cast_ofNat_Int, Nat.reduceAdd, Nat.reduceMul, Nat.reduceSub, Nat.reduceLeDiff, Nat.reduceEqDiff, Nat.reducePow, Int.reduceToNat, Int.reducePow, Int.reduceAdd, Int.reduceSub, Int.reduceMul, Int.reduceLT, Int.reduceLE, Int.reduceEq, Int.reduceNeg])
  generalize hSS : max k 1 = S at *
  have hS1 : 1 ≤ S := by omega
  refine wp_loop (fun m y h3 => ∃ (i : Nat) (hv wv : AVal) (q : Nat) (N : Nat → Prop) (s : LS) (wcs : List AVal), y = [hv, wv, .int .i64 q, .int .i64 i] ∧ i + m = l.length ∧ LPC h h3 p x S hv wv q i N s wcs) l.length (by omega)
    ⟨0, .slice none 0 0, .slice none 0 0, 0, _, _, [], rfl, by omega, k2.w', k2.mono fun _ f => f.elim, L2, (Ow.nil _ _ _ (by omega)).oc, Ow.nil _ _ _ (by omega), ⟨rfl, fun i f hf => by simp at hf⟩, fun i hi => hi.elim, fun i hi => hi.elim, rfl, rfl, fun hh => absurd rfl hh, Nat.le_refl _, Nat.le_refl _, Nat.zero_le _, Nat.zero_le _⟩ ?_
  clear L2
  rintro m _ h3 j ⟨i, hv, wv, q, N, s, wcs, rfl, him, C⟩ hj
  have sa3 := sa.ro C.k
  have st3 := st.ke C.k
  unfold L_runglaw7_LinePlays_0
  (try simp -dsimp (disch := omega) only [↓pre, sp, sp2, wp_some, Int.cast_ofNat_Int, Nat.reduceAdd, Nat.reduceMul, Nat.reduceSub, Nat.reduceLeDiff, Nat.reduceEqDiff, Nat.reducePow, Int.reduceToNat, Int.reducePow, Int.reduceAdd, Int.reduceSub, Int.reduceMul, Int.reduceLT, Int.reduceLE, Int.reduceEq, Int.reduceNeg, sa3.len])
  refine wp_ite (fun c => ?_) (fun c => ?_)
  rotate_left
  · (try simp -dsimp (disch := omega) only [↓pre, sp, sp2, wp_some, Int.cast_ofNat_Int, Nat.reduceAdd, Nat.reduceMul, Nat.reduceSub, Nat.reduceLeDiff, Nat.reduceEqDiff, Nat.reducePow, Int.reduceToNat, Int.reducePow, Int.reduceAdd, Int.reduceSub, Int.reduceMul, Int.reduceLT, Int.reduceLE, Int.reduceEq, Int.reduceNeg])
  obtain ⟨z, hz⟩ : ∃ z, l[i]? = some z := ⟨_, List.getElem?_eq_getElem (by omega)⟩
  obtain ⟨bv, e1, e2, e3, hn, sb, _⟩ := st3.2 i z hz
  have hbl := hsmall i z hz
  have hcl := st.1
  have hld2 : rLoad (ea a (i * 3 + 2)) h3 = some bv := by rw [sa3.ld (by omega), e3]
  have hld1 : rLoad (ea a (i * 3 + 1)) h3 = some (.int .i64 z.n) := by rw [sa3.ld (by omega), e2]
  have hld0 : rLoad (ea a (i * 3)) h3 = some (.int .i64 z.what) := by rw [sa3.ld (by omega), e1]
  have ei : ((i : Int) + 1) = ((i + 1 : Nat) : Int) := by omega
  -- the next round
  refine wp_kJ (fun y h4 => ∃ hv wv q N s wcs, y = [hv, wv, .int .i64 (q : Nat)] ∧ LPC h h4 p x S hv wv q (i + 1) N s wcs) (fun j59 hj59 => ?_) ?_
  rotate_left
  · rintro _ h4 ⟨hv, wv, q, N, s, wcs, rfl, C⟩
    (try simp -dsimp (disch := omega) only [↓pre, sp, sp2, wp_some, Int.cast_ofNat_Int, Nat.reduceAdd, Nat.reduceMul, Nat.reduceSub, Nat.reduceLeDiff, Nat.reduceEqDiff, Nat.reducePow, Int.reduceToNat, Int.reducePow, Int.reduceAdd, Int.reduceSub, Int.reduceMul, Int.reduceLT, Int.reduceLE, Int.reduceEq, Int.reduceNeg, ei])
    exact hj (m - 1) _ _ (by omega) ⟨i + 1, hv, wv, q, N, s, wcs, rfl, by omega, C⟩
  (try simp -dsimp (disch := omega) only [↓pre, sp, sp2, wp_some, Int.cast_ofNat_Int, Nat.reduceAdd, Nat.reduceMul, Nat.reduceSub, Nat.reduceLeDiff, Nat.reduceEqDiff, Nat.reducePow, Int.reduceToNat, Int.reducePow, Int.reduceAdd, Int.reduceSub, Int.reduceMul, Int.reduceLT, Int.reduceLE, Int.reduceEq, Int.reduceNeg, sa3.at, hld2, hld0, Nat.add_zero])
  -- what is compared behind a step
  refine wp_kJ (fun y h4 => ∃ hv wv q N s wcs, y = [hv, wv, .int .i64 (q : Nat)] ∧ LPC h h4 p x S hv wv q (i + 1) N s wcs) (fun j75 hj75 => ?_) ?_
  rotate_left
  · rintro _ h4 ⟨hv, wv, q, N, s, wcs, rfl, C⟩
    have hlf := li_left H (n + 4) C.L
    have hwt := li_waits H (n + 4) C.L
    (try simp -dsimp (disch := omega) only [↓pre, sp, sp2, wp_some, Int.cast_ofNat_Int, Nat.reduceAdd, Nat.reduceMul, Nat.reduceSub, Nat.reduceLeDiff, Nat.reduceEqDiff, Nat.reducePow, Int.reduceToNat, Int.reducePow, Int.reduceAdd, Int.reduceSub, Int.reduceMul, Int.reduceLT, Int.reduceLE, Int.reduceEq, Int.reduceNeg, hlf, C.o.rd.len])
    refine wp_kTh (fun v h5 => h4 = h5 ∧ v = .bool false) (fun j2 hj2 => ?_) ?_
    · (try simp -dsimp (disch := omega) only [↓pre, sp, sp2, wp_some, Int.cast_ofNat_Int, Nat.reduceAdd, Nat.reduceMul, Nat.reduceSub, Nat.reduceLeDiff, Nat.reduceEqDiff, Nat.reducePow, Int.reduceToNat, Int.reducePow, Int.reduceAdd, Int.reduceSub, Int.reduceMul, Int.reduceLT, Int.reduceLE, Int.reduceEq, Int.reduceNeg, hwt, (Ow.rd C.ow).len])
      exact hj2 _ _ ⟨rfl, rfl⟩
    · rintro _ _ ⟨rfl, rfl⟩
      (try simp -dsimp (disch := omega) only [↓pre, sp, sp2, wp_some, Int.cast_ofNat_Int, Nat.reduceAdd, Nat.reduceMul, Nat.reduceSub, Nat.reduceLeDiff, Nat.reduceEqDiff, Nat.reducePow, Int.reduceToNat, Int.reducePow, Int.reduceAdd, Int.reduceSub, Int.reduceMul, Int.reduceLT, Int.reduceLE, Int.reduceEq, Int.reduceNeg])
      exact hj59 _ _ ⟨hv, wv, q, N, s, wcs, rfl, C⟩
  -- bytes that are fed
  refine wp_kJ (fun y h4 => ∃ bv bl N, y = [bv] ∧ LPC h h4 p x S hv wv q i N s wcs ∧ bl.length ≤ 20000 ∧ (Bs h4 bv bl .ro ∨ (Ob h4 bv bl ∧ ∀ i, isBk bv i → N i ∧ ¬ isBk hv i))) (fun j93 hj93 => ?_) ?_
  rotate_left
  · clear sb bv e3 hld2 hld1 hld0 sa3 st3
    rintro _ h4 ⟨bv, bl, N, rfl, C, hbl, src⟩
    have hrd : ∃ md, Bs h4 bv bl md := by rcases src with src | src; exact ⟨_, src⟩; exact ⟨_, src.1.rd⟩
    obtain ⟨md, sb⟩ := hrd
    (try simp -dsimp (disch := omega) only [↓pre, sp, sp2, wp_some, Int.cast_ofNat_Int, Nat.reduceAdd, Nat.reduceMul, Nat.reduceSub, Nat.reduceLeDiff, Nat.reduceEqDiff, Nat.reducePow, Int.reduceToNat, Int.reducePow, Int.reduceAdd, Int.reduceSub, Int.reduceMul, Int.reduceLT, Int.reduceLE, Int.reduceEq, Int.reduceNeg])
    refine Wp.bind (copy_spec H (n + 4) C.w sb (by omega)) fun v5 h5 ⟨k5, o5, f5⟩ => ?_
    obtain ⟨md5, b5, hro5⟩ := o5.roOr
    have L5 : Li (Mo N h4 h5) h5 p s := C.L.more (S := fun _ => False) k5 fun _ f => f.elim
    have hin : ∀ i, isBk v5 i → Mo N h4 h5 i := fun i hi => .inr ⟨f5 i hi, Ow.bk_lt k5.w' o5 hi⟩
    (try simp -dsimp (disch := omega) only [↓pre, sp, sp2, wp_some, Int.cast_ofNat_Int, Nat.reduceAdd, Nat.reduceMul, Nat.reduceSub, Nat.reduceLeDiff, Nat.reduceEqDiff, Nat.reducePow, Int.reduceToNat, Int.reducePow, Int.reduceAdd, Int.reduceSub, Int.reduceMul, Int.reduceLT, Int.reduceLE, Int.reduceEq, Int.reduceNeg])
    refine Wp.bind (li_feed H (n + 4) k5.w' L5 b5 (hro5.imp id fun hi => hin _ hi) (by omega)) fun v6 h6 ⟨e6, k6, L6⟩ => ?_
    have o6 : Ob h6 v5 bl := o5.ke k6 fun i hi hh => hh (hin i hi)
    (try simp -dsimp (disch := omega) only [↓pre, sp, sp2, wp_some, Int.cast_ofNat_Int, Nat.reduceAdd, Nat.reduceMul, Nat.reduceSub, Nat.reduceLeDiff, Nat.reduceEqDiff, Nat.reducePow, Int.reduceToNat, Int.reducePow, Int.reduceAdd, Int.reduceSub, Int.reduceMul, Int.reduceLT, Int.reduceLE, Int.reduceEq, Int.reduceNeg])
    refine Wp.bind (spoilh_spec H (n + 4) k6.w' o6 (by omega)) fun v7 h7 ⟨e7, k7⟩ => ?_
    subst e7
    -- all that was there ahead of the copy is as it was
    have K57 : Ke (fun i => ¬ Mo N h4 h5 i ∨ isBk v5 i) h5 h7 := (k6.mono fun i hi => .inl hi).trans (k7.mono fun i hi => .inr hi)
    have hold : ∀ i, N i → ¬ (¬ Mo N h4 h5 i ∨ isBk v5 i) := fun i hi hh => by
      rcases hh with hh | hh
      · exact hh (.inl hi)
      · have := f5 i hh; have := C.lt hi; omega
    have K47 : Ke (fun i => ¬ N i) h4 h7 := (Kp.ke k5).trans (K57.mono fun i hi hN => hold i hN hi)
    have L7 : Li (Mo (Mo N h4 h5) h6 h7) h7 p (feedL s bl) := L6.more k7 hin
    have o7 : Oc h7 hv T_uint8 1 s.held.length (bytesOf s.held) := C.o.ke K47 fun i hi hh => hh (C.hn i hi).1
    have ow7 : Ow h7 wv T_runglaw7_frame 2 s.wait.length wcs := C.ow.ke K47 fun i hi hh => hh (C.wn i hi)
    have wa7 : WA h7 (fun u => ∀ i, isBk u i → N i ∧ ¬ isBk hv i ∧ ¬ isBk wv i) wcs s.wait := C.wa.mono fun u f b hl r => ⟨b.keF K47 fun i hi hh => hh (r i hi).1, r⟩
    have hb7 : ∃ md, Bs h7 bv bl md := by
      rcases src with src | src
      · exact ⟨_, src.ro K47⟩
      · exact ⟨_, (src.1.ke K47 fun i hi hh => hh (src.2 i hi).1).rd⟩
    obtain ⟨md7, b7⟩ := hb7
    have K7 : Ke (fun _ => True) h h7 := C.k.trans (K47.mono fun _ _ => trivial)
    have hN7 : ∀ i, N i → Mo (Mo N h4 h5) h6 h7 i := fun i hi => .inl (.inl hi)
    (try simp -dsimp (disch := omega) only [↓pre, sp, sp2, wp_some, Int.cast_ofNat_Int, Nat.reduceAdd, Nat.reduceMul, Nat.reduceSub, Nat.reduceLeDiff, Nat.reduceEqDiff, Nat.reducePow, Int.reduceToNat, Int.reducePow, Int.reduceAdd, Int.reduceSub, Int.reduceMul, Int.reduceLT, Int.reduceLE, Int.reduceEq, Int.reduceNeg, sb.len])
    refine wp_kJ (fun y h8 => ∃ hv' q' N', y = [hv', .int .i64 (q' : Nat)] ∧ LPC h h8 p x S hv' wv q' i N' (feedL s bl) wcs) (fun j106 hj106 => ?_) ?_
    · refine wp_kIf (fun c1 => ?_) (fun c1 => ?_)
      · have c1 := of_decide_eq_true c1
        have hne : bl ≠ [] := fun e => by subst e; simp at c1
        have ef : feedL s bl = { s with still := 0, held := s.held ++ bl.take (257 - s.held.length) } := by unfold feedL; rw [if_neg hne]
        have hhl := C.hl
        (try simp -dsimp (disch := omega) only [↓pre, sp, sp2, wp_some, Int.cast_ofNat_Int, Nat.reduceAdd, Nat.reduceMul, Nat.reduceSub, Nat.reduceLeDiff, Nat.reduceEqDiff, Nat.reducePow, Int.reduceToNat, Int.reducePow, Int.reduceAdd, Int.reduceSub, Int.reduceMul, Int.reduceLT, Int.reduceLE, Int.reduceEq, Int.reduceNeg])
        refine wp_appendOc K7.w' o7 b7 (isCell_bytes _) (by omega) (by omega) fun v8 h8 o8 k8 f8 => ?_
        rw [← bytesOf_append] at o8
        have L8 : Li (Mo (Mo (Mo N h4 h5) h6 h7) h7 h8) h8 p (feedL s bl) := L7.more k8 fun i hi => hN7 i (C.hn i hi).1
        have ow8 := ow7.ke k8 fun i hi hh => (C.hn i hh).2 hi
        have em : min (((s.held.length + bl.length : Nat) : Int)) 257 = ((min (s.held ++ bl).length 257 : Nat) : Int) := by rw [List.length_append]; omega
        obtain ⟨v9, e9, o9, f9⟩ := o8.cutR (q := .i64) (b := ((min (s.held ++ bl).length 257 : Nat) : Int)) (by omega) (by rw [List.length_append]; omega)
        have hlen8 := o8.rd.len
        (try simp -dsimp (disch := omega) only [↓pre, sp, sp2, wp_some, Int.cast_ofNat_Int, Nat.reduceAdd, Nat.reduceMul, Nat.reduceSub, Nat.reduceLeDiff, Nat.reduceEqDiff, Nat.reducePow, Int.reduceToNat, Int.reducePow, Int.reduceAdd, Int.reduceSub, Int.reduceMul, Int.reduceLT, Int.reduceLE, Int.reduceEq, Int.reduceNeg, hlen8, em, e9])
        rw [Int.toNat_natCast, Nat.mul_one, bytesOf_take, feed_take _ _ hhl] at o9
        have hlt : (s.held ++ bl.take (257 - s.held.length)).length = min (s.held ++ bl).length 257 := by rw [List.length_append, List.length_append, List.length_take]; omega
        have hf9 : ∀ i, isBk v9 i → isBk hv i ∨ (h7.n ≤ i ∧ i < h8.n) := fun i hi => by
          rcases f8 i (f9 i hi) with f | f
          · exact .inl f
          · exact .inr ⟨f, o8.bk_lt k8.w' (f9 i hi)⟩
        rw [ef] at L8 hj106
        refine hj106 _ _ ⟨v9, 0, _, rfl, k8.w', K7.trans (k8.mono fun _ _ => trivial), L8, o9.to rfl (by simp only; omega), ow8, ⟨wa7.1, fun i f hf => ?_⟩, fun i hi => ⟨?_, fun hw => ?_⟩, fun i hi => .inl (hN7 i (C.wn i hi)), C.ux, C.sl, fun _ => rfl, Nat.zero_le _, Nat.zero_le _, C.wl, by simp only; rw [hlt]; omega⟩
        · obtain ⟨u, e1, e2, b, hl, r⟩ := wa7.2 i f hf
          refine ⟨u, e1, e2, b.keF k8 fun j hj hh => (r j hj).2.1 hh, hl, fun j hj => ⟨.inl (hN7 j (r j hj).1), fun hh => ?_, (r j hj).2.2⟩⟩
          rcases hf9 j hh with hh | hh
          · exact (r j hj).2.1 hh
          · have := C.lt (r j hj).1; have := K47.n; omega
        · rcases hf9 i hi with hh | hh
          · exact .inl (hN7 i (C.hn i hh).1)
          · exact .inr hh
        · rcases hf9 i hi with hh | hh
          · exact (C.hn i hh).2 hw
          · have := C.lt (C.wn i hw); have := K47.n; omega
      · have c1 := of_decide_eq_false c1
        have he : bl = [] := List.eq_nil_of_length_eq_zero (by omega)
        have ef : feedL s bl = s := by unfold feedL; rw [if_pos he]
        (try simp -dsimp (disch := omega) only [↓pre, sp, sp2, wp_some, Int.cast_ofNat_Int, Nat.reduceAdd, Nat.reduceMul, Nat.reduceSub, Nat.reduceLeDiff, Nat.reduceEqDiff, Nat.reducePow, Int.reduceToNat, Int.reducePow, Int.reduceAdd, Int.reduceSub, Int.reduceMul, Int.reduceLT, Int.reduceLE, Int.reduceEq, Int.reduceNeg])
        rw [ef] at L7 hj106
        exact hj106 _ _ ⟨hv, q, _, rfl, K7.w', K7, L7, o7, ow7, wa7.mono fun u f b hl r => ⟨b, fun i hi => ⟨hN7 i (r i hi).1, (r i hi).2⟩⟩, fun i hi => ⟨hN7 i (C.hn i hi).1, (C.hn i hi).2⟩, fun i hi => hN7 i (C.wn i hi), C.ux, C.sl, C.qs, C.qi, C.si, C.wl, C.hl⟩
    · rintro _ h8 ⟨hv', q', N', rfl, C8⟩
      (try simp -dsimp (disch := omega) only [↓pre, sp, sp2, wp_some, Int.cast_ofNat_Int, Nat.reduceAdd, Nat.reduceMul, Nat.reduceSub, Nat.reduceLeDiff, Nat.reduceEqDiff, Nat.reducePow, Int.reduceToNat, Int.reducePow, Int.reduceAdd, Int.reduceSub, Int.reduceMul, Int.reduceLT, Int.reduceLE, Int.reduceEq, Int.reduceNeg])
      exact hj75 _ _ ⟨hv', wv, q', N', _, wcs, rfl, C8.next⟩
  -- which step
  have hq := C.qi
  have hsi := C.si
  refine wp_kIf (fun c2 => ?_) (fun c2 => ?_)
  · -- a frame
    have hm3 : ∀ y : Int, Int.tmod z.n 3 = y → True := fun _ _ => trivial
    (try simp -dsimp (disch := omega) only [↓pre, sp, sp2, wp_some, Int.cast_ofNat_Int, Nat.reduceAdd, Nat.reduceMul, Nat.reduceSub, Nat.reduceLeDiff, Nat.reduceEqDiff, Nat.reducePow, Int.reduceToNat, Int.reducePow, Int.reduceAdd, Int.reduceSub, Int.reduceMul, Int.reduceLT, Int.reduceLE, Int.reduceEq, Int.reduceNeg, sa3.at, hld1])
    refine wp_kJ (fun y h4 => h3 = h4 ∧ ∃ u : UInt8, y = [.int .u8 u.toNat]) (fun j135 hj135 => ?_) ?_
    · refine wp_kIf (fun c3 => ?_) (fun c3 => ?_)
      · (try simp -dsimp (disch := omega) only [↓pre, sp, sp2, wp_some, Int.cast_ofNat_Int, Nat.reduceAdd, Nat.reduceMul, Nat.reduceSub, Nat.reduceLeDiff, Nat.reduceEqDiff, Nat.reducePow, Int.reduceToNat, Int.reducePow, Int.reduceAdd, Int.reduceSub, Int.reduceMul, Int.reduceLT, Int.reduceLE, Int.reduceEq, Int.reduceNeg])
        exact hj135 _ _ ⟨rfl, x, rfl⟩
      · refine hj135 _ _ ⟨rfl, UInt8.ofNat (z.n % 256).toNat, ?_⟩
        rw [IntKind.wrap_u8]
        congr 2
        have : 0 ≤ z.n % 256 ∧ z.n % 256 < 256 := by omega
        simp
        omega
    · rintro _ _ ⟨rfl, u, rfl⟩
      (try simp -dsimp (disch := omega) only [↓pre, sp, sp2, wp_some, Int.cast_ofNat_Int, Nat.reduceAdd, Nat.reduceMul, Nat.reduceSub, Nat.reduceLeDiff, Nat.reduceEqDiff, Nat.reducePow, Int.reduceToNat, Int.reducePow, Int.reduceAdd, Int.reduceSub, Int.reduceMul, Int.reduceLT, Int.reduceLE, Int.reduceEq, Int.reduceNeg])
      refine Wp.bind (rref_write_spec H (n + 3) C.w sb (x := u)) fun v4 h4 ⟨k4, e4⟩ => ?_
      have C4 : LPC h h4 p x S hv wv q i (Mo N h3 h4) s wcs := ⟨k4.w', C.k.trans (k4.mono fun _ f => f.elim), C.L.more (S := fun _ => False) k4 (fun _ f => f.elim), C.o.ke k4 (fun _ _ f => f), C.ow.kp k4, C.wa.mono fun u f b hl r => ⟨b.kp k4, fun i hi => ⟨.inl (r i hi).1, (r i hi).2⟩⟩, fun i hi => ⟨.inl (C.hn i hi).1, (C.hn i hi).2⟩, fun i hi => .inl (C.wn i hi), C.ux, C.sl, C.qs, C.qi, C.si, C.wl, C.hl⟩
      split at e4
      · subst e4
        (try simp -dsimp (disch := omega) only [↓pre, sp, sp2, wp_some, Int.cast_ofNat_Int, Nat.reduceAdd, Nat.reduceMul, Nat.reduceSub, Nat.reduceLeDiff, Nat.reduceEqDiff, Nat.reducePow, Int.reduceToNat, Int.reducePow, Int.reduceAdd, Int.reduceSub, Int.reduceMul, Int.reduceLT, Int.reduceLE, Int.reduceEq, Int.reduceNeg])
        exact hj93 _ _ ⟨.slice none 0 0, [], _, rfl, C4, by simp, .inl (Sz.nil _ _ (by omega) _)⟩
      · rename_i c4
        obtain ⟨v5, rfl, o5, f5⟩ := e4
        (try simp -dsimp (disch := omega) only [↓pre, sp, sp2, wp_some, Int.cast_ofNat_Int, Nat.reduceAdd, Nat.reduceMul, Nat.reduceSub, Nat.reduceLeDiff, Nat.reduceEqDiff, Nat.reducePow, Int.reduceToNat, Int.reducePow, Int.reduceAdd, Int.reduceSub, Int.reduceMul, Int.reduceLT, Int.reduceLE, Int.reduceEq, Int.reduceNeg])
        exact hj93 _ _ ⟨v5, _, _, rfl, C4, by simp [sumB_len]; omega, .inr ⟨o5, fun i hi => ⟨.inr ⟨f5 i hi, Ow.bk_lt k4.w' o5 hi⟩, fun hh => by have := C.lt (C.hn i hh).1; have := f5 i hi; omega⟩⟩⟩
  -- others
  have c2' : ¬ z.what = 2 := of_decide_eq_false c2
  (try simp -dsimp (disch := omega) only [↓pre, sp, sp2, wp_some, Int.cast_ofNat_Int, Nat.reduceAdd, Nat.reduceMul, Nat.reduceSub, Nat.reduceLeDiff, Nat.reduceEqDiff, Nat.reducePow, Int.reduceToNat, Int.reducePow, Int.reduceAdd, Int.reduceSub, Int.reduceMul, Int.reduceLT, Int.reduceLE, Int.reduceEq, Int.reduceNeg])
  refine wp_kJ (fun y h4 => h3 = h4 ∧ ∃ bb : Bool, y = [.bool bb]) (fun j148 hj148 => ?_) ?_
  · refine wp_kIf (fun c3 => ?_) (fun c3 => ?_)
    · exact hj148 _ _ ⟨rfl, _, rfl⟩
    · (try simp -dsimp (disch := omega) only [↓pre, sp, sp2, wp_some, Int.cast_ofNat_Int, Nat.reduceAdd, Nat.reduceMul, Nat.reduceSub, Nat.reduceLeDiff, Nat.reduceEqDiff, Nat.reducePow, Int.reduceToNat, Int.reducePow, Int.reduceAdd, Int.reduceSub, Int.reduceMul, Int.reduceLT, Int.reduceLE, Int.reduceEq, Int.reduceNeg])
      exact hj148 _ _ ⟨rfl, _, rfl⟩
  rintro _ _ ⟨rfl, bb, rfl⟩
  (try simp -dsimp (disch := omega) only [↓pre, sp, sp2, wp_some, Int.cast_ofNat_Int, Nat.reduceAdd, Nat.reduceMul, Nat.reduceSub, Nat.reduceLeDiff, Nat.reduceEqDiff, Nat.reducePow, Int.reduceToNat, Int.reducePow, Int.reduceAdd, Int.reduceSub, Int.reduceMul, Int.reduceLT, Int.reduceLE, Int.reduceEq, Int.reduceNeg])
  refine wp_kIf (fun c3 => ?_) (fun c3 => ?_)
  · exact hj93 _ _ ⟨bv, z.b, N, rfl, C, hbl, .inl sb⟩
  (try simp -dsimp (disch := omega) only [↓pre, sp, sp2, wp_some, Int.cast_ofNat_Int, Nat.reduceAdd, Nat.reduceMul, Nat.reduceSub, Nat.reduceLeDiff, Nat.reduceEqDiff, Nat.reducePow, Int.reduceToNat, Int.reducePow, Int.reduceAdd, Int.reduceSub, Int.reduceMul, Int.reduceLT, Int.reduceLE, Int.reduceEq, Int.reduceNeg])
  refine wp_kJ (fun y h4 => h3 = h4 ∧ ∃ bb : Bool, y = [.bool bb]) (fun j152 hj152 => ?_) ?_
  · refine wp_kIf (fun c3 => ?_) (fun c3 => ?_)
    · exact hj152 _ _ ⟨rfl, _, rfl⟩
    · (try simp -dsimp (disch := omega) only [↓pre, sp, sp2, wp_some, Int.cast_ofNat_Int, Nat.reduceAdd, Nat.reduceMul, Nat.reduceSub, Nat.reduceLeDiff, Nat.reduceEqDiff, Nat.reducePow, Int.reduceToNat, Int.reducePow, Int.reduceAdd, Int.reduceSub, Int.reduceMul, Int.reduceLT, Int.reduceLE, Int.reduceEq, Int.reduceNeg])
      refine wp_kJ (fun y h4 => h3 = h4 ∧ ∃ bb : Bool, y = [.bool bb]) (fun j246 hj246 => ?_) ?_
      · refine wp_kIf (fun c4 => ?_) (fun c4 => ?_)
        · exact hj246 _ _ ⟨rfl, _, rfl⟩
        · (try simp -dsimp (disch := omega) only [↓pre, sp, sp2, wp_some, Int.cast_ofNat_Int, Nat.reduceAdd, Nat.reduceMul, Nat.reduceSub, Nat.reduceLeDiff, Nat.reduceEqDiff, Nat.reducePow, Int.reduceToNat, Int.reducePow, Int.reduceAdd, Int.reduceSub, Int.reduceMul, Int.reduceLT, Int.reduceLE, Int.reduceEq, Int.reduceNeg])
          refine wp_kJ (fun y h4 => h3 = h4 ∧ ∃ bb : Bool, y = [.bool bb]) (fun j250 hj250 => ?_) ?_
          · refine wp_kIf (fun c5 => ?_) (fun c5 => ?_)
            · exact hj250 _ _ ⟨rfl, _, rfl⟩
            · (try simp -dsimp (disch := omega) only [↓pre, sp, sp2, wp_some, Int.cast_ofNat_Int, Nat.reduceAdd, Nat.reduceMul, Nat.reduceSub, Nat.reduceLeDiff, Nat.reduceEqDiff, Nat.reducePow, Int.reduceToNat, Int.reducePow, Int.reduceAdd, Int.reduceSub, Int.reduceMul, Int.reduceLT, Int.reduceLE, Int.reduceEq, Int.reduceNeg])
              exact hj250 _ _ ⟨rfl, _, rfl⟩
          · rintro _ _ ⟨rfl, bb, rfl⟩
            (try simp -dsimp (disch := omega) only [↓pre, sp, sp2, wp_some, Int.cast_ofNat_Int, Nat.reduceAdd, Nat.reduceMul, Nat.reduceSub, Nat.reduceLeDiff, Nat.reduceEqDiff, Nat.reducePow, Int.reduceToNat, Int.reducePow, Int.reduceAdd, Int.reduceSub, Int.reduceMul, Int.reduceLT, Int.reduceLE, Int.reduceEq, Int.reduceNeg])
            exact hj246 _ _ ⟨rfl, _, rfl⟩
      · rintro _ _ ⟨rfl, bb, rfl⟩
        (try simp -dsimp (disch := omega) only [↓pre, sp, sp2, wp_some, Int.cast_ofNat_Int, Nat.reduceAdd, Nat.reduceMul, Nat.reduceSub, Nat.reduceLeDiff, Nat.reduceEqDiff, Nat.reducePow, Int.reduceToNat, Int.reducePow, Int.reduceAdd, Int.reduceSub, Int.reduceMul, Int.reduceLT, Int.reduceLE, Int.reduceEq, Int.reduceNeg])
        exact hj152 _ _ ⟨rfl, _, rfl⟩
  rintro _ _ ⟨rfl, bb3, rfl⟩
  (try simp -dsimp (disch := omega) only [↓pre, sp, sp2, wp_some, Int.cast_ofNat_Int, Nat.reduceAdd, Nat.reduceMul, Nat.reduceSub, Nat.reduceLeDiff, Nat.reduceEqDiff, Nat.reducePow, Int.reduceToNat, Int.reducePow, Int.reduceAdd, Int.reduceSub, Int.reduceMul, Int.reduceLT, Int.reduceLE, Int.reduceEq, Int.reduceNeg])
  refine wp_kIf (fun c4 => ?_) (fun c4 => ?_)
  · -- a tick
    (try simp -dsimp (disch := omega) only [↓pre, sp, sp2, wp_some, Int.cast_ofNat_Int, Nat.reduceAdd, Nat.reduceMul, Nat.reduceSub, Nat.reduceLeDiff, Nat.reduceEqDiff, Nat.reducePow, Int.reduceToNat, Int.reducePow, Int.reduceAdd, Int.reduceSub, Int.reduceMul, Int.reduceLT, Int.reduceLE, Int.reduceEq, Int.reduceNeg])
    refine Wp.bind (li_tick H n C.w C.L (by omega)) fun v4 h4 ⟨e4, k4, L4⟩ => ?_
    have o4 : Oc h4 hv T_uint8 1 s.held.length (bytesOf s.held) := C.o.ke k4 fun i hi hh => hh (C.hn i hi).1
    have ow4 : Ow h4 wv T_runglaw7_frame 2 s.wait.length wcs := C.ow.ke k4 fun i hi hh => hh (C.wn i hi)
    have wa4 : WA h4 (fun u => ∀ i, isBk u i → N i ∧ ¬ isBk hv i ∧ ¬ isBk wv i) wcs s.wait := C.wa.mono fun u f b hl r => ⟨b.keF k4 fun i hi hh => hh (r i hi).1, r⟩
    have K4 : Ke (fun _ => True) h h4 := C.k.trans (k4.mono fun _ _ => trivial)
    (try simp -dsimp (disch := omega) only [↓pre, sp, sp2, wp_some, Int.cast_ofNat_Int, Nat.reduceAdd, Nat.reduceMul, Nat.reduceSub, Nat.reduceLeDiff, Nat.reduceEqDiff, Nat.reducePow, Int.reduceToNat, Int.reducePow, Int.reduceAdd, Int.reduceSub, Int.reduceMul, Int.reduceLT, Int.reduceLE, Int.reduceEq, Int.reduceNeg, o4.rd.len])
    refine wp_ite (fun c5 => ?_) (fun c5 => ?_)
    · have he : s.held = [] := List.eq_nil_of_length_eq_zero (by omega)
      have et : tickL s = s := by unfold tickL; rw [if_pos he]
      rw [et] at L4
      exact hj59 _ _ ⟨hv, wv, q, N, s, wcs, rfl, LPC.next ⟨k4.w', K4, L4, o4, ow4, wa4, C.hn, C.wn, C.ux, C.sl, C.qs, C.qi, C.si, C.wl, C.hl⟩⟩
    have hne : s.held ≠ [] := fun e => by rw [e] at c5; simp at c5
    have hqs := C.qs hne
    have eq1 : ((q : Int) + 1) = ((q + 1 : Nat) : Int) := by omega
    (try simp -dsimp (disch := omega) only [↓pre, sp, sp2, wp_some, Int.cast_ofNat_Int, Nat.reduceAdd, Nat.reduceMul, Nat.reduceSub, Nat.reduceLeDiff, Nat.reduceEqDiff, Nat.reducePow, Int.reduceToNat, Int.reducePow, Int.reduceAdd, Int.reduceSub, Int.reduceMul, Int.reduceLT, Int.reduceLE, Int.reduceEq, Int.reduceNeg, eq1])
    refine wp_ite (fun c6 => ?_) (fun c6 => ?_)
    · have et : tickL s = { s with still := s.still + 1 } := by unfold tickL; rw [if_neg hne, if_pos (by rw [C.sl, ← hqs]; exact c6)]
      rw [et] at L4
      exact hj75 _ _ ⟨hv, wv, q + 1, N, _, wcs, rfl, k4.w', K4, L4, o4, ow4, wa4, C.hn, C.wn, C.ux, C.sl, fun _ => by simp only; omega, by omega, by simp only; omega, C.wl, C.hl⟩
    have et : tickL s = { s with still := 0, held := [], wait := if goodL s then s.wait ++ [((openR s.held).1, (openR s.held).2.1)] else s.wait } := by unfold tickL; rw [if_neg hne, if_neg (by rw [C.sl, ← hqs]; exact c6)]
    rw [et] at L4
    (try simp -dsimp (disch := omega) only [↓pre, sp, sp2, wp_some, Int.cast_ofNat_Int, Nat.reduceAdd, Nat.reduceMul, Nat.reduceSub, Nat.reduceLeDiff, Nat.reduceEqDiff, Nat.reducePow, Int.reduceToNat, Int.reducePow, Int.reduceAdd, Int.reduceSub, Int.reduceMul, Int.reduceLT, Int.reduceLE, Int.reduceEq, Int.reduceNeg])
    refine Wp.bind (rref_open_specF H (n + 3) k4.w' o4.rd) fun v5 h5 ⟨k5, pv, e5, b5, f5⟩ => ?_
    subst e5
    (try simp -dsimp (disch := omega) only [↓pre, sp, sp2, wp_some, Int.cast_ofNat_Int, Nat.reduceAdd, Nat.reduceMul, Nat.reduceSub, Nat.reduceLeDiff, Nat.reduceEqDiff, Nat.reducePow, Int.reduceToNat, Int.reducePow, Int.reduceAdd, Int.reduceSub, Int.reduceMul, Int.reduceLT, Int.reduceLE, Int.reduceEq, Int.reduceNeg])
    have hgi : decide (goodL s) = decide ((openR s.held).2.2 = 0 ∧ ((openR s.held).1.toNat = x.toNat ∨ (openR s.held).1.toNat = 0) ∧ s.wait.length < 8) := by
      rw [← C.ux]; exact decide_eq_decide.2 goodL_iff
    refine wp_kT (.bool (decide (goodL s))) (fun j hj => ?_) ?_
    · rw [hgi] at hj
      by_cases c3 : (((openR s.held).2.2 : Nat) : Int) = 0
      · have c3' : (openR s.held).2.2 = 0 := by omega
        by_cases c4 : (((openR s.held).1.toNat : Nat) : Int) = (x.toNat : Nat)
        · have c4' : (openR s.held).1.toNat = x.toNat := by omega
          have c4b : decide ((((openR s.held).1.toNat : Nat) : Int) = (x.toNat : Nat)) = true := decide_eq_true c4
          (try simp -dsimp (disch := omega) only [↓pre, sp, sp2, wp_some, Int.cast_ofNat_Int, Nat.reduceAdd, Nat.reduceMul, Nat.reduceSub, Nat.reduceLeDiff, Nat.reduceEqDiff, Nat.reducePow, Int.reduceToNat, Int.reducePow, Int.reduceAdd, Int.reduceSub, Int.reduceMul, Int.reduceLT, Int.reduceLE, Int.reduceEq, Int.reduceNeg, c3, decide_true, c4b, (Ow.rd ow4).len])
          have e5 : ((s.wait.length : Int) < 8) ↔ s.wait.length < 8 := by omega
          simpa only [c3', c4', e5, true_or, true_and] using hj
        · have c4' : ¬ (openR s.held).1.toNat = x.toNat := by omega
          have c4b : decide ((((openR s.held).1.toNat : Nat) : Int) = (x.toNat : Nat)) = false := decide_eq_false c4
          by_cases c5 : (((openR s.held).1.toNat : Nat) : Int) = 0
          · have c5' : (openR s.held).1.toNat = 0 := by omega
            have c5b : decide ((((openR s.held).1.toNat : Nat) : Int) = 0) = true := decide_eq_true c5
            (try simp -dsimp (disch := omega) only [↓pre, sp, sp2, wp_some, Int.cast_ofNat_Int, Nat.reduceAdd, Nat.reduceMul, Nat.reduceSub, Nat.reduceLeDiff, Nat.reduceEqDiff, Nat.reducePow, Int.reduceToNat, Int.reducePow, Int.reduceAdd, Int.reduceSub, Int.reduceMul, Int.reduceLT, Int.reduceLE, Int.reduceEq, Int.reduceNeg, c3, decide_true, c4b, c5b, (Ow.rd ow4).len])
            have e5 : ((s.wait.length : Int) < 8) ↔ s.wait.length < 8 := by omega
            simpa only [c3', c5', e5, or_true, true_and] using hj
          · have c5' : ¬ (openR s.held).1.toNat = 0 := by omega
            have c5b : decide ((((openR s.held).1.toNat : Nat) : Int) = 0) = false := decide_eq_false c5
            (try simp -dsimp (disch := omega) only [↓pre, sp, sp2, wp_some, Int.cast_ofNat_Int, Nat.reduceAdd, Nat.reduceMul, Nat.reduceSub, Nat.reduceLeDiff, Nat.reduceEqDiff, Nat.reducePow, Int.reduceToNat, Int.reducePow, Int.reduceAdd, Int.reduceSub, Int.reduceMul, Int.reduceLT, Int.reduceLE, Int.reduceEq, Int.reduceNeg, c3, decide_true, c4b, c5b])
            simpa only [c3', c4', c5', or_false, false_and, and_false, decide_false] using hj
      · have c3' : ¬ (openR s.held).2.2 = 0 := by omega
        (try simp -dsimp (disch := omega) only [↓pre, sp, sp2, wp_some, Int.cast_ofNat_Int, Nat.reduceAdd, Nat.reduceMul, Nat.reduceSub, Nat.reduceLeDiff, Nat.reduceEqDiff, Nat.reducePow, Int.reduceToNat, Int.reducePow, Int.reduceAdd, Int.reduceSub, Int.reduceMul, Int.reduceLT, Int.reduceLE, Int.reduceEq, Int.reduceNeg, c3, decide_false])
        simpa only [c3', false_and, decide_false] using hj
    have L5 := L4.more (S := fun _ => False) k5 fun _ f => f.elim
    refine wp_kJ (fun y h6 => ∃ wv' N' wcs', y = [wv'] ∧ LPC h h6 p x S (.slice none 0 0) wv' (q + 1) (i + 1) N' { s with still := 0, held := [], wait := if goodL s then s.wait ++ [((openR s.held).1, (openR s.held).2.1)] else s.wait } wcs') (fun j192 hj192 => ?_) ?_
    rotate_left
    · rintro _ h6 ⟨wv', N', wcs', rfl, C6⟩
      (try simp -dsimp (disch := omega) only [↓pre, sp, sp2, wp_some, Int.cast_ofNat_Int, Nat.reduceAdd, Nat.reduceMul, Nat.reduceSub, Nat.reduceLeDiff, Nat.reduceEqDiff, Nat.reducePow, Int.reduceToNat, Int.reducePow, Int.reduceAdd, Int.reduceSub, Int.reduceMul, Int.reduceLT, Int.reduceLE, Int.reduceEq, Int.reduceNeg])
      exact hj75 _ _ ⟨_, wv', q + 1, N', _, wcs', rfl, C6⟩
    by_cases cg : goodL s
    · rw [decide_eq_true cg]
      simp only [if_pos cg] at L5 hj192
      have hpl := openR_pos cg.1
      have hbd : rBuild [(.int .u8 0), (.slice none 0 0)] [(0, 1), (1, 1)] [(0, .int .u8 (openR s.held).1.toNat), (1, pv)] = some (.agg [.int .u8 (openR s.held).1.toNat, pv]) := by
        simp [rBuild, aFill, cells_of b5.isCell, cells_int, splice]
      (try simp -dsimp (disch := omega) only [↓pre, sp, sp2, wp_some, Int.cast_ofNat_Int, Nat.reduceAdd, Nat.reduceMul, Nat.reduceSub, Nat.reduceLeDiff, Nat.reduceEqDiff, Nat.reducePow, Int.reduceToNat, Int.reducePow, Int.reduceAdd, Int.reduceSub, Int.reduceMul, Int.reduceLT, Int.reduceLE, Int.reduceEq, Int.reduceNeg, ↓hbd])
      refine wp_buildSl (cs := [.int .u8 ((openR s.held).1.toNat : Int), pv]) k5.w' ⟨by decide, rfl, by decide⟩ (by rfl) (by simp only [ic, b5.isCell]) fun qq h6 hqq k6 n6 g6 => ?_
      have sq : Sz h6 (.slice (some (qq, 0, 2)) 1 1) 2 1 [.int .u8 ((openR s.held).1.toNat : Int), pv] .rw := Ow.rd (e := T_runglaw7_frame) (Ow.new g6 (by omega) 1 rfl (by simp only [ic, b5.isCell]))
      have ow6 := (ow4.kp k5).kp k6
      have L6 := L5.more (S := fun _ => False) k6 fun _ f => f.elim
      have hw8 := cg.2.2
      (try simp -dsimp (disch := omega) only [↓pre, sp, sp2, wp_some, Int.cast_ofNat_Int, Nat.reduceAdd, Nat.reduceMul, Nat.reduceSub, Nat.reduceLeDiff, Nat.reduceEqDiff, Nat.reducePow, Int.reduceToNat, Int.reducePow, Int.reduceAdd, Int.reduceSub, Int.reduceMul, Int.reduceLT, Int.reduceLE, Int.reduceEq, Int.reduceNeg])
      refine wp_append k6.w' ow6 sq (by simp only [ic, b5.isCell]) (by omega) (by omega) fun wv' h7 o7 k7 f7 => ?_
      have L7 := L6.more k7 fun i hi => .inl (.inl (C.wn i hi))
      (try simp -dsimp (disch := omega) only [↓pre, sp, sp2, wp_some, Int.cast_ofNat_Int, Nat.reduceAdd, Nat.reduceMul, Nat.reduceSub, Nat.reduceLeDiff, Nat.reduceEqDiff, Nat.reducePow, Int.reduceToNat, Int.reducePow, Int.reduceAdd, Int.reduceSub, Int.reduceMul, Int.reduceLT, Int.reduceLE, Int.reduceEq, Int.reduceNeg])
      have wlt : ∀ j, isBk wv' j → isBk wv j ∨ (h6.n ≤ j ∧ j < h7.n) := fun j hj => by
        rcases f7 j hj with f | f
        · exact .inl f
        · exact .inr ⟨f, Ow.bk_lt k7.w' o7 hj⟩
      have hlt46 : h3.n ≤ h4.n ∧ h4.n ≤ h5.n ∧ h5.n ≤ h6.n := ⟨k4.n, k5.n, k6.n⟩
      refine hj192 _ _ ⟨wv', _, _, rfl, k7.w', ((K4.trans (k5.mono fun _ f => f.elim)).trans (k6.mono fun _ f => f.elim)).trans (k7.mono fun _ _ => trivial), L7, (Ow.nil _ _ _ (by omega)).oc, o7.to rfl (by simp), ?_, fun i hi => hi.elim, fun j hj => ?_, C.ux, C.sl, fun hh => absurd rfl hh, by omega, Nat.zero_le _, by simp; omega, Nat.zero_le _⟩
      · refine WA.add (f := ((openR s.held).1, (openR s.held).2.1)) ⟨wa4.1, fun i f hf => ?_⟩ ((b5.kp k6).keF k7 fun j hj hh => ?_) hpl fun j hj => ⟨?_, fun hh => hh.elim, fun hh => ?_⟩
        · obtain ⟨u, e1, e2, b, hl, r⟩ := wa4.2 i f hf
          refine ⟨u, e1, e2, ((b.kp k5).kp k6).keF k7 fun j hj hh => (r j hj).2.2 hh, hl, fun j hj => ⟨.inl (.inl (.inl (r j hj).1)), fun hh => hh.elim, fun hh => ?_⟩⟩
          rcases wlt j hh with hh | hh
          · exact (r j hj).2.2 hh
          · have := C.lt (r j hj).1; omega
        · have := f5 j hj; have := C.lt (C.wn j hh); omega
        · exact .inl (.inl (.inr ⟨f5 j hj, b5.bk_lt k5.w' hpl hj⟩))
        · have hb := f5 j hj
          rcases wlt j hh with hh | hh
          · have := C.lt (C.wn j hh); omega
          · have := b5.bk_lt k5.w' hpl hj; omega
      · rcases wlt j hj with hh | hh
        · exact .inl (.inl (.inl (C.wn j hh)))
        · exact .inr hh
    · rw [decide_eq_false cg]
      simp only [if_neg cg] at L5 hj192
      (try simp -dsimp (disch := omega) only [↓pre, sp, sp2, wp_some, Int.cast_ofNat_Int, Nat.reduceAdd, Nat.reduceMul, Nat.reduceSub, Nat.reduceLeDiff, Nat.reduceEqDiff, Nat.reducePow, Int.reduceToNat, Int.reducePow, Int.reduceAdd, Int.reduceSub, Int.reduceMul, Int.reduceLT, Int.reduceLE, Int.reduceEq, Int.reduceNeg])
      exact hj192 _ _ ⟨wv, _, wcs, rfl, k5.w', K4.trans (k5.mono fun _ f => f.elim), L5, (Ow.nil _ _ _ (by omega)).oc, ow4.kp k5, wa4.mono fun u f b hl r => ⟨b.kp k5, fun i hi => ⟨.inl (r i hi).1, fun hh => hh.elim, (r i hi).2.2⟩⟩, fun i hi => hi.elim, fun j hj => .inl (C.wn j hj), C.ux, C.sl, fun hh => absurd rfl hh, by omega, Nat.zero_le _, C.wl, Nat.zero_le _⟩
  (try simp -dsimp (disch := omega) only [↓pre, sp, sp2, wp_some, Int.cast_ofNat_Int, Nat.reduceAdd, Nat.reduceMul, Nat.reduceSub, Nat.reduceLeDiff, Nat.reduceEqDiff, Nat.reducePow, Int.reduceToNat, Int.reducePow, Int.reduceAdd, Int.reduceSub, Int.reduceMul, Int.reduceLT, Int.reduceLE, Int.reduceEq, Int.reduceNeg])
  refine wp_ite (fun c5 => ?_) (fun c5 => ?_)
  · -- the next frame
    (try simp -dsimp (disch := omega) only [↓pre, sp, sp2, wp_some, Int.cast_ofNat_Int, Nat.reduceAdd, Nat.reduceMul, Nat.reduceSub, Nat.reduceLeDiff, Nat.reduceEqDiff, Nat.reducePow, Int.reduceToNat, Int.reducePow, Int.reduceAdd, Int.reduceSub, Int.reduceMul, Int.reduceLT, Int.reduceLE, Int.reduceEq, Int.reduceNeg])
    refine Wp.bind (li_next H (n + 4) C.w C.L) fun v4 h4 ⟨k4, q4⟩ => ?_
    have o4 : Oc h4 hv T_uint8 1 s.held.length (bytesOf s.held) := C.o.ke k4 fun i hi hh => hh (C.hn i hi).1
    have ow4 : Ow h4 wv T_runglaw7_frame 2 s.wait.length wcs := C.ow.ke k4 fun i hi hh => hh (C.wn i hi)
    have wa4 : WA h4 (fun u => ∀ i, isBk u i → N i ∧ ¬ isBk hv i ∧ ¬ isBk wv i) wcs s.wait := C.wa.mono fun u f b hl r => ⟨b.keF k4 fun i hi hh => hh (r i hi).1, r⟩
    have K4 : Ke (fun _ => True) h h4 := C.k.trans (k4.mono fun _ _ => trivial)
    cases hw : s.wait with
    | nil =>
      rw [hw] at q4
      obtain ⟨rfl, L4⟩ := q4
      have hl0 : rLen wv = some (.int .i64 0) := by rw [(Ow.rd ow4).len, hw]; rfl
      (try simp -dsimp (disch := omega) only [↓pre, sp, sp2, wp_some, Int.cast_ofNat_Int, Nat.reduceAdd, Nat.reduceMul, Nat.reduceSub, Nat.reduceLeDiff, Nat.reduceEqDiff, Nat.reducePow, Int.reduceToNat, Int.reducePow, Int.reduceAdd, Int.reduceSub, Int.reduceMul, Int.reduceLT, Int.reduceLE, Int.reduceEq, Int.reduceNeg, hl0])
      refine wp_kJ (fun y h5 => h4 = h5 ∧ y = [wv]) (fun j2 hj2 => ?_) ?_
      · (try simp -dsimp (disch := omega) only [↓pre, sp, sp2, wp_some, Int.cast_ofNat_Int, Nat.reduceAdd, Nat.reduceMul, Nat.reduceSub, Nat.reduceLeDiff, Nat.reduceEqDiff, Nat.reducePow, Int.reduceToNat, Int.reducePow, Int.reduceAdd, Int.reduceSub, Int.reduceMul, Int.reduceLT, Int.reduceLE, Int.reduceEq, Int.reduceNeg])
        exact hj2 _ _ ⟨rfl, rfl⟩
      · rintro _ _ ⟨rfl, rfl⟩
        (try simp -dsimp (disch := omega) only [↓pre, sp, sp2, wp_some, Int.cast_ofNat_Int, Nat.reduceAdd, Nat.reduceMul, Nat.reduceSub, Nat.reduceLeDiff, Nat.reduceEqDiff, Nat.reducePow, Int.reduceToNat, Int.reducePow, Int.reduceAdd, Int.reduceSub, Int.reduceMul, Int.reduceLT, Int.reduceLE, Int.reduceEq, Int.reduceNeg])
        exact hj75 _ _ ⟨hv, wv, q, N, s, wcs, rfl, LPC.next ⟨k4.w', K4, L4, o4, ow4, wa4, C.hn, C.wn, C.ux, C.sl, C.qs, C.qi, C.si, C.wl, C.hl⟩⟩
    | cons f fs =>
      rw [hw] at q4
      obtain ⟨u, rfl, bu, L4⟩ := q4
      rw [hw] at wa4 ow4
      obtain ⟨u0, e0, e1', b0, hl0, r0⟩ := wa4.2 0 f rfl
      have hwl : rLen wv = some (.int .i64 ((fs.length + 1 : Nat) : Int)) := (Ow.rd ow4).len
      have hpos : ((fs.length + 1 : Nat) : Int) > 0 := by omega
      have hclw : wcs.length = (f :: fs).length * 2 := wa4.1
      rw [List.length_cons] at hclw
      have hl0' : rLoad (ea wv 0) h4 = some (.int .u8 f.1.toNat) := by rw [(Ow.rd ow4).ld (by omega)]; exact e0
      have hl1' : rLoad (ea wv 1) h4 = some u0 := by rw [(Ow.rd ow4).ld (by omega)]; exact e1'
      have ha0 : rAt 2 wv (.int .i64 0) = some (ea wv 0) := by
        have := (Ow.rd ow4).at (k := .i64) (i := 0) (by omega) (by rw [List.length_cons]; omega)
        simpa using this
      have hb := fun n => bytes_spec H n bu b0
      have eneq : ¬ ((f.1.toNat : Int) ≠ (f.1.toNat : Nat)) := fun hh => hh rfl
      (try simp -dsimp (disch := omega) only [↓pre, sp, sp2, wp_some, Int.cast_ofNat_Int, Nat.reduceAdd, Nat.reduceMul, Nat.reduceSub, Nat.reduceLeDiff, Nat.reduceEqDiff, Nat.reducePow, Int.reduceToNat, Int.reducePow, Int.reduceAdd, Int.reduceSub, Int.reduceMul, Int.reduceLT, Int.reduceLE, Int.reduceEq, Int.reduceNeg, hwl, hpos, decide_true, beq_self_eq_true, Bool.not_true])
      refine wp_kJ (fun y h5 => h4 = h5 ∧ ∃ wv', y = [wv'] ∧ Ow h4 wv' T_runglaw7_frame 2 fs.length (wcs.drop 2) ∧ ∀ i, isBk wv' i → isBk wv i) (fun j2 hj2 => ?_) ?_
      · (try simp -dsimp (disch := omega) only [↓pre, sp, sp2, wp_some, Int.cast_ofNat_Int, Nat.reduceAdd, Nat.reduceMul, Nat.reduceSub, Nat.reduceLeDiff, Nat.reduceEqDiff, Nat.reducePow, Int.reduceToNat, Int.reducePow, Int.reduceAdd, Int.reduceSub, Int.reduceMul, Int.reduceLT, Int.reduceLE, Int.reduceEq, Int.reduceNeg, ha0, hl0', Nat.add_zero])
        obtain ⟨wv', e6, o6, f6⟩ := ow4.cutL (p := .i64) (a := 1) (by omega) (by rw [List.length_cons]; omega)
        refine wp_kTh (fun v h5 => h4 = h5 ∧ v = .bool false) (fun j3 hj3 => ?_) ?_
        · (try simp -dsimp (disch := omega) only [↓pre, sp, sp2, wp_some, Int.cast_ofNat_Int, Nat.reduceAdd, Nat.reduceMul, Nat.reduceSub, Nat.reduceLeDiff, Nat.reduceEqDiff, Nat.reducePow, Int.reduceToNat, Int.reducePow, Int.reduceAdd, Int.reduceSub, Int.reduceMul, Int.reduceLT, Int.reduceLE, Int.reduceEq, Int.reduceNeg, ha0, hl1', Nat.zero_add, hb, decide_true])
          exact hj3 _ _ ⟨rfl, rfl⟩
        · rintro _ _ ⟨rfl, rfl⟩
          (try simp -dsimp (disch := omega) only [↓pre, sp, sp2, wp_some, Int.cast_ofNat_Int, Nat.reduceAdd, Nat.reduceMul, Nat.reduceSub, Nat.reduceLeDiff, Nat.reduceEqDiff, Nat.reducePow, Int.reduceToNat, Int.reducePow, Int.reduceAdd, Int.reduceSub, Int.reduceMul, Int.reduceLT, Int.reduceLE, Int.reduceEq, Int.reduceNeg, e6])
          exact hj2 _ _ ⟨rfl, wv', rfl, o6.to rfl (by rw [List.length_cons]; rfl), f6⟩
      · rintro _ _ ⟨rfl, wv', rfl, o6, f6⟩
        (try simp -dsimp (disch := omega) only [↓pre, sp, sp2, wp_some, Int.cast_ofNat_Int, Nat.reduceAdd, Nat.reduceMul, Nat.reduceSub, Nat.reduceLeDiff, Nat.reduceEqDiff, Nat.reducePow, Int.reduceToNat, Int.reducePow, Int.reduceAdd, Int.reduceSub, Int.reduceMul, Int.reduceLT, Int.reduceLE, Int.reduceEq, Int.reduceNeg])
        have ep : (popL s).wait = fs := by simp [popL, hw]
        refine hj75 _ _ ⟨hv, wv', q, N, popL s, wcs.drop 2, rfl, LPC.next ⟨k4.w', K4, L4, o4, ?_, ?_, fun i hi => ⟨(C.hn i hi).1, fun hh => (C.hn i hi).2 (f6 i hh)⟩, fun i hi => C.wn i (f6 i hi), C.ux, C.sl, C.qs, C.qi, C.si, ?_, C.hl⟩⟩
        · rw [ep]; exact o6
        · rw [ep]; exact wa4.tail.mono fun u f b hl r => ⟨b, fun i hi => ⟨(r i hi).1, (r i hi).2.1, fun hh => (r i hi).2.2 (f6 i hh)⟩⟩
        · rw [ep]; have := C.wl; rw [hw, List.length_cons] at this; omega
  · exact hj75 _ _ ⟨hv, wv, q, N, s, wcs, rfl, C.next⟩
end Go.Proofs.Ytpbkgmcpelhlpaa.AI
