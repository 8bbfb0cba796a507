/- Chapter 9: a store's room, a journal's block, Lay. -/
import Derived.Test.YtbcpmbggidemdaaRet2
import Derived.Test.YtbcpmbggidemdaaSync
import Derived.Test.YtbcpmbggidemdaaAiLib4
namespace Go.Proofs.Ytbcpmbggidemdaa.AI
open Go
set_option linter.unusedSimpArgs false
set_option linter.unusedVariables false
variable {ov : AOver} {h : AH} {v a b : AVal} {md md' : AMode} {p q : Nat} {s : BSt} {lv : AVal} {vs : List AVal}

def roomM (s : BSt) : Nat := if s.bl.length < 4 ∨ s.size < 64 then 0 else (s.size - 28) / 8
theorem room_spec (H : Plain ov) (n : Nat) (t : Sto h p s lv vs) : kc ov (n + 2) N_retain_Room [.ptr (some (p, 0))] h = some (.int .i64 (roomM s : Nat), h) := by
  refine Wp.eq ?_
  rw [C_retain_Room H]; unfold F_retain_Room
  have hsz := t.sz
  have hb := blocks_spec H n t
  have hs := size_spec H n t
  (try simp -dsimp (disch := omega) only [↓pre, sp, sp2, wp_some, Int.cast_ofNat_Int, Nat.reduceAdd, Nat.reduceMul, Nat.reduceSub, Nat.reduceLeDiff, Nat.reduceEqDiff, Nat.reducePow, Int.reduceToNat, Int.reducePow, Int.reduceAdd, Int.reduceSub, Int.reduceMul, Int.reduceLT, Int.reduceLE, Int.reduceEq, Int.reduceNeg, hb])
  refine wp_kTh (fun r h1 => h1 = h ∧ r = .bool (decide (s.bl.length < 4 ∨ s.size < 64))) (fun j hj => ?_) ?_
  · by_cases c : s.bl.length < 4
    · have c' : (s.bl.length : Int) < 4 := by omega
      (try simp -dsimp (disch := omega) only [↓pre, sp, sp2, wp_some, Int.cast_ofNat_Int, Nat.reduceAdd, Nat.reduceMul, Nat.reduceSub, Nat.reduceLeDiff, Nat.reduceEqDiff, Nat.reducePow, Int.reduceToNat, Int.reducePow, Int.reduceAdd, Int.reduceSub, Int.reduceMul, Int.reduceLT, Int.reduceLE, Int.reduceEq, Int.reduceNeg, c'])
      exact hj _ _ ⟨rfl, by simp [c]⟩
    · have c' : ¬ (s.bl.length : Int) < 4 := by omega
      (try simp -dsimp (disch := omega) only [↓pre, sp, sp2, wp_some, Int.cast_ofNat_Int, Nat.reduceAdd, Nat.reduceMul, Nat.reduceSub, Nat.reduceLeDiff, Nat.reduceEqDiff, Nat.reducePow, Int.reduceToNat, Int.reducePow, Int.reduceAdd, Int.reduceSub, Int.reduceMul, Int.reduceLT, Int.reduceLE, Int.reduceEq, Int.reduceNeg, c', hs])
      refine hj _ _ ⟨rfl, ?_⟩
      have : ((s.size : Int) < 64) = (s.size < 64) := propext (by omega)
      simp [c, this]
  · rintro _ _ ⟨rfl, rfl⟩
    (try simp -dsimp (disch := omega) only [↓pre, sp, sp2, wp_some, Int.cast_ofNat_Int, Nat.reduceAdd, Nat.reduceMul, Nat.reduceSub, Nat.reduceLeDiff, Nat.reduceEqDiff, Nat.reducePow, Int.reduceToNat, Int.reducePow, Int.reduceAdd, Int.reduceSub, Int.reduceMul, Int.reduceLT, Int.reduceLE, Int.reduceEq, Int.reduceNeg])
    refine wp_ite (fun c => ?_) (fun c => ?_)
    · (try simp -dsimp (disch := omega) only [↓pre, sp, sp2, wp_some, Int.cast_ofNat_Int, Nat.reduceAdd, Nat.reduceMul, Nat.reduceSub, Nat.reduceLeDiff, Nat.reduceEqDiff, Nat.reducePow, Int.reduceToNat, Int.reducePow, Int.reduceAdd, Int.reduceSub, Int.reduceMul, Int.reduceLT, Int.reduceLE, Int.reduceEq, Int.reduceNeg])
      simp [roomM, c]
    · have eq : Int.tdiv ((s.size : Int) - 24 - 4) 8 = (((s.size - 28) / 8 : Nat) : Int) := by
        rw [show (s.size : Int) - 24 - 4 = ((s.size - 28 : Nat) : Int) by omega]; exact (Int.ofNat_tdiv _ _).symm
      (try simp -dsimp (disch := omega) only [↓pre, sp, sp2, wp_some, Int.cast_ofNat_Int, Nat.reduceAdd, Nat.reduceMul, Nat.reduceSub, Nat.reduceLeDiff, Nat.reduceEqDiff, Nat.reducePow, Int.reduceToNat, Int.reducePow, Int.reduceAdd, Int.reduceSub, Int.reduceMul, Int.reduceLT, Int.reduceLE, Int.reduceEq, Int.reduceNeg, hs, eq])
      simp [roomM, c]

/-- A journal. -/
structure JSt where
  n : Nat
  scan : Nat
  at_ : Int
  next : Nat
  laid : Nat
def jrC (p : Nat) (j : JSt) : List AVal := [.ptr (some (p, 0)), .int .i64 j.n, .int .u64 j.scan, .int .i64 j.at_, .int .u64 j.next, .int .u64 j.laid]
def Jr (h : AH) (q p : Nat) (j : JSt) : Prop := h.get q = some ⟨.row (jrC p j) T_retain_Journal false, .rw, []⟩
theorem Jr.ke {S : Nat → Prop} {h' : AH} {j : JSt} (g : Jr h q p j) (k : Ke S h h') (hS : ¬ S q) : Jr h' q p j := k.gt g hS
theorem Jr.kp {h' : AH} {j : JSt} (g : Jr h q p j) (k : Kp h h') : Jr h' q p j := k.gt g
variable {j : JSt}
theorem scan_spec (H : Plain ov) (n : Nat) (g : Jr h q p j) : kc ov (n + 1) N_retain_Journal_Scan [.ptr (some (q, 0))] h = some (.int .u64 j.scan, h) := by
  have g' : h.get q = some ⟨.row [.ptr (some (p, 0)), .int .i64 j.n, .int .u64 j.scan, .int .i64 j.at_, .int .u64 j.next, .int .u64 j.laid] T_retain_Journal false, .rw, []⟩ := g
  rw [C_retain_Journal_Scan H]; unfold F_retain_Journal_Scan
  (try simp -dsimp (disch := omega) only [↓pre, sp, sp2, wp_some, Int.cast_ofNat_Int, Nat.reduceAdd, Nat.reduceMul, Nat.reduceSub, Nat.reduceLeDiff, Nat.reduceEqDiff, Nat.reducePow, Int.reduceToNat, Int.reducePow, Int.reduceAdd, Int.reduceSub, Int.reduceMul, Int.reduceLT, Int.reduceLE, Int.reduceEq, Int.reduceNeg, row_rw g'])
theorem laid_spec (X : Xs ov) (n : Nat) (g : Jr h q p j) : kc ov (n + 3) N_retain_Journal_Laid [.ptr (some (q, 0))] h = some (.int .u64 j.laid, h) := by
  have g' : h.get q = some ⟨.row [.ptr (some (p, 0)), .int .i64 j.n, .int .u64 j.scan, .int .i64 j.at_, .int .u64 j.next, .int .u64 j.laid] T_retain_Journal false, .rw, []⟩ := g
  have c := ov_call (h := h) (n := n) X.sync_atomic_LoadUint64 [.ptr (some (q, 5))]
  rw [xLoad_eq (row_rw g') rfl] at c
  have e : kc ov (n + 2) N_sync_atomic_Uint64_Load [.ptr (some (q, 5))] h = some (.int .u64 j.laid, h) := by
    rw [C_sync_atomic_Uint64_Load X.p]; unfold F_sync_atomic_Uint64_Load
    (try simp -dsimp (disch := omega) only [↓pre, sp, sp2, wp_some, Int.cast_ofNat_Int, Nat.reduceAdd, Nat.reduceMul, Nat.reduceSub, Nat.reduceLeDiff, Nat.reduceEqDiff, Nat.reducePow, Int.reduceToNat, Int.reducePow, Int.reduceAdd, Int.reduceSub, Int.reduceMul, Int.reduceLT, Int.reduceLE, Int.reduceEq, Int.reduceNeg, c, Nat.add_zero])
  rw [C_retain_Journal_Laid X.p]; unfold F_retain_Journal_Laid
  (try simp -dsimp (disch := omega) only [↓pre, sp, sp2, wp_some, Int.cast_ofNat_Int, Nat.reduceAdd, Nat.reduceMul, Nat.reduceSub, Nat.reduceLeDiff, Nat.reduceEqDiff, Nat.reducePow, Int.reduceToNat, Int.reducePow, Int.reduceAdd, Int.reduceSub, Int.reduceMul, Int.reduceLT, Int.reduceLE, Int.reduceEq, Int.reduceNeg, e, Nat.zero_add])
theorem add64u_spec (X : Xs ov) (n : Nat) (w : Wf h) (g : Jr h q p j) (hl : j.laid < 2 ^ 62) :
    Wp (kc ov (n + 2) N_sync_atomic_Uint64_Add [.ptr (some (q, 5)), .int .u64 1] h) fun r h1 => Ke (· = q) h h1 ∧ Jr h1 q p { j with laid := j.laid + 1 } := by
  have g' : h.get q = some ⟨.row [.ptr (some (p, 0)), .int .i64 j.n, .int .u64 j.scan, .int .i64 j.at_, .int .u64 j.next, .int .u64 j.laid] T_retain_Journal false, .rw, []⟩ := g
  have c := ov_call (h := h) (n := n) X.sync_atomic_AddUint64 [.ptr (some (q, 5)), .int .u64 1]
  rw [C_sync_atomic_Uint64_Add X.p]; unfold F_sync_atomic_Uint64_Add
  (try simp -dsimp (disch := omega) only [↓pre, sp, sp2, wp_some, Int.cast_ofNat_Int, Nat.reduceAdd, Nat.reduceMul, Nat.reduceSub, Nat.reduceLeDiff, Nat.reduceEqDiff, Nat.reducePow, Int.reduceToNat, Int.reducePow, Int.reduceAdd, Int.reduceSub, Int.reduceMul, Int.reduceLT, Int.reduceLE, Int.reduceEq, Int.reduceNeg, c, Nat.add_zero])
  refine Wp.bind (xAdd_wp w g' (off := 5) (x := j.laid) (k := .u64) rfl) fun v1 h1 ⟨e1, k1, n1, g1⟩ => ?_
  refine Wp.ret ⟨k1, ?_⟩
  have e : IntKind.wrap .u64 ((j.laid : Int) + 1) = ((j.laid + 1 : Nat) : Int) := by rw [wr_u64 (by omega) (by omega)]; omega
  rw [e] at g1
  exact g1
theorem block_spec (H : Plain ov) (n : Nat) (w : Wf h) (t : Sto h p s lv vs) (g : Jr h q p j) {l : List UInt8} (o : Ob h b l) (hl : l.length ≤ s.size) :
    Wp (kc ov (n + 2) N_retain_Journal_block [.ptr (some (q, 0)), b] h) fun r h' => Ke (isBk b) h h' ∧ Ob h' r (l ++ List.replicate (s.size - l.length) 0) ∧ ∀ i, isBk r i → isBk b i ∨ h.n ≤ i := by
  have g' : h.get q = some ⟨.row [.ptr (some (p, 0)), .int .i64 j.n, .int .u64 j.scan, .int .i64 j.at_, .int .u64 j.next, .int .u64 j.laid] T_retain_Journal false, .rw, []⟩ := g
  have hsz := t.sz
  rw [C_retain_Journal_block H]; unfold F_retain_Journal_block
  (try simp -dsimp (disch := omega) only [↓pre, sp, sp2, wp_some, Int.cast_ofNat_Int, Nat.reduceAdd, Nat.reduceMul, Nat.reduceSub, Nat.reduceLeDiff, Nat.reduceEqDiff, Nat.reducePow, Int.reduceToNat, Int.reducePow, Int.reduceAdd, Int.reduceSub, Int.reduceMul, Int.reduceLT, Int.reduceLE, Int.reduceEq, Int.reduceNeg, row_rw g', size_spec H n t, o.bs.len])
  refine wp_appendN w (m := s.size - l.length) o (by omega) rfl rfl (by omega) (by omega) (by omega) fun v' h' o' k' f' => ?_
  (try simp -dsimp (disch := omega) only [↓pre, sp, sp2, wp_some, Int.cast_ofNat_Int, Nat.reduceAdd, Nat.reduceMul, Nat.reduceSub, Nat.reduceLeDiff, Nat.reduceEqDiff, Nat.reducePow, Int.reduceToNat, Int.reducePow, Int.reduceAdd, Int.reduceSub, Int.reduceMul, Int.reduceLT, Int.reduceLE, Int.reduceEq, Int.reduceNeg])
  refine ⟨k', o'.to (by rw [manyT_u8, bytesOf_append]) (by rw [List.length_append, List.length_replicate]), f'⟩

/-- What a Lay does; its answer. -/
def layAt (j : JSt) : Nat := if j.at_ < 0 then 0 else (1 - j.at_).toNat
def layM (s : BSt) (j : JSt) (scan : Nat) (l : List Int) : BSt × JSt × Int :=
  if l.length ≠ j.n then (s, j, 90) else
  if (writeM s (layAt j) (slotBytes s.size j.next scan l)).2 ≠ 0 then ((writeM s (layAt j) (slotBytes s.size j.next scan l)).1, j, (writeM s (layAt j) (slotBytes s.size j.next scan l)).2) else
  if (writeM (writeM s (layAt j) (slotBytes s.size j.next scan l)).1 (2 + layAt j : Nat) (markBytes s.size j.next)).2 ≠ 0 then ((writeM (writeM s (layAt j) (slotBytes s.size j.next scan l)).1 (2 + layAt j : Nat) (markBytes s.size j.next)).1, j, (writeM (writeM s (layAt j) (slotBytes s.size j.next scan l)).1 (2 + layAt j : Nat) (markBytes s.size j.next)).2) else
  ((writeM (writeM s (layAt j) (slotBytes s.size j.next scan l)).1 (2 + layAt j : Nat) (markBytes s.size j.next)).1, { j with scan := scan, at_ := layAt j, next := j.next + 1, laid := j.laid + 1 }, 0)
theorem writeM_size (s : BSt) (i : Int) (b : List UInt8) : (writeM s i b).1.size = s.size := by
  unfold writeM; split
  · rfl
  · split
    · rfl
    · split <;> rfl
theorem writeM_writes (s : BSt) (i : Int) (b : List UInt8) : (writeM s i b).1.writes ≤ s.writes + 1 := by
  unfold writeM; split
  · simp
  · split
    · simp
    · split <;> simp

theorem lay_spec (X : Xs ov) (n : Nat) (w : Wf h) (t : Sto h p s lv vs) (g : Jr h q p j) (hq : ¬ Mine p lv vs q) {x : AVal} {l : List Int} (sx : Sz h x 1 l.length (i64s l) md) {scan : Nat} (hscan : scan < 2 ^ 64)
    (hn : j.n ≤ roomM s) (hat : -1 ≤ j.at_ ∧ j.at_ ≤ 1) (hnext : j.next < 2 ^ 63) (hlaid : j.laid < 2 ^ 62) (hwr : s.writes < 2 ^ 62 - 2) (hsz : 64 ≤ s.size) (hll : l.length ≤ 2 ^ 20) :
    Wp (kc ov (n + 4) N_retain_Journal_Lay [.ptr (some (q, 0)), .int .u64 scan, x] h) fun r h' => r = .int .i64 (layM s j scan l).2.2 ∧ Sto h' p (layM s j scan l).1 lv vs ∧ Jr h' q p (layM s j scan l).2.1 ∧ Ke (fun i => Mine p lv vs i ∨ i = q) h h' := by
  have g' : h.get q = some ⟨.row [.ptr (some (p, 0)), .int .i64 j.n, .int .u64 j.scan, .int .i64 j.at_, .int .u64 j.next, .int .u64 j.laid] T_retain_Journal false, .rw, []⟩ := g
  have H := X.p
  have hsz2 := t.sz
  rw [C_retain_Journal_Lay H]; unfold F_retain_Journal_Lay
  (try simp -dsimp (disch := omega) only [↓pre, sp, sp2, wp_some, Int.cast_ofNat_Int, Nat.reduceAdd, Nat.reduceMul, Nat.reduceSub, Nat.reduceLeDiff, Nat.reduceEqDiff, Nat.reducePow, Int.reduceToNat, Int.reducePow, Int.reduceAdd, Int.reduceSub, Int.reduceMul, Int.reduceLT, Int.reduceLE, Int.reduceEq, Int.reduceNeg, row_rw g', sx.len])
  refine wp_ite (fun c => ?_) (fun c => ?_)
  · (try simp -dsimp (disch := omega) only [↓pre, sp, sp2, wp_some, Int.cast_ofNat_Int, Nat.reduceAdd, Nat.reduceMul, Nat.reduceSub, Nat.reduceLeDiff, Nat.reduceEqDiff, Nat.reducePow, Int.reduceToNat, Int.reducePow, Int.reduceAdd, Int.reduceSub, Int.reduceMul, Int.reduceLT, Int.reduceLE, Int.reduceEq, Int.reduceNeg])
    have e : layM s j scan l = (s, j, 90) := by unfold layM; rw [if_pos (by omega)]
    rw [e]
    exact ⟨rfl, t, g, Ke.refl w⟩
  have hlen : l.length = j.n := by omega
  have hroom : 28 + 8 * l.length ≤ s.size := by
    unfold roomM at hn; split at hn <;> omega
  (try simp -dsimp (disch := omega) only [↓pre, sp, sp2, wp_some, Int.cast_ofNat_Int, Nat.reduceAdd, Nat.reduceMul, Nat.reduceSub, Nat.reduceLeDiff, Nat.reduceEqDiff, Nat.reducePow, Int.reduceToNat, Int.reducePow, Int.reduceAdd, Int.reduceSub, Int.reduceMul, Int.reduceLT, Int.reduceLE, Int.reduceEq, Int.reduceNeg, row_rw g'])
  refine wp_kJ (fun y h1 => h = h1 ∧ y = [.int .i64 (layAt j : Nat)]) (fun jj hjj => ?_) ?_
  · (try simp -dsimp (disch := omega) only [↓pre, sp, sp2, wp_some, Int.cast_ofNat_Int, Nat.reduceAdd, Nat.reduceMul, Nat.reduceSub, Nat.reduceLeDiff, Nat.reduceEqDiff, Nat.reducePow, Int.reduceToNat, Int.reducePow, Int.reduceAdd, Int.reduceSub, Int.reduceMul, Int.reduceLT, Int.reduceLE, Int.reduceEq, Int.reduceNeg])
    refine wp_ite (fun c2 => ?_) (fun c2 => ?_)
    · refine hjj _ _ ⟨rfl, by rw [layAt, if_pos c2]; rfl⟩
    · refine hjj _ _ ⟨rfl, ?_⟩
      rw [layAt, if_neg c2]
      congr 2
      omega
  rintro _ _ ⟨rfl, rfl⟩
  have hla : layAt j ≤ 1 := by unfold layAt; split <;> omega
  (try simp -dsimp (disch := omega) only [↓pre, sp, sp2, wp_some, Int.cast_ofNat_Int, Nat.reduceAdd, Nat.reduceMul, Nat.reduceSub, Nat.reduceLeDiff, Nat.reduceEqDiff, Nat.reducePow, Int.reduceToNat, Int.reducePow, Int.reduceAdd, Int.reduceSub, Int.reduceMul, Int.reduceLT, Int.reduceLE, Int.reduceEq, Int.reduceNeg, row_rw g'])
  refine Wp.bind (numbered_spec H (n + 1) w (x := j.next) (by omega)) fun v1 h1 ⟨k1, o1, f1⟩ => ?_
  have hlw : IntKind.wrap .u64 (l.length : Int) = (l.length : Int) := wr_u64 (by omega) (by omega)
  (try simp -dsimp (disch := omega) only [↓pre, sp, sp2, wp_some, Int.cast_ofNat_Int, Nat.reduceAdd, Nat.reduceMul, Nat.reduceSub, Nat.reduceLeDiff, Nat.reduceEqDiff, Nat.reducePow, Int.reduceToNat, Int.reducePow, Int.reduceAdd, Int.reduceSub, Int.reduceMul, Int.reduceLT, Int.reduceLE, Int.reduceEq, Int.reduceNeg, sx.len, hlw])
  refine Wp.bind (put_spec H (n + 2) k1.w' o1 (by rw [numB_len]; omega) (x := l.length) (by omega) (k := 4) (by omega)) fun v2 h2 ⟨k2, o2, f2⟩ => ?_
  (try simp -dsimp (disch := omega) only [↓pre, sp, sp2, wp_some, Int.cast_ofNat_Int, Nat.reduceAdd, Nat.reduceMul, Nat.reduceSub, Nat.reduceLeDiff, Nat.reduceEqDiff, Nat.reducePow, Int.reduceToNat, Int.reducePow, Int.reduceAdd, Int.reduceSub, Int.reduceMul, Int.reduceLT, Int.reduceLE, Int.reduceEq, Int.reduceNeg])
  refine Wp.bind (put_spec H (n + 2) k2.w' o2 (by rw [List.length_append, numB_len, beN_len]; omega) (x := scan) (by omega) (k := 8) (by omega)) fun v3 h3 ⟨k3, o3, f3⟩ => ?_
  have fr1 : ∀ i, isBk v1 i → h.n ≤ i := f1
  have fr2 : ∀ i, isBk v2 i → h.n ≤ i := fun i hi => (f2 i hi).elim (fr1 i) fun f => by have := k1.n; omega
  have fr3 : ∀ i, isBk v3 i → h.n ≤ i := fun i hi => (f3 i hi).elim (fr2 i) fun f => by have := k1.n; have := k2.n; omega
  have k03 : Kp h h3 := Ke.new_p (Ke.new_p k1 k2 fr1) k3 fr2
  (try simp -dsimp (disch := omega) only [↓pre, sp, sp2, wp_some, Int.cast_ofNat_Int, Nat.reduceAdd, Nat.reduceMul, Nat.reduceSub, Nat.reduceLeDiff, Nat.reduceEqDiff, Nat.reducePow, Int.reduceToNat, Int.reducePow, Int.reduceAdd, Int.reduceSub, Int.reduceMul, Int.reduceLT, Int.reduceLE, Int.reduceEq, Int.reduceNeg, sx.len])
  refine wp_loop (fun m y h4 => ∃ (i : Nat) (bv : AVal), y = [bv, .int .i64 i] ∧ i + m = l.length ∧ Kp h h4 ∧ Ob h4 bv (numB j.next ++ beN l.length 4 ++ beN scan 8 ++ numsB (l.take i)) ∧ ∀ i, isBk bv i → h.n ≤ i) l.length (by omega)
    ⟨0, v3, rfl, by omega, k03, by simpa [numsB] using o3, fr3⟩ ?_
  rintro m _ h4 jj ⟨i, bv, rfl, him, k4, o4, f4⟩ hj
  unfold L_retain_Journal_Lay_0
  have sx4 := sx.kp k4
  (try simp -dsimp (disch := omega) only [↓pre, sp, sp2, wp_some, Int.cast_ofNat_Int, Nat.reduceAdd, Nat.reduceMul, Nat.reduceSub, Nat.reduceLeDiff, Nat.reduceEqDiff, Nat.reducePow, Int.reduceToNat, Int.reducePow, Int.reduceAdd, Int.reduceSub, Int.reduceMul, Int.reduceLT, Int.reduceLE, Int.reduceEq, Int.reduceNeg])
  refine wp_ite (fun c2 => ?_) (fun c2 => ?_)
  · have hi : i < l.length := by omega
    have hld : rLoad (ea x i) h4 = some (.int .i64 (l.getD i 0)) := by
      rw [sx4.ld (by rw [i64s_len]; exact hi)]
      simp [i64s, hi]
    have ei : IntKind.wrap .i64 ((i : Int) + 1) = ((i + 1 : Nat) : Int) := by rw [wr_i64 (by omega) (by omega)]; omega
    (try simp -dsimp (disch := omega) only [↓pre, sp, sp2, wp_some, Int.cast_ofNat_Int, Nat.reduceAdd, Nat.reduceMul, Nat.reduceSub, Nat.reduceLeDiff, Nat.reduceEqDiff, Nat.reducePow, Int.reduceToNat, Int.reducePow, Int.reduceAdd, Int.reduceSub, Int.reduceMul, Int.reduceLT, Int.reduceLE, Int.reduceEq, Int.reduceNeg, sx4.at, hld, u64_eq])
    refine Wp.bind (put_spec H (n + 2) k4.w' o4 (by simp only [List.length_append, numB_len, beN_len, numsB_len, List.length_take]; omega) (x := u64 (l.getD i 0)) (u64_lt _) (k := 8) (by omega)) fun v5 h5 ⟨k5, o5, f5⟩ => ?_
    (try simp -dsimp (disch := omega) only [↓pre, sp, sp2, wp_some, Int.cast_ofNat_Int, Nat.reduceAdd, Nat.reduceMul, Nat.reduceSub, Nat.reduceLeDiff, Nat.reduceEqDiff, Nat.reducePow, Int.reduceToNat, Int.reducePow, Int.reduceAdd, Int.reduceSub, Int.reduceMul, Int.reduceLT, Int.reduceLE, Int.reduceEq, Int.reduceNeg, ei])
    refine hj (m - 1) _ _ (by omega) ⟨i + 1, v5, rfl, by omega, Ke.new_p k4 k5 f4, ?_, fun i hi => (f5 i hi).elim (f4 i) fun f => by have := k4.n; omega⟩
    rw [numsB_take hi]
    simpa only [List.append_assoc] using o5
  obtain rfl : i = l.length := by omega
  rw [List.take_length] at o4
  have o4' : Ob h4 bv (bodyB j.next scan l) := o4
  have hb4 := bodyB_len j.next scan l
  have hss := s32_lt (bodyB j.next scan l)
  have hsw : IntKind.wrap .u64 (s32 (bodyB j.next scan l) : Int) = (s32 (bodyB j.next scan l) : Int) := wr_u64 (by omega) (by omega)
  (try simp -dsimp (disch := omega) only [↓pre, sp, sp2, wp_some, Int.cast_ofNat_Int, Nat.reduceAdd, Nat.reduceMul, Nat.reduceSub, Nat.reduceLeDiff, Nat.reduceEqDiff, Nat.reducePow, Int.reduceToNat, Int.reducePow, Int.reduceAdd, Int.reduceSub, Int.reduceMul, Int.reduceLT, Int.reduceLE, Int.reduceEq, Int.reduceNeg, s32_spec H (n + 2) o4'.bs (by omega), hsw])
  refine Wp.bind (put_spec H (n + 2) k4.w' o4' (by omega) (x := s32 (bodyB j.next scan l)) (by omega) (k := 4) (by omega)) fun v7 h7 ⟨k7, o7, f7⟩ => ?_
  have fr7 : ∀ i, isBk v7 i → h.n ≤ i := fun i hi => (f7 i hi).elim (f4 i) fun f => by have := k4.n; omega
  have k07 : Kp h h7 := Ke.new_p k4 k7 f4
  have g7 := g.kp k07
  have g7' := k07.gt g'
  (try simp -dsimp (disch := omega) only [↓pre, sp, sp2, wp_some, Int.cast_ofNat_Int, Nat.reduceAdd, Nat.reduceMul, Nat.reduceSub, Nat.reduceLeDiff, Nat.reduceEqDiff, Nat.reducePow, Int.reduceToNat, Int.reducePow, Int.reduceAdd, Int.reduceSub, Int.reduceMul, Int.reduceLT, Int.reduceLE, Int.reduceEq, Int.reduceNeg, row_rw g7'])
  refine Wp.bind (block_spec H (n + 1) k07.w' (t.kp k07) g7 o7 (by rw [List.length_append, beN_len, hb4]; omega)) fun v8 h8 ⟨k8, o8, f8⟩ => ?_
  have fr8 : ∀ i, isBk v8 i → h.n ≤ i := fun i hi => (f8 i hi).elim (fr7 i) fun f => by have := k07.n; omega
  have k08 : Kp h h8 := Ke.new_p k07 k8 fr7
  have esb : bodyB j.next scan l ++ beN (s32 (bodyB j.next scan l)) 4 ++ List.replicate (s.size - (bodyB j.next scan l ++ beN (s32 (bodyB j.next scan l)) 4).length) 0 = slotBytes s.size j.next scan l := by
    rw [slotBytes, List.length_append, beN_len, hb4, show 24 + 8 * l.length + 4 = 28 + 8 * l.length by omega]
  rw [esb] at o8
  have g8' := k08.gt g'
  (try simp -dsimp (disch := omega) only [↓pre, sp, sp2, wp_some, Int.cast_ofNat_Int, Nat.reduceAdd, Nat.reduceMul, Nat.reduceSub, Nat.reduceLeDiff, Nat.reduceEqDiff, Nat.reducePow, Int.reduceToNat, Int.reducePow, Int.reduceAdd, Int.reduceSub, Int.reduceMul, Int.reduceLT, Int.reduceLE, Int.reduceEq, Int.reduceNeg, row_rw g8'])
  have nm : ∀ {v : AVal} {hh : AH} {c : List UInt8}, Ob hh v c → 0 < c.length → (∀ i, isBk v i → h.n ≤ i) → ¬ Mine p lv vs (bk v) := fun o hc hf hm => by
    have h1 := hf _ (Ow.bkIs o hc)
    have h2 := t.lt w hm
    omega
  have t8 := t.kp k08
  refine Wp.bind (write_store_spec H (n + 1) k08.w' t8 (layAt j) o8.bs (.inr (nm o8 (by rw [slotBytes_len hroom]; omega) fr8)) (by omega)) fun v9 h9 ⟨e9, t9, k9⟩ => ?_
  subst e9
  have g9 : Jr h9 q p j := (g.kp k08).ke k9 hq
  have g9' : h9.get q = some ⟨.row [.ptr (some (p, 0)), .int .i64 j.n, .int .u64 j.scan, .int .i64 j.at_, .int .u64 j.next, .int .u64 j.laid] T_retain_Journal false, .rw, []⟩ := g9
  have km : ∀ {a b : AH}, Ke (Mine p lv vs) a b → Ke (fun i => Mine p lv vs i ∨ i = q) a b := fun k => k.mono fun i hi => .inl hi
  have k09 : Ke (fun i => Mine p lv vs i ∨ i = q) h h9 := k08.ke.trans (km k9)
  (try simp -dsimp (disch := omega) only [↓pre, sp, sp2, wp_some, Int.cast_ofNat_Int, Nat.reduceAdd, Nat.reduceMul, Nat.reduceSub, Nat.reduceLeDiff, Nat.reduceEqDiff, Nat.reducePow, Int.reduceToNat, Int.reducePow, Int.reduceAdd, Int.reduceSub, Int.reduceMul, Int.reduceLT, Int.reduceLE, Int.reduceEq, Int.reduceNeg])
  refine wp_ite (fun c3 => ?_) (fun c3 => ?_)
  · (try simp -dsimp (disch := omega) only [↓pre, sp, sp2, wp_some, Int.cast_ofNat_Int, Nat.reduceAdd, Nat.reduceMul, Nat.reduceSub, Nat.reduceLeDiff, Nat.reduceEqDiff, Nat.reducePow, Int.reduceToNat, Int.reducePow, Int.reduceAdd, Int.reduceSub, Int.reduceMul, Int.reduceLT, Int.reduceLE, Int.reduceEq, Int.reduceNeg])
    have e : layM s j scan l = ((writeM s (layAt j) (slotBytes s.size j.next scan l)).1, j, (writeM s (layAt j) (slotBytes s.size j.next scan l)).2) := by unfold layM; rw [if_neg (by omega), if_pos c3]
    rw [e]
    exact ⟨rfl, t9, g9, k09⟩
  have hs1 := writeM_size s (layAt j) (slotBytes s.size j.next scan l)
  have hw1 := writeM_writes s (layAt j) (slotBytes s.size j.next scan l)
  generalize hS1 : (writeM s (layAt j) (slotBytes s.size j.next scan l)).1 = s1 at t9 hs1 hw1
  (try simp -dsimp (disch := omega) only [↓pre, sp, sp2, wp_some, Int.cast_ofNat_Int, Nat.reduceAdd, Nat.reduceMul, Nat.reduceSub, Nat.reduceLeDiff, Nat.reduceEqDiff, Nat.reducePow, Int.reduceToNat, Int.reducePow, Int.reduceAdd, Int.reduceSub, Int.reduceMul, Int.reduceLT, Int.reduceLE, Int.reduceEq, Int.reduceNeg, row_rw g9'])
  refine Wp.bind (numbered_spec H (n + 1) k9.w' (x := j.next) (by omega)) fun v10 h10 ⟨k10, o10, f10⟩ => ?_
  refine Wp.bind (block_spec H (n + 1) k10.w' (t9.kp k10) (g9.kp k10) o10 (by rw [numB_len]; omega)) fun v11 h11 ⟨k11, o11, f11⟩ => ?_
  have hn9 : h.n ≤ h9.n := k09.n
  have fr10 : ∀ i, isBk v10 i → h9.n ≤ i := f10
  have fr11 : ∀ i, isBk v11 i → h9.n ≤ i := fun i hi => (f11 i hi).elim (fr10 i) fun f => by have := k10.n; omega
  have k911 : Kp h9 h11 := Ke.new_p k10 k11 fr10
  rw [numB_len, hs1] at o11
  have hl11 : (numB j.next ++ List.replicate (s.size - 12) 0).length = s.size := by rw [List.length_append, numB_len, List.length_replicate]; omega
  have e12 : IntKind.wrap .i64 (((numB j.next ++ List.replicate (s.size - 12) 0).length : Int) - 1) = ((s.size - 1 : Nat) : Int) := by rw [wr_i64 (by omega) (by omega), hl11]; omega
  (try simp -dsimp (disch := omega) only [↓pre, sp, sp2, wp_some, Int.cast_ofNat_Int, Nat.reduceAdd, Nat.reduceMul, Nat.reduceSub, Nat.reduceLeDiff, Nat.reduceEqDiff, Nat.reducePow, Int.reduceToNat, Int.reducePow, Int.reduceAdd, Int.reduceSub, Int.reduceMul, Int.reduceLT, Int.reduceLE, Int.reduceEq, Int.reduceNeg, o11.bs.len, e12, o11.bs.at])
  refine wp_storeOw k911.w' o11 rfl rfl rfl (by rw [bytesOf_length]; omega) (by rw [bytesOf_length]; omega) rfl fun h12 o12 k12 n12 => ?_
  have e165 : (AVal.int .u8 165) = .int .u8 ((0xA5 : UInt8).toNat : Int) := rfl
  rw [splice_one _ _ _ (by rw [bytesOf_length]; omega), e165, ← bytesOf_set] at o12
  have o12' : Ob h12 v11 (markBytes s.size j.next) := o12.to (by rw [markBytes]) (by rw [markBytes, List.length_set])
  have k912 : Kp h9 h12 := Ke.new_p k911 k12 fr11
  have g12' := k912.gt g9'
  have t12 := t9.kp k912
  have e2i : IntKind.wrap .i64 (2 + (layAt j : Int)) = ((2 + layAt j : Nat) : Int) := by rw [wr_i64 (by omega) (by omega)]; omega
  have nm12 : ¬ Mine p lv vs (bk v11) := fun hm => by
    have h1 := fr11 _ (Ow.bkIs o12' (by rw [markBytes_len (by omega)]; omega))
    have h2 := t.lt w hm
    omega
  (try simp -dsimp (disch := omega) only [↓pre, sp, sp2, wp_some, Int.cast_ofNat_Int, Nat.reduceAdd, Nat.reduceMul, Nat.reduceSub, Nat.reduceLeDiff, Nat.reduceEqDiff, Nat.reducePow, Int.reduceToNat, Int.reducePow, Int.reduceAdd, Int.reduceSub, Int.reduceMul, Int.reduceLT, Int.reduceLE, Int.reduceEq, Int.reduceNeg, row_rw g12', e2i])
  refine Wp.bind (write_store_spec H (n + 1) k912.w' t12 (2 + layAt j : Nat) o12'.bs (.inr nm12) (by omega)) fun v13 h13 ⟨e13, t13, k13⟩ => ?_
  subst e13
  have g13 : Jr h13 q p j := (g9.kp k912).ke k13 hq
  have g13' : h13.get q = some ⟨.row [.ptr (some (p, 0)), .int .i64 j.n, .int .u64 j.scan, .int .i64 j.at_, .int .u64 j.next, .int .u64 j.laid] T_retain_Journal false, .rw, []⟩ := g13
  have k013 : Ke (fun i => Mine p lv vs i ∨ i = q) h h13 := (k09.trans k912.ke).trans (km k13)
  (try simp -dsimp (disch := omega) only [↓pre, sp, sp2, wp_some, Int.cast_ofNat_Int, Nat.reduceAdd, Nat.reduceMul, Nat.reduceSub, Nat.reduceLeDiff, Nat.reduceEqDiff, Nat.reducePow, Int.reduceToNat, Int.reducePow, Int.reduceAdd, Int.reduceSub, Int.reduceMul, Int.reduceLT, Int.reduceLE, Int.reduceEq, Int.reduceNeg])
  refine wp_ite (fun c4 => ?_) (fun c4 => ?_)
  · (try simp -dsimp (disch := omega) only [↓pre, sp, sp2, wp_some, Int.cast_ofNat_Int, Nat.reduceAdd, Nat.reduceMul, Nat.reduceSub, Nat.reduceLeDiff, Nat.reduceEqDiff, Nat.reducePow, Int.reduceToNat, Int.reducePow, Int.reduceAdd, Int.reduceSub, Int.reduceMul, Int.reduceLT, Int.reduceLE, Int.reduceEq, Int.reduceNeg])
    have e : layM s j scan l = ((writeM s1 (2 + layAt j : Nat) (markBytes s.size j.next)).1, j, (writeM s1 (2 + layAt j : Nat) (markBytes s.size j.next)).2) := by
      unfold layM; rw [if_neg (by omega), if_neg (by simpa using c3), hS1, if_pos c4]
    rw [e]
    exact ⟨rfl, t13, g13, k013⟩
  have e : layM s j scan l = ((writeM s1 (2 + layAt j : Nat) (markBytes s.size j.next)).1, { j with scan := scan, at_ := layAt j, next := j.next + 1, laid := j.laid + 1 }, 0) := by
    unfold layM; rw [if_neg (by omega), if_neg (by simpa using c3), hS1, if_neg (by simpa using c4)]
  rw [e]
  (try simp -dsimp (disch := omega) only [↓pre, sp, sp2, wp_some, Int.cast_ofNat_Int, Nat.reduceAdd, Nat.reduceMul, Nat.reduceSub, Nat.reduceLeDiff, Nat.reduceEqDiff, Nat.reducePow, Int.reduceToNat, Int.reducePow, Int.reduceAdd, Int.reduceSub, Int.reduceMul, Int.reduceLT, Int.reduceLE, Int.reduceEq, Int.reduceNeg])
  refine wp_store k13.w' g13' rfl rfl (by simp) rfl fun h14 k14 n14 g14 => ?_
  (try simp -dsimp (disch := omega) only [↓pre, sp, sp2, wp_some, Int.cast_ofNat_Int, Nat.reduceAdd, Nat.reduceMul, Nat.reduceSub, Nat.reduceLeDiff, Nat.reduceEqDiff, Nat.reducePow, Int.reduceToNat, Int.reducePow, Int.reduceAdd, Int.reduceSub, Int.reduceMul, Int.reduceLT, Int.reduceLE, Int.reduceEq, Int.reduceNeg])
  refine wp_store k14.w' g14 rfl rfl (by simp [splice]) rfl fun h15 k15 n15 g15 => ?_
  have g15' : h15.get q = some ⟨.row [.ptr (some (p, 0)), .int .i64 j.n, .int .u64 scan, .int .i64 (layAt j : Nat), .int .u64 j.next, .int .u64 j.laid] T_retain_Journal false, .rw, []⟩ := g15
  have e16 : IntKind.wrap .u64 ((j.next : Int) + 1) = ((j.next + 1 : Nat) : Int) := by rw [wr_u64 (by omega) (by omega)]; omega
  (try simp -dsimp (disch := omega) only [↓pre, sp, sp2, wp_some, Int.cast_ofNat_Int, Nat.reduceAdd, Nat.reduceMul, Nat.reduceSub, Nat.reduceLeDiff, Nat.reduceEqDiff, Nat.reducePow, Int.reduceToNat, Int.reducePow, Int.reduceAdd, Int.reduceSub, Int.reduceMul, Int.reduceLT, Int.reduceLE, Int.reduceEq, Int.reduceNeg, row_rw g15', e16])
  refine wp_store k15.w' g15' rfl rfl (by simp) rfl fun h16 k16 n16 g16 => ?_
  have g16' : Jr h16 q p { j with scan := scan, at_ := layAt j, next := j.next + 1 } := g16
  (try simp -dsimp (disch := omega) only [↓pre, sp, sp2, wp_some, Int.cast_ofNat_Int, Nat.reduceAdd, Nat.reduceMul, Nat.reduceSub, Nat.reduceLeDiff, Nat.reduceEqDiff, Nat.reducePow, Int.reduceToNat, Int.reducePow, Int.reduceAdd, Int.reduceSub, Int.reduceMul, Int.reduceLT, Int.reduceLE, Int.reduceEq, Int.reduceNeg])
  refine Wp.bind (add64u_spec X (n + 1) k16.w' g16' hlaid) fun v17 h17 ⟨k17, g17⟩ => ?_
  have kq : ∀ {a b : AH}, Ke (· = q) a b → Ke (fun i => Mine p lv vs i ∨ i = q) a b := fun k => k.mono fun i hi => .inr hi
  have kqs := ((k14.trans k15).trans k16).trans k17
  refine Wp.ret ⟨rfl, t13.ke kqs fun i hi hh => hq (hh ▸ hi), g17, k013.trans (kq kqs)⟩
end Go.Proofs.Ytbcpmbggidemdaa.AI
