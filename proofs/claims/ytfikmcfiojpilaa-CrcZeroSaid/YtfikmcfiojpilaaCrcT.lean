/- crc: tables of sums, made once; sums of 32 bits. -/
import Derived.Test.YtfikmcfiojpilaaCrc
import Derived.Test.YtfikmcfiojpilaaSync
namespace Go.Proofs.Ytfikmcfiojpilaa.AI
open Go
set_option linter.unusedSimpArgs false
set_option linter.unusedVariables false
variable {ov : AOver} {h : AH} {v b : AVal} {md : AMode} {p off : Nat} {cs : List AVal} {t : TypeId} {ob : Bool} {par : List Nat}

theorem sum32_spec (H : Plain ov) (n : Nat) {l : List UInt8} (s : Bs h v l md) (hl : l.length ≤ 2 ^ 40) : ∃ r, aUn .xor (.int .u32 (crcL32 0xFFFFFFFF#32 l).toNat) = some r ∧ kc ov (n + 1) N_crc_Sum32 [v] h = some (r, h) := by
  refine ⟨_, rfl, Wp.eq ?_⟩
  rw [C_crc_Sum32 H]; unfold F_crc_Sum32
  (try simp -dsimp (disch := omega) only [↓pre, sp, sp2, wp_some, Int.cast_ofNat_Int, Nat.reduceAdd, Nat.reduceMul, Nat.reduceSub, Nat.reduceLeDiff, Nat.reduceEqDiff, Nat.reducePow, Int.reduceToNat, Int.reducePow, Int.reduceAdd, Int.reduceSub, Int.reduceMul, Int.reduceLT, Int.reduceLE, Int.reduceEq, Int.reduceNeg, s.len])
  refine wp_loop (fun m x h1 => ∃ i : Nat, x = [.int .u32 (crcL32 0xFFFFFFFF#32 (l.take i)).toNat, .int .i64 i] ∧ i + m = l.length ∧ h = h1) l.length (by omega) ⟨0, rfl, by omega, rfl⟩ ?_
  rintro m _ _ j ⟨i, rfl, him, rfl⟩ hj
  unfold L_crc_Sum32_1
  (try simp -dsimp (disch := omega) only [↓pre, sp, sp2, wp_some, Int.cast_ofNat_Int, Nat.reduceAdd, Nat.reduceMul, Nat.reduceSub, Nat.reduceLeDiff, Nat.reduceEqDiff, Nat.reducePow, Int.reduceToNat, Int.reducePow, Int.reduceAdd, Int.reduceSub, Int.reduceMul, Int.reduceLT, Int.reduceLE, Int.reduceEq, Int.reduceNeg])
  refine wp_ite (fun c => ?_) (fun c => ?_)
  · have hg := gb_lt l i
    have hx := byte_xor32 (crcL32 0xFFFFFFFF#32 (l.take i)) l i
    (try simp -dsimp (disch := omega) only [↓pre, sp, sp2, wp_some, Int.cast_ofNat_Int, Nat.reduceAdd, Nat.reduceMul, Nat.reduceSub, Nat.reduceLeDiff, Nat.reduceEqDiff, Nat.reducePow, Int.reduceToNat, Int.reducePow, Int.reduceAdd, Int.reduceSub, Int.reduceMul, Int.reduceLT, Int.reduceLE, Int.reduceEq, Int.reduceNeg, s.at, s.ldb, hx])
    refine wp_loop (fun m2 y h1 => ∃ k : Nat, y = [.int .u32 (stepN32 k (crcL32 0xFFFFFFFF#32 (l.take i) ^^^ zx32 (l.getD i 0))).toNat, .int .i64 k] ∧ k + m2 = 8 ∧ h = h1) 8 (by omega) ⟨0, rfl, by omega, rfl⟩ ?_
    rintro m2 _ _ j2 ⟨k, rfl, hkm, rfl⟩ hj2
    unfold L_crc_Sum32_0
    (try simp -dsimp (disch := omega) only [↓pre, sp, sp2, wp_some, Int.cast_ofNat_Int, Nat.reduceAdd, Nat.reduceMul, Nat.reduceSub, Nat.reduceLeDiff, Nat.reduceEqDiff, Nat.reducePow, Int.reduceToNat, Int.reducePow, Int.reduceAdd, Int.reduceSub, Int.reduceMul, Int.reduceLT, Int.reduceLE, Int.reduceEq, Int.reduceNeg])
    refine wp_ite (fun c2 => ?_) (fun c2 => ?_)
    · have hm := bit_mul32 (stepN32 k (crcL32 0xFFFFFFFF#32 (l.take i) ^^^ zx32 (l.getD i 0)))
      have ek : ((k : Int) + 1) = ((k + 1 : Nat) : Int) := by omega
      (try simp -dsimp (disch := omega) only [↓pre, sp, sp2, wp_some, Int.cast_ofNat_Int, Nat.reduceAdd, Nat.reduceMul, Nat.reduceSub, Nat.reduceLeDiff, Nat.reduceEqDiff, Nat.reducePow, Int.reduceToNat, Int.reducePow, Int.reduceAdd, Int.reduceSub, Int.reduceMul, Int.reduceLT, Int.reduceLE, Int.reduceEq, Int.reduceNeg, hm, ek])
      exact hj2 (m2 - 1) _ _ (by omega) ⟨k + 1, rfl, by omega, rfl⟩
    · have ei : ((i : Int) + 1) = ((i + 1 : Nat) : Int) := by omega
      have hk8 : k = 8 := by omega
      subst hk8
      (try simp -dsimp (disch := omega) only [↓pre, sp, sp2, wp_some, Int.cast_ofNat_Int, Nat.reduceAdd, Nat.reduceMul, Nat.reduceSub, Nat.reduceLeDiff, Nat.reduceEqDiff, Nat.reducePow, Int.reduceToNat, Int.reducePow, Int.reduceAdd, Int.reduceSub, Int.reduceMul, Int.reduceLT, Int.reduceLE, Int.reduceEq, Int.reduceNeg, ei])
      exact hj (m - 1) _ _ (by omega) ⟨i + 1, by rw [crcL32_take _ (by omega)], by omega, rfl⟩
  · have : l.take i = l := List.take_of_length_le (by omega)
    rw [this]
    have hu : aUn .xor (.int .u32 (crcL32 0xFFFFFFFF#32 l).toNat) = some _ := rfl
    (try simp -dsimp (disch := omega) only [↓pre, sp, sp2, wp_some, Int.cast_ofNat_Int, Nat.reduceAdd, Nat.reduceMul, Nat.reduceSub, Nat.reduceLeDiff, Nat.reduceEqDiff, Nat.reducePow, Int.reduceToNat, Int.reducePow, Int.reduceAdd, Int.reduceSub, Int.reduceMul, Int.reduceLT, Int.reduceLE, Int.reduceEq, Int.reduceNeg, hu])
theorem rsum32_spec (H : Plain ov) (n : Nat) {l : List UInt8} (s : Bs h v l md) (hl : l.length ≤ 2 ^ 40) {r : AVal} (hr : aUn .xor (.int .u32 (crcL32 0xFFFFFFFF#32 l).toNat) = some r) : kc ov (n + 1) N_rungref2_Sum32 [v] h = some (r, h) := by
  refine Wp.eq ?_
  rw [C_rungref2_Sum32 H]; unfold F_rungref2_Sum32
  (try simp -dsimp (disch := omega) only [↓pre, sp, sp2, wp_some, Int.cast_ofNat_Int, Nat.reduceAdd, Nat.reduceMul, Nat.reduceSub, Nat.reduceLeDiff, Nat.reduceEqDiff, Nat.reducePow, Int.reduceToNat, Int.reducePow, Int.reduceAdd, Int.reduceSub, Int.reduceMul, Int.reduceLT, Int.reduceLE, Int.reduceEq, Int.reduceNeg])
  refine wp_loop (fun m x h1 => ∃ i : Nat, x = [.int .u32 (crcL32 0xFFFFFFFF#32 (l.take i)).toNat, .int .i64 i] ∧ i + m = l.length ∧ h = h1) l.length (by omega) ⟨0, rfl, by omega, rfl⟩ ?_
  rintro m _ _ j ⟨i, rfl, him, rfl⟩ hj
  unfold L_rungref2_Sum32_1
  (try simp -dsimp (disch := omega) only [↓pre, sp, sp2, wp_some, Int.cast_ofNat_Int, Nat.reduceAdd, Nat.reduceMul, Nat.reduceSub, Nat.reduceLeDiff, Nat.reduceEqDiff, Nat.reducePow, Int.reduceToNat, Int.reducePow, Int.reduceAdd, Int.reduceSub, Int.reduceMul, Int.reduceLT, Int.reduceLE, Int.reduceEq, Int.reduceNeg, s.len])
  refine wp_ite (fun c => ?_) (fun c => ?_)
  · have hg := gb_lt l i
    have hx := byte_xor32 (crcL32 0xFFFFFFFF#32 (l.take i)) l i
    (try simp -dsimp (disch := omega) only [↓pre, sp, sp2, wp_some, Int.cast_ofNat_Int, Nat.reduceAdd, Nat.reduceMul, Nat.reduceSub, Nat.reduceLeDiff, Nat.reduceEqDiff, Nat.reducePow, Int.reduceToNat, Int.reducePow, Int.reduceAdd, Int.reduceSub, Int.reduceMul, Int.reduceLT, Int.reduceLE, Int.reduceEq, Int.reduceNeg, s.at, s.ldb, hx])
    refine wp_loop (fun m2 y h1 => ∃ k : Nat, y = [.int .u32 (stepN32 k (crcL32 0xFFFFFFFF#32 (l.take i) ^^^ zx32 (l.getD i 0))).toNat, .int .i64 k] ∧ k + m2 = 8 ∧ h = h1) 8 (by omega) ⟨0, rfl, by omega, rfl⟩ ?_
    rintro m2 _ _ j2 ⟨k, rfl, hkm, rfl⟩ hj2
    unfold L_rungref2_Sum32_0
    have ha := bit_and32 (stepN32 k (crcL32 0xFFFFFFFF#32 (l.take i) ^^^ zx32 (l.getD i 0)))
    (try simp -dsimp (disch := omega) only [↓pre, sp, sp2, wp_some, Int.cast_ofNat_Int, Nat.reduceAdd, Nat.reduceMul, Nat.reduceSub, Nat.reduceLeDiff, Nat.reduceEqDiff, Nat.reducePow, Int.reduceToNat, Int.reducePow, Int.reduceAdd, Int.reduceSub, Int.reduceMul, Int.reduceLT, Int.reduceLE, Int.reduceEq, Int.reduceNeg, ha])
    refine wp_ite (fun c2 => ?_) (fun c2 => ?_)
    · have ek : ((k : Int) + 1) = ((k + 1 : Nat) : Int) := by omega
      generalize hT : stepN32 k (crcL32 0xFFFFFFFF#32 (l.take i) ^^^ zx32 (l.getD i 0)) = T
      refine wp_kJ (fun y h1 => h = h1 ∧ y = [.int .u32 (stepB32 T).toNat]) (fun j3 hj3 => ?_) ?_
      · cases hb : T.getLsbD 0 with
        | true =>
          have e1 := bit_one32 T hb
          simp only [if_true]
          (try simp -dsimp (disch := omega) only [↓pre, sp, sp2, wp_some, Int.cast_ofNat_Int, Nat.reduceAdd, Nat.reduceMul, Nat.reduceSub, Nat.reduceLeDiff, Nat.reduceEqDiff, Nat.reducePow, Int.reduceToNat, Int.reducePow, Int.reduceAdd, Int.reduceSub, Int.reduceMul, Int.reduceLT, Int.reduceLE, Int.reduceEq, Int.reduceNeg, e1, decide_true])
          exact hj3 _ _ ⟨rfl, rfl⟩
        | false =>
          have e1 := bit_none32 T hb
          have hne : ¬ ((0 : Int) = 1) := by omega
          simp only [Bool.false_eq_true, if_false, hne, decide_false]
          (try simp -dsimp (disch := omega) only [↓pre, sp, sp2, wp_some, Int.cast_ofNat_Int, Nat.reduceAdd, Nat.reduceMul, Nat.reduceSub, Nat.reduceLeDiff, Nat.reduceEqDiff, Nat.reducePow, Int.reduceToNat, Int.reducePow, Int.reduceAdd, Int.reduceSub, Int.reduceMul, Int.reduceLT, Int.reduceLE, Int.reduceEq, Int.reduceNeg, e1])
          exact hj3 _ _ ⟨rfl, rfl⟩
      · rintro _ _ ⟨rfl, rfl⟩
        (try simp -dsimp (disch := omega) only [↓pre, sp, sp2, wp_some, Int.cast_ofNat_Int, Nat.reduceAdd, Nat.reduceMul, Nat.reduceSub, Nat.reduceLeDiff, Nat.reduceEqDiff, Nat.reducePow, Int.reduceToNat, Int.reducePow, Int.reduceAdd, Int.reduceSub, Int.reduceMul, Int.reduceLT, Int.reduceLE, Int.reduceEq, Int.reduceNeg, ek])
        exact hj2 (m2 - 1) _ _ (by omega) ⟨k + 1, by rw [← hT]; rfl, by omega, rfl⟩
    · have ei : ((i : Int) + 1) = ((i + 1 : Nat) : Int) := by omega
      have hk8 : k = 8 := by omega
      subst hk8
      (try simp -dsimp (disch := omega) only [↓pre, sp, sp2, wp_some, Int.cast_ofNat_Int, Nat.reduceAdd, Nat.reduceMul, Nat.reduceSub, Nat.reduceLeDiff, Nat.reduceEqDiff, Nat.reducePow, Int.reduceToNat, Int.reducePow, Int.reduceAdd, Int.reduceSub, Int.reduceMul, Int.reduceLT, Int.reduceLE, Int.reduceEq, Int.reduceNeg, ei])
      exact hj (m - 1) _ _ (by omega) ⟨i + 1, by rw [crcL32_take _ (by omega)], by omega, rfl⟩
  · have : l.take i = l := List.take_of_length_le (by omega)
    rw [this]
    (try simp -dsimp (disch := omega) only [↓pre, sp, sp2, wp_some, Int.cast_ofNat_Int, Nat.reduceAdd, Nat.reduceMul, Nat.reduceSub, Nat.reduceLeDiff, Nat.reduceEqDiff, Nat.reducePow, Int.reduceToNat, Int.reducePow, Int.reduceAdd, Int.reduceSub, Int.reduceMul, Int.reduceLT, Int.reduceLE, Int.reduceEq, Int.reduceNeg, hr])

theorem manyT_one (n : Nat) (x : AVal) : manyT n [x] = List.replicate n x := by
  induction n with
  | zero => rfl
  | succ n ih =>
    simp only [manyT, List.replicate_succ, List.flatten_cons] at ih ⊢
    rw [ih]; rfl
theorem cells_rep (n : Nat) {x : AVal} (h : x.isCell = true) : (List.replicate n x).all AVal.isCell = true := by
  rw [List.all_eq_true]; intro y hy; rw [List.eq_of_mem_replicate hy]; exact h
/-- A table's cells, from off on in the block p. -/
def Tab (h : AH) (p off : Nat) (cs : List AVal) (made : Bool) : Prop :=
  off + 5 ≤ cs.length ∧ cs[off]? = some (.int .u32 (if made then 1 else 0)) ∧ cs[off + 1]? = some (.int .i32 0) ∧ cs[off + 3]? = some (.int .i64 (if made then 1 else 0)) ∧
    (made = true → ∃ v, cs[off + 4]? = some v ∧ Ow h v T_uint16 1 256 tab16 ∧ ∀ i, isBk v i → i ≠ p)
theorem Tab.ke {S : Nat → Prop} {h' : AH} {made : Bool} (d : Tab h p off cs made) (k : Ke S h h') (hS : ∀ v i, cs[off + 4]? = some v → isBk v i → ¬ S i) : Tab h' p off cs made := by
  obtain ⟨h1, h2, h3, h4, h5⟩ := d
  exact ⟨h1, h2, h3, h4, fun m => by obtain ⟨v, e, o, f⟩ := h5 m; exact ⟨v, e, o.ke k (fun i hi => hS v i e hi), f⟩⟩
theorem Tab.kep {h' : AH} {made : Bool} (d : Tab h p off cs made) (k : Ke (· = p) h h') : Tab h' p off cs made := by
  obtain ⟨h1, h2, h3, h4, h5⟩ := d
  exact ⟨h1, h2, h3, h4, fun m => by obtain ⟨v, e, o, f⟩ := h5 m; exact ⟨v, e, o.ke k f, f⟩⟩
theorem Tab.kp {h' : AH} {made : Bool} (d : Tab h p off cs made) (k : Kp h h') : Tab h' p off cs made := d.ke k fun _ _ _ _ f => f
theorem add64_spec (X : Xs ov) (n : Nat) (w : Wf h) {x y : Int} (g : h.get p = some ⟨.row cs t ob, .rw, par⟩) (hx : cs[off]? = some (.int .i64 x)) :
    Wp (kc ov (n + 2) N_sync_atomic_Int64_Add [.ptr (some (p, off)), .int .i64 y] h) fun r h1 => r = .int .i64 (IntKind.wrap .i64 (x + y)) ∧ Ke (· = p) h h1 ∧ h1.n = h.n ∧ h1.get p = some ⟨.row (splice cs off [.int .i64 (IntKind.wrap .i64 (x + y))]) t ob, .rw, []⟩ := by
  have c := ov_call (h := h) (n := n) X.sync_atomic_AddInt64 [.ptr (some (p, off)), .int .i64 y]
  rw [C_sync_atomic_Int64_Add X.p]; unfold F_sync_atomic_Int64_Add
  (try simp -dsimp (disch := omega) only [↓pre, sp, sp2, wp_some, Int.cast_ofNat_Int, Nat.reduceAdd, Nat.reduceMul, Nat.reduceSub, Nat.reduceLeDiff, Nat.reduceEqDiff, Nat.reducePow, Int.reduceToNat, Int.reducePow, Int.reduceAdd, Int.reduceSub, Int.reduceMul, Int.reduceLT, Int.reduceLE, Int.reduceEq, Int.reduceNeg, c, Nat.add_zero])
  refine Wp.bind (xAdd_wp w g hx) fun v1 h1 q => ?_
  exact Wp.ret q
theorem made_spec (X : Xs ov) (n : Nat) {made : Bool} (hr : h.row p = some cs) (d : Tab h p off cs made) : kc ov (n + 3) N_crc_Table_Made [.ptr (some (p, off))] h = some (.int .i64 (if made then 1 else 0), h) := by
  obtain ⟨h1, h2, h3, h4, h5⟩ := d
  have c := ov_call (h := h) (n := n) X.sync_atomic_LoadInt64 [.ptr (some (p, off + 3))]
  rw [xLoad_eq hr h4] at c
  have e : kc ov (n + 2) N_sync_atomic_Int64_Load [.ptr (some (p, off + 3))] h = some (.int .i64 (if made then 1 else 0), h) := by
    rw [C_sync_atomic_Int64_Load X.p]; unfold F_sync_atomic_Int64_Load
    (try simp -dsimp (disch := omega) only [↓pre, sp, sp2, wp_some, Int.cast_ofNat_Int, Nat.reduceAdd, Nat.reduceMul, Nat.reduceSub, Nat.reduceLeDiff, Nat.reduceEqDiff, Nat.reducePow, Int.reduceToNat, Int.reducePow, Int.reduceAdd, Int.reduceSub, Int.reduceMul, Int.reduceLT, Int.reduceLE, Int.reduceEq, Int.reduceNeg, c, Nat.add_zero])
  rw [C_crc_Table_Made X.p]; unfold F_crc_Table_Made
  (try simp -dsimp (disch := omega) only [↓pre, sp, sp2, wp_some, Int.cast_ofNat_Int, Nat.reduceAdd, Nat.reduceMul, Nat.reduceSub, Nat.reduceLeDiff, Nat.reduceEqDiff, Nat.reducePow, Int.reduceToNat, Int.reducePow, Int.reduceAdd, Int.reduceSub, Int.reduceMul, Int.reduceLT, Int.reduceLE, Int.reduceEq, Int.reduceNeg, e])
/-- The sums are made. -/
theorem make16_spec (X : Xs ov) (n : Nat) (w : Wf h) (g : h.get p = some ⟨.row cs t ob, .rw, par⟩) (hlen : off + 5 ≤ cs.length) (hx : cs[off + 3]? = some (.int .i64 0)) :
    Wp (kc ov (n + 3) N_crc_Table_make16 [.ptr (some (p, off))] h) fun r h' => Ke (· = p) h h' ∧ ∃ v par2, h'.get p = some ⟨.row ((cs.set (off + 4) v).set (off + 3) (.int .i64 1)) t ob, .rw, par2⟩ ∧ Ow h' v T_uint16 1 256 tab16 ∧ ∀ i, isBk v i → h.n ≤ i := by
  have hp := w.lt _ _ g
  rw [C_crc_Table_make16 X.p]; unfold F_crc_Table_make16
  refine wp_makeSl w (by omega) (by omega) (by omega) (by omega) rfl (by omega) rfl fun q h1 hq k1 n1 g1 => ?_
  have o1 : Ow h1 (.slice (some (q, 0, 1)) 256 256) T_uint16 1 256 (List.replicate 256 (.int .u16 0)) := by
    have e256 : (256 : Int).toNat = 256 := rfl
    rw [e256, manyT_one] at g1
    exact Ow.new g1 (by omega) 256 (by rw [List.length_replicate]) (cells_rep 256 rfl)
  (try simp -dsimp (disch := omega) only [↓pre, sp, sp2, wp_some, Int.cast_ofNat_Int, Nat.reduceAdd, Nat.reduceMul, Nat.reduceSub, Nat.reduceLeDiff, Nat.reduceEqDiff, Nat.reducePow, Int.reduceToNat, Int.reducePow, Int.reduceAdd, Int.reduceSub, Int.reduceMul, Int.reduceLT, Int.reduceLE, Int.reduceEq, Int.reduceNeg])
  refine wp_loop (fun m l h2 => ∃ (i : Nat) (c : List AVal), l = [.int .i64 i] ∧ i + m = 256 ∧ Kp h h2 ∧ Ow h2 (.slice (some (q, 0, 1)) 256 256) T_uint16 1 256 c ∧ c.take i = tab16.take i) 256 (by omega)
    ⟨0, _, rfl, by omega, k1, o1, by simp⟩ ?_
  rintro m _ h2 j ⟨i, c, rfl, him, k2, o2, ht⟩ hj
  have hcl : c.length = 256 := (Ow.rd o2).clen
  unfold L_crc_Table_make16_0
  (try simp -dsimp (disch := omega) only [↓pre, sp, sp2, wp_some, Int.cast_ofNat_Int, Nat.reduceAdd, Nat.reduceMul, Nat.reduceSub, Nat.reduceLeDiff, Nat.reduceEqDiff, Nat.reducePow, Int.reduceToNat, Int.reducePow, Int.reduceAdd, Int.reduceSub, Int.reduceMul, Int.reduceLT, Int.reduceLE, Int.reduceEq, Int.reduceNeg])
  refine wp_ite (fun c1 => ?_) (fun c1 => ?_)
  · have hw : ((i : Nat) : Int) = ((BitVec.ofNat 16 i).toNat : Int) := by rw [BitVec.toNat_ofNat]; omega
    have hs : kc ov (n + 2) N_crc_step16 [.int .u16 (i : Int)] h2 = some (.int .u16 (stepN 8 (BitVec.ofNat 16 i)).toNat, h2) := by rw [hw]; exact step16_spec X.p (n + 1) _
    have hwi : IntKind.wrap .u16 (i : Int) = (i : Int) := wr_u16' (by omega) (by omega)
    (try simp -dsimp (disch := omega) only [↓pre, sp, sp2, wp_some, Int.cast_ofNat_Int, Nat.reduceAdd, Nat.reduceMul, Nat.reduceSub, Nat.reduceLeDiff, Nat.reduceEqDiff, Nat.reducePow, Int.reduceToNat, Int.reducePow, Int.reduceAdd, Int.reduceSub, Int.reduceMul, Int.reduceLT, Int.reduceLE, Int.reduceEq, Int.reduceNeg, hwi, hs, (Ow.rd o2).at])
    refine wp_storeOw k2.w' o2 rfl rfl rfl (by omega) (by omega) rfl fun h3 o3 k3 n3 => ?_
    rw [splice_one _ _ _ (by omega)] at o3
    have ei : ((i : Int) + 1) = ((i + 1 : Nat) : Int) := by omega
    (try simp -dsimp (disch := omega) only [↓pre, sp, sp2, wp_some, Int.cast_ofNat_Int, Nat.reduceAdd, Nat.reduceMul, Nat.reduceSub, Nat.reduceLeDiff, Nat.reduceEqDiff, Nat.reducePow, Int.reduceToNat, Int.reducePow, Int.reduceAdd, Int.reduceSub, Int.reduceMul, Int.reduceLT, Int.reduceLE, Int.reduceEq, Int.reduceNeg, ei])
    refine hj (m - 1) _ _ (by omega) ⟨i + 1, _, rfl, by omega, Ke.new_p k2 k3 (fun i hi => by simp only [isBk] at hi; omega), o3, ?_⟩
    have hi : i < 256 := by omega
    have e1 : (c.set i (.int .u16 ((stepN 8 (BitVec.ofNat 16 i)).toNat : Int))).take (i + 1) = c.take i ++ [.int .u16 ((stepN 8 (BitVec.ofNat 16 i)).toNat : Int)] := by
      rw [List.take_succ_eq_append_getElem (by rw [List.length_set]; omega), List.take_set_of_le (Nat.le_refl i)]
      simp
    rw [e1, ht, List.take_succ_eq_append_getElem (by rw [tab16_len]; omega)]
    congr 2
    have := tab16_at hi
    rw [List.getElem?_eq_getElem (by rw [tab16_len]; omega)] at this
    exact (Option.some.inj this).symm
  · have hi : i = 256 := by omega
    subst hi
    rw [List.take_of_length_le (by omega), List.take_of_length_le (by rw [tab16_len]; omega)] at ht
    subst ht
    have g2 := k2.gt g
    (try simp -dsimp (disch := omega) only [↓pre, sp, sp2, wp_some, Int.cast_ofNat_Int, Nat.reduceAdd, Nat.reduceMul, Nat.reduceSub, Nat.reduceLeDiff, Nat.reduceEqDiff, Nat.reducePow, Int.reduceToNat, Int.reducePow, Int.reduceAdd, Int.reduceSub, Int.reduceMul, Int.reduceLT, Int.reduceLE, Int.reduceEq, Int.reduceNeg])
    refine wp_store k2.w' g2 rfl rfl (by omega) rfl fun h3 k3 n3 g3 => ?_
    rw [splice_one _ _ _ (by omega)] at g3
    have hx3 : (cs.set (off + 4) (.slice (some (q, 0, 1)) 256 256))[off + 3]? = some (.int .i64 0) := by rw [List.getElem?_set_ne (by omega)]; exact hx
    (try simp -dsimp (disch := omega) only [↓pre, sp, sp2, wp_some, Int.cast_ofNat_Int, Nat.reduceAdd, Nat.reduceMul, Nat.reduceSub, Nat.reduceLeDiff, Nat.reduceEqDiff, Nat.reducePow, Int.reduceToNat, Int.reducePow, Int.reduceAdd, Int.reduceSub, Int.reduceMul, Int.reduceLT, Int.reduceLE, Int.reduceEq, Int.reduceNeg])
    refine Wp.bind (add64_spec X n k3.w' g3 hx3) fun v4 h4 ⟨e4, k4, n4, g4⟩ => ?_
    have ew : IntKind.wrap .i64 ((0 : Int) + 1) = 1 := by decide
    rw [ew, splice_one _ _ _ (by rw [List.length_set]; omega)] at g4
    refine Wp.ret ⟨(k2.ke.trans k3).trans k4, _, _, g4, (o2.ke k3 fun i hi hh => ?_).ke k4 fun i hi hh => ?_, fun i hi => ?_⟩
    · simp only [isBk] at hi; omega
    · simp only [isBk] at hi; omega
    · simp only [isBk] at hi; omega
/-- A table's sum. -/
theorem tsum_spec (X : Xs ov) (n : Nat) (w : Wf h) {made : Bool} (g : h.get p = some ⟨.row cs t ob, .rw, par⟩) (d : Tab h p off cs made) {l : List UInt8} (s : Bs h b l md) (hs : md = .ro ∨ ¬ bk b = p) (hl : l.length ≤ 2 ^ 40) :
    Wp (kc ov (n + 7) N_crc_Table_Sum16 [.ptr (some (p, off)), b] h) fun r h' => r = .int .u16 (crc16 l).toNat ∧ Ke (· = p) h h' ∧ ∃ cs' par', h'.get p = some ⟨.row cs' t ob, .rw, par'⟩ ∧ Tab h' p off cs' true ∧ cs'.length = cs.length ∧ (∀ k, k < off ∨ off + 5 ≤ k → cs'[k]? = cs[k]?) ∧ ∀ v i, cs'[off + 4]? = some v → isBk v i → h.n ≤ i ∨ cs[off + 4]? = some v := by
  rw [C_crc_Table_Sum16 X.p]; unfold F_crc_Table_Sum16
  have hp := w.lt _ _ g
  have once : Wp (kc ov (n + 6) N_sync_Once_Do [.ptr (some (p, off)), .func (.func N_crc_Table_make16) [.ptr (some (p, off))] []] h) fun r h' => Ke (· = p) h h' ∧ ∃ cs' par', h'.get p = some ⟨.row cs' t ob, .rw, par'⟩ ∧ Tab h' p off cs' true ∧ cs'.length = cs.length ∧ (∀ k, k < off ∨ off + 5 ≤ k → cs'[k]? = cs[k]?) ∧ ∀ v i, cs'[off + 4]? = some v → isBk v i → h.n ≤ i ∨ cs[off + 4]? = some v := by
    cases made with
    | true =>
      have e := once_done X (n + 3) (off := off) (row_rw g) d.2.1 (.func (.func N_crc_Table_make16) [.ptr (some (p, off))] [])
      rw [e]
      exact Wp.ret ⟨Ke.refl w, cs, par, g, d, rfl, fun _ _ => rfl, fun v i hv _ => .inr hv⟩
    | false =>
      obtain ⟨hlen, d1, d2, d3, _⟩ := d
      refine (once_first X n w g d1 d2 (R := fun cs2 h2 => ∃ v, cs2 = ((cs.set (off + 1) (.int .i32 1)).set (off + 4) v).set (off + 3) (.int .i64 1) ∧ Ow h2 v T_uint16 1 256 tab16 ∧ ∀ i, isBk v i → h.n ≤ i) fun h1 k1 n1 g1 => ?_).mono ?_
      · have hc : rCallV (kc ov (n + 4)) (.func (.func N_crc_Table_make16) [.ptr (some (p, off))] []) [] h1 = kc ov (n + 4) N_crc_Table_make16 [.ptr (some (p, off))] h1 := rfl
        rw [hc]
        rw [splice_one _ _ _ (by omega)] at g1
        refine (make16_spec X (n + 1) k1.w' g1 (by rw [List.length_set]; exact hlen) (by rw [List.getElem?_set_ne (by omega)]; exact d3)).mono ?_
        rintro r h2 ⟨k2, v, par2, g2, o2, f2⟩
        refine ⟨k2, _, _, g2, ?_, v, rfl, o2, fun i hi => by have := f2 i hi; omega⟩
        rw [List.getElem?_set_ne (by omega), List.getElem?_set_ne (by omega), List.getElem?_set, if_pos rfl, if_pos (by omega)]
      · rintro r h' ⟨e, k, cs2, h2, k2, ⟨v, rfl, o, f⟩, g'⟩
        rw [splice_one (((cs.set (off + 1) (.int .i32 1)).set (off + 4) v).set (off + 3) (.int .i64 1)) off (.int .u32 1) (by simp; omega), splice_one _ _ _ (by simp; omega)] at g'
        refine ⟨k, _, _, g', ⟨by simp; omega, ?_, ?_, ?_, fun _ => ⟨v, ?_, o.ke k2 fun i hi hh => by have := f i hi; omega, fun i hi hh => by have := f i hi; omega⟩⟩, by simp, fun j hj => ?_, fun u i hu hi => .inl ?_⟩
        · rw [List.getElem?_set_ne (by omega), List.getElem?_set, if_pos rfl, if_pos (by simp; omega)]; rfl
        · rw [List.getElem?_set, if_pos rfl, if_pos (by simp; omega)]
        · rw [List.getElem?_set_ne (by omega), List.getElem?_set_ne (by omega), List.getElem?_set, if_pos rfl, if_pos (by simp; omega)]; rfl
        · rw [List.getElem?_set_ne (by omega), List.getElem?_set_ne (by omega), List.getElem?_set_ne (by omega), List.getElem?_set, if_pos rfl, if_pos (by simp; omega)]
        · rw [List.getElem?_set_ne (by omega), List.getElem?_set_ne (by omega), List.getElem?_set_ne (by omega), List.getElem?_set_ne (by omega), List.getElem?_set_ne (by omega)]
        · rw [List.getElem?_set_ne (by omega), List.getElem?_set_ne (by omega), List.getElem?_set_ne (by omega), List.getElem?_set, if_pos rfl, if_pos (by simp; omega)] at hu
          cases hu
          exact f i hi
  (try simp -dsimp (disch := omega) only [↓pre, sp, sp2, wp_some, Int.cast_ofNat_Int, Nat.reduceAdd, Nat.reduceMul, Nat.reduceSub, Nat.reduceLeDiff, Nat.reduceEqDiff, Nat.reducePow, Int.reduceToNat, Int.reducePow, Int.reduceAdd, Int.reduceSub, Int.reduceMul, Int.reduceLT, Int.reduceLE, Int.reduceEq, Int.reduceNeg, Nat.add_zero])
  refine Wp.bind once fun v1 h1 ⟨k1, cs1, par1, g1, d1, len1, oth1, fr1⟩ => ?_
  obtain ⟨hlen, e0, e1, e3, e4⟩ := d1
  obtain ⟨v, ev, o, f⟩ := e4 rfl
  have s1 := s.ke k1 hs
  (try simp -dsimp (disch := omega) only [↓pre, sp, sp2, wp_some, Int.cast_ofNat_Int, Nat.reduceAdd, Nat.reduceMul, Nat.reduceSub, Nat.reduceLeDiff, Nat.reduceEqDiff, Nat.reducePow, Int.reduceToNat, Int.reducePow, Int.reduceAdd, Int.reduceSub, Int.reduceMul, Int.reduceLT, Int.reduceLE, Int.reduceEq, Int.reduceNeg, s1.len])
  refine wp_loop (fun m y h2 => ∃ i : Nat, y = [.int .u16 (crcL 0xFFFF#16 (l.take i)).toNat, .int .i64 i] ∧ i + m = l.length ∧ h1 = h2) l.length (by omega) ⟨0, rfl, by omega, rfl⟩ ?_
  rintro m _ _ j ⟨i, rfl, him, rfl⟩ hj
  unfold L_crc_Table_Sum16_0
  (try simp -dsimp (disch := omega) only [↓pre, sp, sp2, wp_some, Int.cast_ofNat_Int, Nat.reduceAdd, Nat.reduceMul, Nat.reduceSub, Nat.reduceLeDiff, Nat.reduceEqDiff, Nat.reducePow, Int.reduceToNat, Int.reducePow, Int.reduceAdd, Int.reduceSub, Int.reduceMul, Int.reduceLT, Int.reduceLE, Int.reduceEq, Int.reduceNeg])
  refine wp_ite (fun c => ?_) (fun c => ?_)
  · have hg := gb_lt l i
    generalize hS : crcL 0xFFFF#16 (l.take i) = S
    have e5 := lo8_eq S
    have e6 : iXor .u8 ((lo8' S).toNat : Int) (gb l i : Nat) = ((lo8' S ^^^ l.getD i 0).toNat : Int) := xor_u8 _ _
    have hk := (lo8' S ^^^ l.getD i 0).toNat_lt
    have e7 : rLoad (ea v (lo8' S ^^^ l.getD i 0).toNat) h1 = some (.int .u16 ((stepN 8 (zx (lo8' S ^^^ l.getD i 0))).toNat : Int)) := by
      rw [(Ow.rd o).ld (by rw [tab16_len]; omega), tab16_zx]
    have e8 := table_byte S (l.getD i 0)
    have ei : ((i : Int) + 1) = ((i + 1 : Nat) : Int) := by omega
    (try simp -dsimp (disch := omega) only [↓pre, sp, sp2, wp_some, Int.cast_ofNat_Int, Nat.reduceAdd, Nat.reduceMul, Nat.reduceSub, Nat.reduceLeDiff, Nat.reduceEqDiff, Nat.reducePow, Int.reduceToNat, Int.reducePow, Int.reduceAdd, Int.reduceSub, Int.reduceMul, Int.reduceLT, Int.reduceLE, Int.reduceEq, Int.reduceNeg, s1.at, s1.ldb, row_rw g1, ev, e5, e6, (Ow.rd o).at, e7, e8, ei])
    exact hj (m - 1) _ _ (by omega) ⟨i + 1, by rw [crcL_take _ (by omega), hS], by omega, rfl⟩
  · have : l.take i = l := List.take_of_length_le (by omega)
    rw [this]
    (try simp -dsimp (disch := omega) only [↓pre, sp, sp2, wp_some, Int.cast_ofNat_Int, Nat.reduceAdd, Nat.reduceMul, Nat.reduceSub, Nat.reduceLeDiff, Nat.reduceEqDiff, Nat.reducePow, Int.reduceToNat, Int.reducePow, Int.reduceAdd, Int.reduceSub, Int.reduceMul, Int.reduceLT, Int.reduceLE, Int.reduceEq, Int.reduceNeg])
    exact ⟨rfl, k1, cs1, par1, g1, ⟨hlen, e0, e1, e3, e4⟩, len1, oth1, fr1⟩
end Go.Proofs.Ytfikmcfiojpilaa.AI
