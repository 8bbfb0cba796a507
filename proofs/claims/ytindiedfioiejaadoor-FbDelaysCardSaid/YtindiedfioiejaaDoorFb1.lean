/- Chapter 17: a state's pins and what is kept. -/
import Derived.Test.YtindiedfioiejaaDoorNums
import Derived.Test.YtindiedfioiejaaDoorShift1
import Derived.Test.YtindiedfioiejaaDoorAiFbLaw
namespace Go.Proofs.YtindiedfioiejaaDoor.AI
open Go
set_option linter.unusedSimpArgs false
set_option linter.unusedVariables false
variable {ov : AOver} {h : AH}
def stC (m : Nat) (s : Stt) : List AVal := [.map (some m), .int .i64 s.k0, .int .i64 s.k1, .int .i64 s.k2, .int .i64 s.now]
/-- A state and its map lie in blocks p and m. -/
structure Fs (h : AH) (p m : Nat) (s : Stt) : Prop where
  g : h.get p = some ⟨.row (stC m s) T_fb_state false, .rw, []⟩
  mp : Mp AVal.str (AVal.int .i64) 0 h m s.f
  ne : p ≠ m
abbrev pm (p m : Nat) : Nat → Prop := fun i => i = p ∨ i = m
theorem Fs.ke {S : Nat → Prop} {h' : AH} {p m : Nat} {s : Stt} (t : Fs h p m s) (k : Ke S h h') (hp : ¬ S p) (hm : ¬ S m) : Fs h' p m s := ⟨k.gt t.g hp, t.mp.ke k hm, t.ne⟩
theorem Fs.kp {h' : AH} {p m : Nat} {s : Stt} (t : Fs h p m s) (k : Kp h h') : Fs h' p m s := t.ke k id id
theorem Fs.row {p m : Nat} {s : Stt} (t : Fs h p m s) : h.row p = some [.map (some m), .int .i64 s.k0, .int .i64 s.k1, .int .i64 s.k2, .int .i64 s.now] := row_rw t.g
theorem Fs.look {p m : Nat} {s : Stt} (t : Fs h p m s) (n : Nm) : rLook .string (.int .i64 0) false (.map (some m)) (.str n) h = some (.int .i64 (s.f n)) := t.mp.look keyStr n
theorem fbtruth_spec (H : Plain ov) (n : Nat) (b : Bool) : kc ov (n + 1) N_fb_truth [.bool b] h = some (.int .i64 (tr b), h) := by
  rw [C_fb_truth H]; unfold F_fb_truth; cases b <;> rfl
theorem is_spec (H : Plain ov) (n : Nat) {p m : Nat} {s : Stt} (t : Fs h p m s) (k : Nm) : kc ov (n + 1) N_fb_state_is [.ptr (some (p, 0)), .str k] h = some (.bool (s.is k), h) := by
  refine Wp.eq ?_
  rw [C_fb_state_is H]; unfold F_fb_state_is
  (try simp -dsimp (disch := omega) only [↓pre, sp, sp2, wp_some, Int.cast_ofNat_Int, Nat.reduceAdd, Nat.reduceMul, Nat.reduceSub, Nat.reduceLeDiff, Nat.reduceEqDiff, Nat.reducePow, Int.reduceToNat, Int.reducePow, Int.reduceAdd, Int.reduceSub, Int.reduceMul, Int.reduceLT, Int.reduceLE, Int.reduceEq, Int.reduceNeg, t.row, t.look])
  rfl
theorem pt_spec (H : Plain ov) (n : Nat) {p m : Nat} {s : Stt} (t : Fs h p m s) : kc ov (n + 1) N_fb_state_pt [.ptr (some (p, 0))] h = some (.int .i64 s.pt, h) := by
  refine Wp.eq ?_
  rw [C_fb_state_pt H]; unfold F_fb_state_pt
  (try simp -dsimp (disch := omega) only [↓pre, sp, sp2, wp_some, Int.cast_ofNat_Int, Nat.reduceAdd, Nat.reduceMul, Nat.reduceSub, Nat.reduceLeDiff, Nat.reduceEqDiff, Nat.reducePow, Int.reduceToNat, Int.reducePow, Int.reduceAdd, Int.reduceSub, Int.reduceMul, Int.reduceLT, Int.reduceLE, Int.reduceEq, Int.reduceNeg, t.row, t.look])
  rfl
/-- A pin is set. -/
theorem wp_put {Q : AVal → AH → Prop} {K : AVal → AH → Ans} (w : Wf h) {p m : Nat} {s : Stt} (t : Fs h p m s) (k : Nm) (x : Int)
    (c : ∀ h1, Ke (pm p m) h h1 → h1.n = h.n → Fs h1 p m (s.put k x) → Wp (K (.tuple []) h1) Q) : Wp (ke ((rMapSet .string (.map (some m)) (.str k) (.int .i64 x) h).map fun h' => (.tuple [], h')) K) Q := by
  refine wp_mset (ek := AVal.str) (ev := AVal.int .i64) (z := 0) keyStr w t.mp k x fun h1 k1 n1 m1 => c h1 (k1.mono fun i hi => .inr hi) n1 ⟨k1.gt t.g t.ne, m1, t.ne⟩
/-- An entry is made ready. -/
structure Fn1 (h : AH) (p m : Nat) (s : Stt) (k : Nm) (j : Nat) : Prop where
  st : Fs h p m s
  en : En AVal.str (AVal.int .i64) 0 h m s.f k j
theorem wp_ent {Q : AVal → AH → Prop} {K : AVal → AH → Ans} (w : Wf h) {p m : Nat} {s : Stt} (t : Fs h p m s) (k : Nm)
    (c : ∀ h1 (j : Nat), Ke (pm p m) h h1 → h1.n = h.n → Fn1 h1 p m s k j → Wp (K (.tuple [.int .i64 (s.f k), .int .i64 j]) h1) Q) : Wp (ke (rMapEnt .string (.int .i64 0) (.map (some m)) (.str k) h) K) Q :=
  wp_ment (ek := AVal.str) (ev := AVal.int .i64) (z := 0) keyStr w t.mp k fun h1 j k1 n1 e1 => c h1 j (k1.mono fun i hi => .inr hi) n1 ⟨⟨k1.gt t.g t.ne, e1.mp, t.ne⟩, e1⟩
theorem wp_ents {Q : AVal → AH → Prop} {K : AVal → AH → Ans} (w : Wf h) {p m j : Nat} {s : Stt} {k : Nm} (t : Fn1 h p m s k j) (x : Int)
    (c : ∀ h1, Ke (pm p m) h h1 → h1.n = h.n → Fs h1 p m (s.put k x) → Wp (K (.tuple []) h1) Q) : Wp (ke ((rEntSet (.map (some m)) (.int .i64 j) (.int .i64 x) h).map fun h' => (.tuple [], h')) K) Q :=
  wp_eset (ek := AVal.str) (ev := AVal.int .i64) (z := 0) w t.en x fun h1 k1 n1 m1 => c h1 (k1.mono fun i hi => .inr hi) n1 ⟨k1.gt t.st.g t.st.ne, m1, t.st.ne⟩
/-- One of what is kept is set. -/
theorem wp_keep {Q : AVal → AH → Prop} {K : AVal → AH → Ans} (w : Wf h) {p m : Nat} {s : Stt} (t : Fs h p m s) (i : Nat) (hi : i < 3) (x : Int) {o : Nat} (ho : o = i + 1)
    (c : ∀ h1, Ke (pm p m) h h1 → h1.n = h.n → Fs h1 p m (s.keep i x) → Wp (K (.tuple []) h1) Q) : Wp (ke ((rStore 1 (.ptr (some (p, o))) (.int .i64 x) h).map fun h' => (.tuple [], h')) K) Q := by
  subst ho
  refine wp_store w t.g rfl rfl (by simp [stC]; omega) rfl fun h1 k1 n1 g1 => c h1 (k1.mono fun i hi => .inl hi) n1 ⟨?_, ?_, t.ne⟩
  · rw [g1]
    rcases (by omega : i = 0 ∨ i = 1 ∨ i = 2) with rfl | rfl | rfl <;> rfl
  · have := t.mp.ke k1 (fun e => t.ne e.symm)
    unfold Stt.keep
    split
    · exact this
    · split <;> exact this
theorem set_spec (H : Plain ov) (n : Nat) (w : Wf h) {p m : Nat} {s : Stt} (t : Fs h p m s) (k : Nm) (b : Bool) :
    Wp (kc ov (n + 2) N_fb_state_set [.ptr (some (p, 0)), .str k, .bool b] h) fun r h' => Ke (pm p m) h h' ∧ r = .tuple [] ∧ Fs h' p m (s.set k b) := by
  rw [C_fb_state_set H]; unfold F_fb_state_set
  have et : kc ov (n + 1) N_fb_truth [.bool b] h = some (.int .i64 (tr b), h) := fbtruth_spec H n b
  (try simp -dsimp (disch := omega) only [↓pre, sp, sp2, wp_some, Int.cast_ofNat_Int, Nat.reduceAdd, Nat.reduceMul, Nat.reduceSub, Nat.reduceLeDiff, Nat.reduceEqDiff, Nat.reducePow, Int.reduceToNat, Int.reducePow, Int.reduceAdd, Int.reduceSub, Int.reduceMul, Int.reduceLT, Int.reduceLE, Int.reduceEq, Int.reduceNeg, t.row, et])
  refine wp_put w t k _ fun h1 k1 n1 t1 => ?_
  (try simp -dsimp (disch := omega) only [↓pre, sp, sp2, wp_some, Int.cast_ofNat_Int, Nat.reduceAdd, Nat.reduceMul, Nat.reduceSub, Nat.reduceLeDiff, Nat.reduceEqDiff, Nat.reducePow, Int.reduceToNat, Int.reducePow, Int.reduceAdd, Int.reduceSub, Int.reduceMul, Int.reduceLT, Int.reduceLE, Int.reduceEq, Int.reduceNeg])
  exact ⟨k1, t1⟩
theorem since_spec (H : Plain ov) (n : Nat) (w : Wf h) {p m : Nat} {s : Stt} (t : Fs h p m s) :
    Wp (kc ov (n + 3) N_fb_state_since [.ptr (some (p, 0))] h) fun r h' => Kp h h' ∧ r = .int .i64 s.since := by
  rw [C_fb_state_since H]; unfold F_fb_state_since
  (try simp -dsimp (disch := omega) only [↓pre, sp, sp2, wp_some, Int.cast_ofNat_Int, Nat.reduceAdd, Nat.reduceMul, Nat.reduceSub, Nat.reduceLeDiff, Nat.reduceEqDiff, Nat.reducePow, Int.reduceToNat, Int.reducePow, Int.reduceAdd, Int.reduceSub, Int.reduceMul, Int.reduceLT, Int.reduceLE, Int.reduceEq, Int.reduceNeg, t.row, sp5])
  refine Wp.bind (wrap_spec H n w 4 _ (wrap_I64 _)) fun v h1 ⟨k1, e⟩ => ?_
  subst e
  have t1 := t.kp k1
  (try simp -dsimp (disch := omega) only [↓pre, sp, sp2, wp_some, Int.cast_ofNat_Int, Nat.reduceAdd, Nat.reduceMul, Nat.reduceSub, Nat.reduceLeDiff, Nat.reduceEqDiff, Nat.reducePow, Int.reduceToNat, Int.reducePow, Int.reduceAdd, Int.reduceSub, Int.reduceMul, Int.reduceLT, Int.reduceLE, Int.reduceEq, Int.reduceNeg, t1.row])
  exact ⟨k1, rfl⟩
theorem elapsed_spec (H : Plain ov) (n : Nat) (w : Wf h) {p m : Nat} {s : Stt} (t : Fs h p m s) :
    Wp (kc ov (n + 4) N_fb_state_elapsed [.ptr (some (p, 0))] h) fun r h' => Kp h h' ∧ r = .int .i64 s.elapsed := by
  rw [C_fb_state_elapsed H]; unfold F_fb_state_elapsed
  (try simp -dsimp (disch := omega) only [↓pre, sp, sp2, wp_some, Int.cast_ofNat_Int, Nat.reduceAdd, Nat.reduceMul, Nat.reduceSub, Nat.reduceLeDiff, Nat.reduceEqDiff, Nat.reducePow, Int.reduceToNat, Int.reducePow, Int.reduceAdd, Int.reduceSub, Int.reduceMul, Int.reduceLT, Int.reduceLE, Int.reduceEq, Int.reduceNeg])
  refine Wp.bind (since_spec H n w t) fun v h1 ⟨k1, e⟩ => ?_
  subst e
  have ep := pt_spec H (n + 2) (t.kp k1)
  (try simp -dsimp (disch := omega) only [↓pre, sp, sp2, wp_some, Int.cast_ofNat_Int, Nat.reduceAdd, Nat.reduceMul, Nat.reduceSub, Nat.reduceLeDiff, Nat.reduceEqDiff, Nat.reducePow, Int.reduceToNat, Int.reducePow, Int.reduceAdd, Int.reduceSub, Int.reduceMul, Int.reduceLT, Int.reduceLE, Int.reduceEq, Int.reduceNeg, ep])
  exact ⟨k1, rfl⟩
theorem rises_spec (H : Plain ov) (n : Nat) (w : Wf h) {p m : Nat} {s : Stt} (t : Fs h p m s) (k : Nm) (i : Nat) (hi : i < 3) :
    Wp (kc ov (n + 2) N_fb_state_rises [.ptr (some (p, 0)), .str k, .int .i64 i] h) fun r h' => Ke (pm p m) h h' ∧ r = .bool (s.rises k i) ∧ Fs h' p m (s.risen k i) := by
  rw [C_fb_state_rises H]; unfold F_fb_state_rises
  have el : rLoad (.ptr (some (p, 1 + i))) h = some (.int .i64 (s.kp i)) := by
    rw [rLoad_ptr, t.row]
    rcases (by omega : i = 0 ∨ i = 1 ∨ i = 2) with rfl | rfl | rfl <;> rfl
  have ea : rAtArr 3 1 (.ptr (some (p, 1))) (.int .i64 (i : Int)) = some (.ptr (some (p, 1 + i))) := by
    rw [rAtArr_ptr (by omega) (by omega)]; simp
  have ei := is_spec H n t k
  have et : kc ov (n + 1) N_fb_truth [.bool (s.is k)] h = some (.int .i64 (tr (s.is k)), h) := fbtruth_spec H n _
  (try simp -dsimp (disch := omega) only [↓pre, sp, sp2, wp_some, Int.cast_ofNat_Int, Nat.reduceAdd, Nat.reduceMul, Nat.reduceSub, Nat.reduceLeDiff, Nat.reduceEqDiff, Nat.reducePow, Int.reduceToNat, Int.reducePow, Int.reduceAdd, Int.reduceSub, Int.reduceMul, Int.reduceLT, Int.reduceLE, Int.reduceEq, Int.reduceNeg, ↓el, ea, ei, et])
  refine wp_keep w t i hi _ (by omega) fun h1 k1 n1 t1 => ?_
  have ei1 := is_spec H n t1 k
  have eis : (s.keep i (tr (s.is k))).is k = s.is k := by unfold Stt.is; congr 2; unfold Stt.keep; split; rfl; split <;> rfl
  (try simp -dsimp (disch := omega) only [↓pre, sp, sp2, wp_some, Int.cast_ofNat_Int, Nat.reduceAdd, Nat.reduceMul, Nat.reduceSub, Nat.reduceLeDiff, Nat.reduceEqDiff, Nat.reducePow, Int.reduceToNat, Int.reducePow, Int.reduceAdd, Int.reduceSub, Int.reduceMul, Int.reduceLT, Int.reduceLE, Int.reduceEq, Int.reduceNeg, ei1, eis])
  refine wp_kT (.bool (s.rises k i)) (fun j hj => ?_) ?_
  · have e : s.rises k i = (s.is k && !decide (¬ s.kp i = 0)) := rfl
    generalize s.rises k i = b at *
    subst e
    generalize s.is k = c at hj ⊢
    cases c
    · (try simp -dsimp (disch := omega) only [↓pre, sp, sp2, wp_some, Int.cast_ofNat_Int, Nat.reduceAdd, Nat.reduceMul, Nat.reduceSub, Nat.reduceLeDiff, Nat.reduceEqDiff, Nat.reducePow, Int.reduceToNat, Int.reducePow, Int.reduceAdd, Int.reduceSub, Int.reduceMul, Int.reduceLT, Int.reduceLE, Int.reduceEq, Int.reduceNeg])
      exact hj
    · (try simp -dsimp (disch := omega) only [↓pre, sp, sp2, wp_some, Int.cast_ofNat_Int, Nat.reduceAdd, Nat.reduceMul, Nat.reduceSub, Nat.reduceLeDiff, Nat.reduceEqDiff, Nat.reducePow, Int.reduceToNat, Int.reducePow, Int.reduceAdd, Int.reduceSub, Int.reduceMul, Int.reduceLT, Int.reduceLE, Int.reduceEq, Int.reduceNeg])
      exact hj
  · (try simp -dsimp (disch := omega) only [↓pre, sp, sp2, wp_some, Int.cast_ofNat_Int, Nat.reduceAdd, Nat.reduceMul, Nat.reduceSub, Nat.reduceLeDiff, Nat.reduceEqDiff, Nat.reducePow, Int.reduceToNat, Int.reducePow, Int.reduceAdd, Int.reduceSub, Int.reduceMul, Int.reduceLT, Int.reduceLE, Int.reduceEq, Int.reduceNeg])
    exact ⟨k1, t1⟩
end Go.Proofs.YtindiedfioiejaaDoor.AI
