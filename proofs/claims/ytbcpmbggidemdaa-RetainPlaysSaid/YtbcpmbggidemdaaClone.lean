/- slices.Clone of bytes. -/
import Derived.Test.YtbcpmbggidemdaaHelp
namespace Go.Proofs.Ytbcpmbggidemdaa.AI
open Go
set_option linter.unusedSimpArgs false
set_option linter.unusedVariables false
variable {ov : AOver} {h : AH} {v : AVal} {md : AMode}

theorem clone_spec (H : Plain ov) (n : Nat) (w : Wf h) {l : List UInt8} (s : Bs h v l md) (hl : l.length ≤ 2 ^ 40) :
    Wp (kc ov (n + 1) N_slices_Clone___byte_byte_ [v] h) fun r h' => Kp h h' ∧ Ob h' r l ∧ Fresh h r := by
  rw [C_slices_Clone___byte_byte_ H]
  have key : ∀ a cap, v = .slice (some a) l.length cap → Wp (F_slices_Clone___byte_byte_ (kc ov n) (kd ov n) v h) fun r h' => Kp h h' ∧ Ob h' r l ∧ Fresh h r := by
    rintro a cap rfl
    have hb : rBin .eql .slice true (.slice (some a) l.length cap) (.slice none 0 0) = some (.bool false) := by simp [rBin, rEq]
    (try simp -dsimp (disch := omega) only [↓pre, sp, sp2, wp_some, Int.cast_ofNat_Int, Nat.reduceAdd, Nat.reduceMul, Nat.reduceSub, Nat.reduceLeDiff, Nat.reduceEqDiff, Nat.reducePow, Int.reduceToNat, Int.reducePow, Int.reduceAdd, Int.reduceSub, Int.reduceMul, Int.reduceLT, Int.reduceLE, Int.reduceEq, Int.reduceNeg, F_slices_Clone___byte_byte_, hb])
    have k1 := Kp.push0 w (.row [] T_uint8 false) .rw
    have hm : ∀ K, km (mBuildSl T_uint8 1 [(.int .u8 0)] 0 []) h K = K (.slice (some (h.n, 0, 1)) 0 0) (h.push ⟨.row [] T_uint8 false, .rw, []⟩) := fun K => rfl
    rw [hm]
    have o1 : Ow (h.push ⟨.row [] T_uint8 false, .rw, []⟩) (.slice (some (h.n, 0, 1)) 0 0) T_uint8 1 0 [] := Ow.new (o := false) (p := []) (by simp) (by omega) 0 rfl rfl
    refine wp_append k1.w' o1 (s.kp k1) (isCell_bytes l) (by omega) (by omega) fun v' h' o k f => ?_
    (try simp -dsimp (disch := omega) only [↓pre, sp, sp2, wp_some, Int.cast_ofNat_Int, Nat.reduceAdd, Nat.reduceMul, Nat.reduceSub, Nat.reduceLeDiff, Nat.reduceEqDiff, Nat.reducePow, Int.reduceToNat, Int.reducePow, Int.reduceAdd, Int.reduceSub, Int.reduceMul, Int.reduceLT, Int.reduceLE, Int.reduceEq, Int.reduceNeg])
    refine ⟨Ke.new_p k1 k (fun i hi => by simp only [isBk] at hi; omega), by simpa using o, fun i hi => ?_⟩
    rcases f i hi with f | f
    · simp only [isBk] at f; omega
    · simp at f; omega
  have s0 := s
  obtain ⟨a, cap, rfl, h1, h2, h3, h4⟩ := s
  rcases h4 with ⟨rfl, h4, rfl⟩ | ⟨i, off, rfl, h4, _⟩ | ⟨i, off, rfl, _⟩
  · have : l = [] := List.eq_nil_of_length_eq_zero h4
    subst this
    have hb : rBin .eql .slice true (.slice none 0 0) (.slice none 0 0) = some (.bool true) := by simp [rBin, rEq]
    (try simp -dsimp (disch := omega) only [↓pre, sp, sp2, wp_some, Int.cast_ofNat_Int, Nat.reduceAdd, Nat.reduceMul, Nat.reduceSub, Nat.reduceLeDiff, Nat.reduceEqDiff, Nat.reducePow, Int.reduceToNat, Int.reducePow, Int.reduceAdd, Int.reduceSub, Int.reduceMul, Int.reduceLT, Int.reduceLE, Int.reduceEq, Int.reduceNeg, F_slices_Clone___byte_byte_, hb])
    exact ⟨Ke.refl w, Ow.nil h _ _ (by omega), fun i hi => hi.elim⟩
  · exact key _ _ rfl
  · exact key _ _ rfl

end Go.Proofs.Ytbcpmbggidemdaa.AI
