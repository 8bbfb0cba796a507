/- Chapter 17: a block's pins. -/
import Derived.Test.YtindiedfioiejaaDoorFb4
import Derived.Test.YtindiedfioiejaaDoorFld
namespace Go.Proofs.YtindiedfioiejaaDoor.AI
open Go
set_option linter.unusedSimpArgs false
set_option linter.unusedVariables false
variable {ov : AOver} {h : AH} {v : AVal}
def Bl.inS : Bl → List UInt8
  | .ton => [73, 78, 32, 66, 79, 79, 76, 32, 80, 84, 32, 84, 73, 77, 69]
  | .tof => [73, 78, 32, 66, 79, 79, 76, 32, 80, 84, 32, 84, 73, 77, 69]
  | .tp => [73, 78, 32, 66, 79, 79, 76, 32, 80, 84, 32, 84, 73, 77, 69]
  | .ctu => [67, 85, 32, 66, 79, 79, 76, 32, 82, 32, 66, 79, 79, 76, 32, 80, 86, 32, 73, 78, 84]
  | .ctd => [67, 68, 32, 66, 79, 79, 76, 32, 76, 68, 32, 66, 79, 79, 76, 32, 80, 86, 32, 73, 78, 84]
  | .ctud => [67, 85, 32, 66, 79, 79, 76, 32, 67, 68, 32, 66, 79, 79, 76, 32, 82, 32, 66, 79, 79, 76, 32, 76, 68, 32, 66, 79, 79, 76, 32, 80, 86, 32, 73, 78, 84]
  | .rt => [67, 76, 75, 32, 66, 79, 79, 76]
  | .ft => [67, 76, 75, 32, 66, 79, 79, 76]
  | .sr => [83, 49, 32, 66, 79, 79, 76, 32, 82, 32, 66, 79, 79, 76]
  | .rs => [83, 32, 66, 79, 79, 76, 32, 82, 49, 32, 66, 79, 79, 76]
def Bl.outS : Bl → List UInt8
  | .ton => [81, 32, 66, 79, 79, 76, 32, 69, 84, 32, 84, 73, 77, 69]
  | .tof => [81, 32, 66, 79, 79, 76, 32, 69, 84, 32, 84, 73, 77, 69]
  | .tp => [81, 32, 66, 79, 79, 76, 32, 69, 84, 32, 84, 73, 77, 69]
  | .ctu => [81, 32, 66, 79, 79, 76, 32, 67, 86, 32, 73, 78, 84]
  | .ctd => [81, 32, 66, 79, 79, 76, 32, 67, 86, 32, 73, 78, 84]
  | .ctud => [81, 85, 32, 66, 79, 79, 76, 32, 81, 68, 32, 66, 79, 79, 76, 32, 67, 86, 32, 73, 78, 84]
  | .rt => [81, 32, 66, 79, 79, 76]
  | .ft => [81, 32, 66, 79, 79, 76]
  | .sr => [81, 49, 32, 66, 79, 79, 76]
  | .rs => [81, 49, 32, 66, 79, 79, 76]
theorem tpins_spec (H : Plain ov) (n : Nat) (b : Bl) : kc ov (n + 1) N_types_pins [.str b.nm] h = some (.tuple [.str b.inS, .str b.outS, .bool true], h) := by
  rw [C_types_pins H]
  cases b <;> rfl
/-- Every second one. -/
def evs : List (List UInt8) → List (List UInt8)
  | [] => []
  | [a] => [a]
  | a :: _ :: l => a :: evs l
def FieldsOk (S : List UInt8) : Prop := S.length ≤ 1048576 ∧ (∀ b ∈ S, b.toNat < 128) ∧ cntF S true = (fieldsL S).length
theorem every_spec (H : Plain ov) (n : Nat) (w : Wf h) (tb : Tb h) {S : List UInt8} (ok : FieldsOk S) (hl : (fieldsL S).length ≤ 1000) :
    Wp (kc ov (n + 2) N_types_every [.str S, .int .i64 0] h) fun r h' => Kp h h' ∧ Os h' r (evs (fieldsL S)) ∧ Fresh h r := by
  rw [C_types_every H]; unfold F_types_every
  (try simp -dsimp (disch := omega) only [↓pre, sp, sp2, wp_some, Int.cast_ofNat_Int, Nat.reduceAdd, Nat.reduceMul, Nat.reduceSub, Nat.reduceLeDiff, Nat.reduceEqDiff, Nat.reducePow, Int.reduceToNat, Int.reducePow, Int.reduceAdd, Int.reduceSub, Int.reduceMul, Int.reduceLT, Int.reduceLE, Int.reduceEq, Int.reduceNeg])
  refine Wp.bind (fields_spec H n w tb ok.1 ok.2.1 ok.2.2) fun v h1 ⟨k1, o1, f1⟩ => ?_
  generalize fieldsL S = L at *
  (try simp -dsimp (disch := omega) only [↓pre, sp, sp2, wp_some, Int.cast_ofNat_Int, Nat.reduceAdd, Nat.reduceMul, Nat.reduceSub, Nat.reduceLeDiff, Nat.reduceEqDiff, Nat.reducePow, Int.reduceToNat, Int.reducePow, Int.reduceAdd, Int.reduceSub, Int.reduceMul, Int.reduceLT, Int.reduceLE, Int.reduceEq, Int.reduceNeg, (Ow.rd o1).len])
  refine wp_loop (fun m l h2 => ∃ (i : Nat) (acc : List (List UInt8)) (x : AVal), l = [x, .int .i64 i] ∧ i + m = L.length ∧ Kp h1 h2 ∧ Os h2 x acc ∧ Fresh h1 x ∧ acc.length ≤ i ∧ acc ++ evs (L.drop (i + i % 2)) = evs L) L.length (by omega)
    ⟨0, [], .slice none 0 0, rfl, by omega, Ke.refl k1.w', Ow.nil _ _ _ (by omega), fun i hi => hi.elim, by simp, by simp⟩ ?_
  rintro m _ h2 j ⟨i, acc, x, rfl, him, k2, o2, f2, hai, he⟩ hj
  unfold L_types_every_0
  (try simp -dsimp (disch := omega) only [↓pre, sp, sp2, wp_some, Int.cast_ofNat_Int, Nat.reduceAdd, Nat.reduceMul, Nat.reduceSub, Nat.reduceLeDiff, Nat.reduceEqDiff, Nat.reducePow, Int.reduceToNat, Int.reducePow, Int.reduceAdd, Int.reduceSub, Int.reduceMul, Int.reduceLT, Int.reduceLE, Int.reduceEq, Int.reduceNeg])
  refine wp_ite (fun c => ?_) (fun c => ?_)
  · have hi : i < L.length := by omega
    have hv := ((Ow.rd o1).kp k2)
    have h1' : rLoad (ea v i) h2 = some (.str (L.getD i [])) := by
      rw [hv.ld (by rw [strs_len]; exact hi)]; simp [strs, hi]
    have e1 : IntKind.wrap .i64 ((i : Int) + 1) = ((i + 1 : Nat) : Int) := by rw [wr_i64 (by omega) (by omega)]; omega
    rcases Nat.mod_two_eq_zero_or_one i with hm | hm
    · have hdr : L.drop i = L.getD i [] :: L.drop (i + 1) := by
        rw [List.drop_eq_getElem_cons hi]; simp [hi]
      have hev : (i + 1) % 2 = 1 := by omega
      have er : rBin .rem .no true (.int .i64 (i : Int)) (.int .i64 2) = some (.int .i64 0) := by
        rw [rBin_rem _ _ _ _ _ (by omega), show (i : Int).tmod 2 = ((i % 2 : Nat) : Int) from rfl, hm]; rfl
      have he' : acc ++ evs (L.drop i) = evs L := by simpa [hm] using he
      (try simp -dsimp (disch := omega) only [↓pre, sp, sp2, wp_some, Int.cast_ofNat_Int, Nat.reduceAdd, Nat.reduceMul, Nat.reduceSub, Nat.reduceLeDiff, Nat.reduceEqDiff, Nat.reducePow, Int.reduceToNat, Int.reducePow, Int.reduceAdd, Int.reduceSub, Int.reduceMul, Int.reduceLT, Int.reduceLE, Int.reduceEq, Int.reduceNeg, hv.at, h1', er])
      refine wp_kJ (fun l h4 => ∃ y, l = [y] ∧ Kp h1 h4 ∧ Os h4 y (acc ++ [L.getD i []]) ∧ Fresh h1 y) (fun j2 hj2 => ?_) ?_
      · (try simp -dsimp (disch := omega) only [↓pre, sp, sp2, wp_some, Int.cast_ofNat_Int, Nat.reduceAdd, Nat.reduceMul, Nat.reduceSub, Nat.reduceLeDiff, Nat.reduceEqDiff, Nat.reducePow, Int.reduceToNat, Int.reducePow, Int.reduceAdd, Int.reduceSub, Int.reduceMul, Int.reduceLT, Int.reduceLE, Int.reduceEq, Int.reduceNeg])
        refine wp_buildSl k2.w' (by simp) rfl rfl fun q h5 hq k5 n5 g5 => ?_
        have s5 : Ow h5 (.slice (some (q, 0, 1)) 1 1) T_string 1 1 (strs [L.getD i []]) := by subst hq; exact Ow.new g5 (by omega) 1 rfl rfl
        (try simp -dsimp (disch := omega) only [↓pre, sp, sp2, wp_some, Int.cast_ofNat_Int, Nat.reduceAdd, Nat.reduceMul, Nat.reduceSub, Nat.reduceLeDiff, Nat.reduceEqDiff, Nat.reducePow, Int.reduceToNat, Int.reducePow, Int.reduceAdd, Int.reduceSub, Int.reduceMul, Int.reduceLT, Int.reduceLE, Int.reduceEq, Int.reduceNeg])
        refine wp_append k5.w' (o2.kp k5) (Ow.rd s5) (strs_cells _) (by omega) (by omega) fun y h6 o6 k6 f6 => ?_
        (try simp -dsimp (disch := omega) only [↓pre, sp, sp2, wp_some, Int.cast_ofNat_Int, Nat.reduceAdd, Nat.reduceMul, Nat.reduceSub, Nat.reduceLeDiff, Nat.reduceEqDiff, Nat.reducePow, Int.reduceToNat, Int.reducePow, Int.reduceAdd, Int.reduceSub, Int.reduceMul, Int.reduceLT, Int.reduceLE, Int.reduceEq, Int.reduceNeg])
        refine hj2 _ _ ⟨y, rfl, ?_, o6.to (by simp [strs]) (by simp), fun i hi => ?_⟩
        · exact Ke.new_p (k2.trans k5) k6 fun i hi => f2 i hi
        · rcases f6 i hi with f | f
          · exact f2 i f
          · have := k2.n; have := k5.n; omega
      · rintro _ h4 ⟨y, rfl, k4, o4, f4⟩
        (try simp -dsimp (disch := omega) only [↓pre, sp, sp2, wp_some, Int.cast_ofNat_Int, Nat.reduceAdd, Nat.reduceMul, Nat.reduceSub, Nat.reduceLeDiff, Nat.reduceEqDiff, Nat.reducePow, Int.reduceToNat, Int.reducePow, Int.reduceAdd, Int.reduceSub, Int.reduceMul, Int.reduceLT, Int.reduceLE, Int.reduceEq, Int.reduceNeg, e1])
        refine hj (m - 1) _ _ (by omega) ⟨i + 1, _, y, rfl, by omega, k4, o4, f4, by simp; omega, ?_⟩
        rw [← he', hev, hdr]
        simp only [List.append_assoc, List.singleton_append]
        congr 1
        cases hx : L.drop (i + 1) with
        | nil =>
          have : L.drop (i + 1 + 1) = [] := by rw [← List.drop_drop, hx]; rfl
          rw [this]; rfl
        | cons a t =>
          have : L.drop (i + 1 + 1) = t := by rw [← List.drop_drop, hx]; rfl
          rw [this]; rfl
    · have hev : (i + 1) % 2 = 0 := by omega
      have er : rBin .rem .no true (.int .i64 (i : Int)) (.int .i64 2) = some (.int .i64 1) := by
        rw [rBin_rem _ _ _ _ _ (by omega), show (i : Int).tmod 2 = ((i % 2 : Nat) : Int) from rfl, hm]; rfl
      (try simp -dsimp (disch := omega) only [↓pre, sp, sp2, wp_some, Int.cast_ofNat_Int, Nat.reduceAdd, Nat.reduceMul, Nat.reduceSub, Nat.reduceLeDiff, Nat.reduceEqDiff, Nat.reducePow, Int.reduceToNat, Int.reducePow, Int.reduceAdd, Int.reduceSub, Int.reduceMul, Int.reduceLT, Int.reduceLE, Int.reduceEq, Int.reduceNeg, hv.at, h1', er])
      refine wp_kJ (fun l h4 => l = [x] ∧ h4 = h2) (fun j2 hj2 => by (try simp -dsimp (disch := omega) only [↓pre, sp, sp2, wp_some, Int.cast_ofNat_Int, Nat.reduceAdd, Nat.reduceMul, Nat.reduceSub, Nat.reduceLeDiff, Nat.reduceEqDiff, Nat.reducePow, Int.reduceToNat, Int.reducePow, Int.reduceAdd, Int.reduceSub, Int.reduceMul, Int.reduceLT, Int.reduceLE, Int.reduceEq, Int.reduceNeg]); exact hj2 _ _ ⟨rfl, rfl⟩) ?_
      rintro _ h4 ⟨rfl, e4⟩
      subst e4
      (try simp -dsimp (disch := omega) only [↓pre, sp, sp2, wp_some, Int.cast_ofNat_Int, Nat.reduceAdd, Nat.reduceMul, Nat.reduceSub, Nat.reduceLeDiff, Nat.reduceEqDiff, Nat.reducePow, Int.reduceToNat, Int.reducePow, Int.reduceAdd, Int.reduceSub, Int.reduceMul, Int.reduceLT, Int.reduceLE, Int.reduceEq, Int.reduceNeg, e1])
      refine hj (m - 1) _ _ (by omega) ⟨i + 1, acc, x, rfl, by omega, k2, o2, f2, by omega, ?_⟩
      rw [← he, hm, hev]
  · (try simp -dsimp (disch := omega) only [↓pre, sp, sp2, wp_some, Int.cast_ofNat_Int, Nat.reduceAdd, Nat.reduceMul, Nat.reduceSub, Nat.reduceLeDiff, Nat.reduceEqDiff, Nat.reducePow, Int.reduceToNat, Int.reducePow, Int.reduceAdd, Int.reduceSub, Int.reduceMul, Int.reduceLT, Int.reduceLE, Int.reduceEq, Int.reduceNeg])
    have : evs (L.drop (i + i % 2)) = [] := by rw [List.drop_of_length_le (by omega)]; rfl
    rw [this, List.append_nil] at he
    refine ⟨k1.trans k2, o2.to (by rw [he]) (by rw [he]), fun i hi => ?_⟩
    have := f2 i hi; have := k1.n; omega
instance (S : List UInt8) : Decidable (FieldsOk S) := inferInstanceAs (Decidable (_ ∧ _ ∧ _))
def Bl.all (b : Bl) : List UInt8 := b.inS ++ [32] ++ b.outS
theorem bl_in (b : Bl) : FieldsOk b.inS ∧ (fieldsL b.inS).length ≤ 1000 ∧ evs (fieldsL b.inS) = b.ins := by cases b <;> decide +kernel
theorem bl_out (b : Bl) : FieldsOk b.outS ∧ (fieldsL b.outS).length ≤ 1000 ∧ evs (fieldsL b.outS) = b.outs := by cases b <;> decide +kernel
theorem tPins_spec (H : Plain ov) (n : Nat) (w : Wf h) (tb : Tb h) (b : Bl) :
    Wp (kc ov (n + 3) N_types_Pins [.str b.nm] h) fun r h' => Kp h h' ∧ ∃ x y, r = .tuple [x, y] ∧ Os h' x b.ins ∧ Os h' y b.outs ∧ Fresh h x ∧ Fresh h y := by
  rw [C_types_Pins H]; unfold F_types_Pins
  have ep : kc ov (n + 2) N_types_pins [.str b.nm] h = some (.tuple [.str b.inS, .str b.outS, .bool true], h) := tpins_spec H (n + 1) b
  (try simp -dsimp (disch := omega) only [↓pre, sp, sp2, wp_some, Int.cast_ofNat_Int, Nat.reduceAdd, Nat.reduceMul, Nat.reduceSub, Nat.reduceLeDiff, Nat.reduceEqDiff, Nat.reducePow, Int.reduceToNat, Int.reducePow, Int.reduceAdd, Int.reduceSub, Int.reduceMul, Int.reduceLT, Int.reduceLE, Int.reduceEq, Int.reduceNeg, ep])
  refine Wp.bind (every_spec H n w tb (bl_in b).1 (bl_in b).2.1) fun x h1 ⟨k1, o1, f1⟩ => ?_
  (try simp -dsimp (disch := omega) only [↓pre, sp, sp2, wp_some, Int.cast_ofNat_Int, Nat.reduceAdd, Nat.reduceMul, Nat.reduceSub, Nat.reduceLeDiff, Nat.reduceEqDiff, Nat.reducePow, Int.reduceToNat, Int.reducePow, Int.reduceAdd, Int.reduceSub, Int.reduceMul, Int.reduceLT, Int.reduceLE, Int.reduceEq, Int.reduceNeg])
  refine Wp.bind (every_spec H n k1.w' (tb.ke k1) (bl_out b).1 (bl_out b).2.1) fun y h2 ⟨k2, o2, f2⟩ => ?_
  (try simp -dsimp (disch := omega) only [↓pre, sp, sp2, wp_some, Int.cast_ofNat_Int, Nat.reduceAdd, Nat.reduceMul, Nat.reduceSub, Nat.reduceLeDiff, Nat.reduceEqDiff, Nat.reducePow, Int.reduceToNat, Int.reducePow, Int.reduceAdd, Int.reduceSub, Int.reduceMul, Int.reduceLT, Int.reduceLE, Int.reduceEq, Int.reduceNeg])
  refine ⟨k1.trans k2, x, y, rfl, ?_, ?_, f1, fun i hi => ?_⟩
  · rw [← (bl_in b).2.2]; exact o1.kp k2
  · rw [← (bl_out b).2.2]; exact o2
  · have := f2 i hi; have := k1.n; omega
/-- A pin's kind's name is found behind it. -/
def pinF : List (List UInt8) → List UInt8 → Int
  | a :: k :: l, x => if a = x then kindM k else pinF l x
  | _, _ => 0
theorem tPin_loop (b : Bl) : FieldsOk b.all ∧ (fieldsL b.all).length ≤ 1000 ∧ (∀ x ∈ b.ins, pinF (fieldsL b.all) x = kdN x) ∧ (∀ x ∈ b.outs, pinF (fieldsL b.all) x = kdN x) := by cases b <;> decide +kernel
theorem tPin_spec (H : Plain ov) (n : Nat) (w : Wf h) (tb : Tb h) (b : Bl) {x : Nm} (hx : x ∈ b.ins ∨ x ∈ b.outs) :
    Wp (kc ov (n + 4) N_types_Pin [.str b.nm, .str x] h) fun r h' => Kp h h' ∧ r = .int .i64 (kdN x) := by
  rw [C_types_Pin H]; unfold F_types_Pin
  have ep : kc ov (n + 3) N_types_pins [.str b.nm] h = some (.tuple [.str b.inS, .str b.outS, .bool true], h) := tpins_spec H (n + 2) b
  obtain ⟨ok, hl, hp1, hp2⟩ := tPin_loop b
  have hpx : pinF (fieldsL b.all) x = kdN x := by rcases hx with h | h; exact hp1 x h; exact hp2 x h
  have hl1 : b.inS.length ≤ 1000 ∧ b.outS.length ≤ 1000 := by cases b <;> decide
  have e1 : rBin .add .no true (.str b.inS) (.str [32]) = some (.str (b.inS ++ [32])) := rBin_sadd _ _ _ _ (by simp; omega)
  have e2 : rBin .add .no false (.str (b.inS ++ [32])) (.str b.outS) = some (.str b.all) := rBin_sadd _ _ _ _ (by simp; omega)
  (try simp -dsimp (disch := omega) only [↓pre, sp, sp2, wp_some, Int.cast_ofNat_Int, Nat.reduceAdd, Nat.reduceMul, Nat.reduceSub, Nat.reduceLeDiff, Nat.reduceEqDiff, Nat.reducePow, Int.reduceToNat, Int.reducePow, Int.reduceAdd, Int.reduceSub, Int.reduceMul, Int.reduceLT, Int.reduceLE, Int.reduceEq, Int.reduceNeg, ep, e1, e2])
  refine Wp.bind (fields_spec H (n + 2) w tb ok.1 ok.2.1 ok.2.2) fun v h1 ⟨k1, o1, f1⟩ => ?_
  clear ep e1 e2 hp1 hp2
  generalize fieldsL b.all = L at *
  (try simp -dsimp (disch := omega) only [↓pre, sp, sp2, wp_some, Int.cast_ofNat_Int, Nat.reduceAdd, Nat.reduceMul, Nat.reduceSub, Nat.reduceLeDiff, Nat.reduceEqDiff, Nat.reducePow, Int.reduceToNat, Int.reducePow, Int.reduceAdd, Int.reduceSub, Int.reduceMul, Int.reduceLT, Int.reduceLE, Int.reduceEq, Int.reduceNeg])
  refine wp_loop (fun m l h2 => ∃ i : Nat, l = [.int .i64 i] ∧ i + m = L.length + 1 ∧ h1 = h2 ∧ pinF (L.drop i) x = kdN x) (L.length + 1) (by omega) ⟨0, rfl, by omega, rfl, by simpa using hpx⟩ ?_
  rintro m _ _ j ⟨i, rfl, him, rfl, hpi⟩ hj
  unfold L_types_Pin_0
  have ei1 : IntKind.wrap .i64 ((i : Int) + 1) = ((i + 1 : Nat) : Int) := by rw [wr_i64 (by omega) (by omega)]; omega
  have eb : IntKind.wrap .i64 ((i : Int) + 2) = ((i + 2 : Nat) : Int) := by rw [wr_i64 (by omega) (by omega)]; omega
  (try simp -dsimp (disch := omega) only [↓pre, sp, sp2, wp_some, Int.cast_ofNat_Int, Nat.reduceAdd, Nat.reduceMul, Nat.reduceSub, Nat.reduceLeDiff, Nat.reduceEqDiff, Nat.reducePow, Int.reduceToNat, Int.reducePow, Int.reduceAdd, Int.reduceSub, Int.reduceMul, Int.reduceLT, Int.reduceLE, Int.reduceEq, Int.reduceNeg, ei1, (Ow.rd o1).len])
  refine wp_ite (fun c => ?_) (fun c => ?_)
  · have hi : i + 1 < L.length := by omega
    have h1' : rLoad (ea v i) h1 = some (.str (L.getD i [])) := by
      rw [(Ow.rd o1).ld (by rw [strs_len]; omega)]; simp [strs, show i < L.length by omega]
    have h2' : rLoad (ea v (i + 1)) h1 = some (.str (L.getD (i + 1) [])) := by
      rw [(Ow.rd o1).ld (by rw [strs_len]; omega)]; simp [strs, hi]
    have hdr : L.drop i = L.getD i [] :: L.getD (i + 1) [] :: L.drop (i + 2) := by
      rw [List.drop_eq_getElem_cons (by omega), List.drop_eq_getElem_cons hi]; simp [hi, show i < L.length by omega]
    rw [hdr] at hpi
    simp only [pinF] at hpi
    (try simp -dsimp (disch := omega) only [↓pre, sp, sp2, wp_some, Int.cast_ofNat_Int, Nat.reduceAdd, Nat.reduceMul, Nat.reduceSub, Nat.reduceLeDiff, Nat.reduceEqDiff, Nat.reducePow, Int.reduceToNat, Int.reducePow, Int.reduceAdd, Int.reduceSub, Int.reduceMul, Int.reduceLT, Int.reduceLE, Int.reduceEq, Int.reduceNeg, (Ow.rd o1).at, h1'])
    refine wp_ite (fun c2 => ?_) (fun c2 => ?_)
    · rw [if_pos c2] at hpi
      (try simp -dsimp (disch := omega) only [↓pre, sp, sp2, wp_some, Int.cast_ofNat_Int, Nat.reduceAdd, Nat.reduceMul, Nat.reduceSub, Nat.reduceLeDiff, Nat.reduceEqDiff, Nat.reducePow, Int.reduceToNat, Int.reducePow, Int.reduceAdd, Int.reduceSub, Int.reduceMul, Int.reduceLT, Int.reduceLE, Int.reduceEq, Int.reduceNeg, (Ow.rd o1).at, h2', ei1, show ((i : Int) + 1).toNat = i + 1 by omega])
      refine Wp.bind (kind_spec H n k1.w' _) fun r h3 ⟨k3, e3⟩ => ?_
      subst e3
      (try simp -dsimp (disch := omega) only [↓pre, sp, sp2, wp_some, Int.cast_ofNat_Int, Nat.reduceAdd, Nat.reduceMul, Nat.reduceSub, Nat.reduceLeDiff, Nat.reduceEqDiff, Nat.reducePow, Int.reduceToNat, Int.reducePow, Int.reduceAdd, Int.reduceSub, Int.reduceMul, Int.reduceLT, Int.reduceLE, Int.reduceEq, Int.reduceNeg])
      exact ⟨k1.trans k3, by rw [hpi]⟩
    · rw [if_neg c2] at hpi
      (try simp -dsimp (disch := omega) only [↓pre, sp, sp2, wp_some, Int.cast_ofNat_Int, Nat.reduceAdd, Nat.reduceMul, Nat.reduceSub, Nat.reduceLeDiff, Nat.reduceEqDiff, Nat.reducePow, Int.reduceToNat, Int.reducePow, Int.reduceAdd, Int.reduceSub, Int.reduceMul, Int.reduceLT, Int.reduceLE, Int.reduceEq, Int.reduceNeg, eb])
      exact hj (m - 2) _ _ (by omega) ⟨i + 2, rfl, by omega, rfl, hpi⟩
  · (try simp -dsimp (disch := omega) only [↓pre, sp, sp2, wp_some, Int.cast_ofNat_Int, Nat.reduceAdd, Nat.reduceMul, Nat.reduceSub, Nat.reduceLeDiff, Nat.reduceEqDiff, Nat.reducePow, Int.reduceToNat, Int.reducePow, Int.reduceAdd, Int.reduceSub, Int.reduceMul, Int.reduceLT, Int.reduceLE, Int.reduceEq, Int.reduceNeg])
    refine ⟨k1, ?_⟩
    rw [← hpi]
    have : pinF (L.drop i) x = 0 := by
      cases hd : L.drop i with
      | nil => rfl
      | cons a t => cases t with
        | nil => rfl
        | cons b u =>
          have := congrArg List.length hd
          simp only [List.length_drop, List.length_cons] at this
          omega
    rw [this]
end Go.Proofs.YtindiedfioiejaaDoor.AI
