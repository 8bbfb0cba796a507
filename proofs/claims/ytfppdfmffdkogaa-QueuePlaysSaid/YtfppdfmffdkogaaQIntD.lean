/- queue, of one-celled things (int_): all are taken, counts. -/
import Derived.Test.YtfppdfmffdkogaaQInt
namespace Go.Proofs.Ytfppdfmffdkogaa.AI.QInt
open Go Go.Proofs.Ytfppdfmffdkogaa.AI
set_option linter.unusedSimpArgs false
set_option linter.unusedVariables false
variable {ov : AOver} {h : AH} {p : Nat} {s : QSt} {F : Nat → Prop} {lk : Int}
theorem counts_spec (X : Xs ov) (n : Nat) (Q : Qu T_queue_Queue_int_ T_int h p s 0 F) : kc ov (n + 3) N_queue_Queue_int__Counts [.ptr (some (p, 0))] h = some (.tuple [.int .u64 s.put, .int .u64 s.ref, .int .u64 s.tak], h) := by
  obtain ⟨cs, C⟩ := Q
  obtain ⟨par, g⟩ := C.g
  have e9 := uload_spec X n (row_rw g) C.c9
  have e10 := uload_spec X n (row_rw g) C.c10
  have e11 := uload_spec X n (row_rw g) C.c11
  rw [C_queue_Queue_int__Counts X.p]; unfold F_queue_Queue_int__Counts
  (try simp -dsimp (disch := omega) only [↓pre, sp, sp2, wp_some, Int.cast_ofNat_Int, Nat.reduceAdd, Nat.reduceMul, Nat.reduceSub, Nat.reduceLeDiff, Nat.reduceEqDiff, Nat.reducePow, Int.reduceToNat, Int.reducePow, Int.reduceAdd, Int.reduceSub, Int.reduceMul, Int.reduceLT, Int.reduceLE, Int.reduceEq, Int.reduceNeg, e9, e10, e11, Nat.zero_add])
def QStDrain (s : QSt) : QSt := { s with w := [], tak := s.tak + s.w.length, at_ := (s.at_ + s.w.length) % s.most }
theorem drain_spec (X : Xs ov) (n : Nat) (w : Wf h) (Q : Qu T_queue_Queue_int_ T_int h p s 0 F) (hc : s.tak < 2 ^ 61) (hcell : ∀ y ∈ s.w, y.isCell = true) :
    Wp (kc ov (n + 4) N_queue_Queue_int__Drain [.ptr (some (p, 0))] h) fun r h' => Ke F h h' ∧ Ow h' r T_int 1 s.w.length s.w ∧ (∀ i, isBk r i → h.n ≤ i ∧ i < h'.n) ∧ ∃ G, Qu T_queue_Queue_int_ T_int h' p (QStDrain s) 0 G ∧ ∀ i, G i → (F i ∨ (h.n ≤ i ∧ ¬ isBk r i)) := by
  rw [C_queue_Queue_int__Drain X.p]; unfold F_queue_Queue_int__Drain
  have hat0 : s.at_ < s.most := by obtain ⟨cs, C⟩ := Q; exact C.at_
  have hn0 : s.w.length ≤ 64 := by obtain ⟨cs, C⟩ := Q; have := C.n; have := C.m64; omega
  have hm0 : 1 ≤ s.most := by obtain ⟨cs, C⟩ := Q; exact C.m1
  (try simp -dsimp (disch := omega) only [↓pre, sp, sp2, wp_some, Int.cast_ofNat_Int, Nat.reduceAdd, Nat.reduceMul, Nat.reduceSub, Nat.reduceLeDiff, Nat.reduceEqDiff, Nat.reducePow, Int.reduceToNat, Int.reducePow, Int.reduceAdd, Int.reduceSub, Int.reduceMul, Int.reduceLT, Int.reduceLE, Int.reduceEq, Int.reduceNeg, Nat.add_zero])
  refine Wp.bind (Q.dolock X n w) fun v1 h1 ⟨k1, n1, Q1⟩ => ?_
  (try simp -dsimp (disch := omega) only [↓pre, sp, sp2, wp_some, Int.cast_ofNat_Int, Nat.reduceAdd, Nat.reduceMul, Nat.reduceSub, Nat.reduceLeDiff, Nat.reduceEqDiff, Nat.reducePow, Int.reduceToNat, Int.reducePow, Int.reduceAdd, Int.reduceSub, Int.reduceMul, Int.reduceLT, Int.reduceLE, Int.reduceEq, Int.reduceNeg])
  -- one is asked for
  have ask : ∀ (h2 : AH) (m : Nat) (G : Nat → Prop), Wf h2 → m ≤ s.w.length → Qu T_queue_Queue_int_ T_int h2 p { s with w := s.w.drop m, tak := s.tak + m, at_ := (s.at_ + m) % s.most } 1 G →
      Wp (kc ov (n + 3) N_queue_Queue_int__first [.ptr (some (p, 0))] h2) fun r h3 => Ke G h2 h3 ∧ (m = s.w.length → ∃ z, r = .tuple [z, .bool false] ∧ z.isCell = true ∧ Qu T_queue_Queue_int_ T_int h3 p { s with w := s.w.drop m, tak := s.tak + m, at_ := (s.at_ + m) % s.most } 1 (Gr G h2 h3)) ∧
        (m < s.w.length → ∃ y, s.w[m]? = some y ∧ r = .tuple [y, .bool true] ∧ Qu T_queue_Queue_int_ T_int h3 p { s with w := s.w.drop (m + 1), tak := s.tak + (m + 1), at_ := (s.at_ + (m + 1)) % s.most } 1 (Gr G h2 h3)) := by
    intro h2 m G w2 hm Q2
    refine (first_spec X n w2 Q2 (by simp only; omega)).mono ?_
    rintro r h3 ⟨k3, q3⟩
    refine ⟨k3, fun hme => ?_, fun hlt => ?_⟩
    · have e : s.w.drop m = [] := List.drop_of_length_le (by omega)
      rw [show ({ s with w := s.w.drop m, tak := s.tak + m, at_ := (s.at_ + m) % s.most } : QSt).w = [] from e] at q3
      exact ⟨_, q3.1, rfl, q3.2⟩
    · have e : s.w.drop m = s.w[m] :: s.w.drop (m + 1) := List.drop_eq_getElem_cons hlt
      rw [show ({ s with w := s.w.drop m, tak := s.tak + m, at_ := (s.at_ + m) % s.most } : QSt).w = s.w[m] :: s.w.drop (m + 1) from e] at q3
      refine ⟨s.w[m], List.getElem?_eq_getElem hlt, q3.1, ?_⟩
      have ep : ({ s with w := s.w.drop m, tak := s.tak + m, at_ := (s.at_ + m) % s.most } : QSt).pop = { s with w := s.w.drop (m + 1), tak := s.tak + (m + 1), at_ := (s.at_ + (m + 1)) % s.most } := by
        simp only [QSt.pop, List.tail_drop, Nat.mod_add_mod, Nat.add_assoc]
      rw [← ep]
      exact q3.2
  have e0 : ({ s with w := s.w.drop 0, tak := s.tak + 0, at_ := (s.at_ + 0) % s.most } : QSt) = s := by
    simp only [List.drop_zero, Nat.add_zero, Nat.mod_eq_of_lt hat0]
  refine Wp.bind (ask h1 0 F k1.w' (Nat.zero_le _) (by rw [e0]; exact Q1)) fun v2 h2 ⟨k2, a2, b2⟩ => ?_
  have hfst : ∃ y bb G, v2 = .tuple [y, .bool bb] ∧ y.isCell = true ∧ (bb = false → s.w.length = 0 ∧ Qu T_queue_Queue_int_ T_int h2 p { s with w := s.w.drop 0, tak := s.tak + 0, at_ := (s.at_ + 0) % s.most } 1 G) ∧ (bb = true → s.w[0]? = some y ∧ Qu T_queue_Queue_int_ T_int h2 p { s with w := s.w.drop 1, tak := s.tak + 1, at_ := (s.at_ + 1) % s.most } 1 G) ∧ ∀ i, G i → F i ∨ h.n ≤ i := by
    have hG : ∀ i, Gr F h1 h2 i → F i ∨ h.n ≤ i := fun i hi => hi.imp id fun hi => by omega
    rcases Nat.eq_zero_or_pos s.w.length with hz | hz
    · obtain ⟨z, e, hzc, q⟩ := a2 hz.symm
      exact ⟨z, false, _, e, hzc, fun _ => ⟨hz, q⟩, fun hh => (by cases hh), hG⟩
    · obtain ⟨y, e1, e, q⟩ := b2 hz
      exact ⟨y, true, _, e, hcell y (List.mem_of_getElem? e1), fun hh => (by cases hh), fun _ => ⟨e1, q⟩, hG⟩
  obtain ⟨y2, bb2, G2, e2, yc2, fa2, tr2, hG2⟩ := hfst
  subst e2
  (try simp -dsimp (disch := omega) only [↓pre, sp, sp2, wp_some, Int.cast_ofNat_Int, Nat.reduceAdd, Nat.reduceMul, Nat.reduceSub, Nat.reduceLeDiff, Nat.reduceEqDiff, Nat.reducePow, Int.reduceToNat, Int.reducePow, Int.reduceAdd, Int.reduceSub, Int.reduceMul, Int.reduceLT, Int.reduceLE, Int.reduceEq, Int.reduceNeg])
  refine wp_loop (fun m l h3 => ∃ (i : Nat) (out y : AVal) (bb : Bool) (G : Nat → Prop), l = [out, y, .bool bb] ∧ i + m = s.w.length ∧ Ke F h h3 ∧ Ow h3 out T_int 1 i (s.w.take i) ∧ (∀ j, isBk out j → h.n ≤ j ∧ ¬ G j) ∧ y.isCell = true ∧
      (bb = false → i = s.w.length ∧ Qu T_queue_Queue_int_ T_int h3 p { s with w := s.w.drop i, tak := s.tak + i, at_ := (s.at_ + i) % s.most } 1 G) ∧ (bb = true → s.w[i]? = some y ∧ Qu T_queue_Queue_int_ T_int h3 p { s with w := s.w.drop (i + 1), tak := s.tak + (i + 1), at_ := (s.at_ + (i + 1)) % s.most } 1 G) ∧ ∀ j, G j → F j ∨ h.n ≤ j) s.w.length (by omega)
    ⟨0, _, y2, bb2, G2, rfl, by omega, k1.trans k2, by simpa using Ow.nil h2 T_int 1 (by omega), fun j hj => hj.elim, yc2, fun hh => ⟨((fa2 hh).1).symm, (fa2 hh).2⟩, tr2, hG2⟩ ?_
  rintro m _ h3 j ⟨i, out, y, bb, G, rfl, him, k3, o3, f3, yc, fa, tr, hG⟩ hj
  unfold L_queue_Queue_int__Drain_0
  (try simp -dsimp (disch := omega) only [↓pre, sp, sp2, wp_some, Int.cast_ofNat_Int, Nat.reduceAdd, Nat.reduceMul, Nat.reduceSub, Nat.reduceLeDiff, Nat.reduceEqDiff, Nat.reducePow, Int.reduceToNat, Int.reducePow, Int.reduceAdd, Int.reduceSub, Int.reduceMul, Int.reduceLT, Int.reduceLE, Int.reduceEq, Int.reduceNeg])
  cases bb with
  | true =>
    obtain ⟨ey, Q3⟩ := tr rfl
    have hi : i < s.w.length := lt_of_at ey
    (try simp -dsimp (disch := omega) only [↓pre, sp, sp2, wp_some, Int.cast_ofNat_Int, Nat.reduceAdd, Nat.reduceMul, Nat.reduceSub, Nat.reduceLeDiff, Nat.reduceEqDiff, Nat.reducePow, Int.reduceToNat, Int.reducePow, Int.reduceAdd, Int.reduceSub, Int.reduceMul, Int.reduceLT, Int.reduceLE, Int.reduceEq, Int.reduceNeg])
    refine wp_buildSl (cs := [y]) k3.w' ⟨by decide, rfl, by decide⟩ (by simp [aFill, cells_of yc, manyT, splice]) (by simp only [ic, yc]) fun q h4 hq k4 n4 g4 => ?_
    have sq : Sz h4 (.slice (some (q, 0, 1)) 1 1) 1 1 [y] .rw := Ow.rd (e := T_int) (Ow.new g4 (by omega) 1 rfl (by simp only [ic, yc]))
    have hGl : ∀ j, G j → j < h3.n := by obtain ⟨cs, C⟩ := Q3; exact C.fl
    (try simp -dsimp (disch := omega) only [↓pre, sp, sp2, wp_some, Int.cast_ofNat_Int, Nat.reduceAdd, Nat.reduceMul, Nat.reduceSub, Nat.reduceLeDiff, Nat.reduceEqDiff, Nat.reducePow, Int.reduceToNat, Int.reducePow, Int.reduceAdd, Int.reduceSub, Int.reduceMul, Int.reduceLT, Int.reduceLE, Int.reduceEq, Int.reduceNeg])
    refine wp_append k4.w' (o3.kp k4) sq (by simp only [ic, yc]) (by omega) (by omega) fun out' h5 o5 k5 f5 => ?_
    have Q5 := (Q3.ke k4 fun _ f => f.elim).ke k5 fun j hj hg => (f3 j hj).2 hg
    have hnn := k4.n
    have f5' : ∀ j, isBk out' j → h.n ≤ j ∧ ¬ G j := fun j hj => by
      rcases f5 j hj with hh | hh
      · exact f3 j hh
      · exact ⟨by have := k3.n; omega, fun hg => by have := hGl j hg; omega⟩
    have et : s.w.take (i + 1) = s.w.take i ++ [y] := by
      rw [List.getElem?_eq_getElem hi] at ey
      cases ey
      rw [List.take_succ_eq_append_getElem hi]
    (try simp -dsimp (disch := omega) only [↓pre, sp, sp2, wp_some, Int.cast_ofNat_Int, Nat.reduceAdd, Nat.reduceMul, Nat.reduceSub, Nat.reduceLeDiff, Nat.reduceEqDiff, Nat.reducePow, Int.reduceToNat, Int.reducePow, Int.reduceAdd, Int.reduceSub, Int.reduceMul, Int.reduceLT, Int.reduceLE, Int.reduceEq, Int.reduceNeg])
    refine Wp.bind (ask h5 (i + 1) G k5.w' (by omega) Q5) fun v6 h6 ⟨k6, a6, b6⟩ => ?_
    have hnn5 := k5.n
    have hnn6 := k6.n
    have hG6 : ∀ j, Gr G h5 h6 j → F j ∨ h.n ≤ j := fun j hj => by
      rcases hj with hj | hj
      · exact hG j hj
      · exact .inr (by have := k3.n; omega)
    have o6 : Ow h6 out' T_int 1 (i + 1) (s.w.take (i + 1)) := (o5.to et.symm rfl).ke k6 fun j hj hg => (f5' j hj).2 hg
    have f6 : ∀ j, isBk out' j → h.n ≤ j ∧ ¬ Gr G h5 h6 j := fun j hj => ⟨(f5' j hj).1, fun hg => by
      rcases hg with hg | hg
      · exact (f5' j hj).2 hg
      · have := Ow.bk_lt k5.w' o5 hj; omega⟩
    have K6 : Ke F h h6 := ((k3.new k4 fun _ f => f.elim).new k5 fun j hj => .inr (f3 j hj).1).new k6 fun j hj => hG j hj
    rcases Nat.lt_or_ge (i + 1) s.w.length with hlt | hge
    · obtain ⟨y', e1, e, q⟩ := b6 hlt
      subst e
      (try simp -dsimp (disch := omega) only [↓pre, sp, sp2, wp_some, Int.cast_ofNat_Int, Nat.reduceAdd, Nat.reduceMul, Nat.reduceSub, Nat.reduceLeDiff, Nat.reduceEqDiff, Nat.reducePow, Int.reduceToNat, Int.reducePow, Int.reduceAdd, Int.reduceSub, Int.reduceMul, Int.reduceLT, Int.reduceLE, Int.reduceEq, Int.reduceNeg])
      exact hj (m - 1) _ _ (by omega) ⟨i + 1, out', y', true, _, rfl, by omega, K6, o6, f6, hcell y' (List.mem_of_getElem? e1), fun hh => (by cases hh), fun _ => ⟨e1, q⟩, hG6⟩
    · obtain ⟨z, e, hzc, q⟩ := a6 (by omega)
      subst e
      (try simp -dsimp (disch := omega) only [↓pre, sp, sp2, wp_some, Int.cast_ofNat_Int, Nat.reduceAdd, Nat.reduceMul, Nat.reduceSub, Nat.reduceLeDiff, Nat.reduceEqDiff, Nat.reducePow, Int.reduceToNat, Int.reducePow, Int.reduceAdd, Int.reduceSub, Int.reduceMul, Int.reduceLT, Int.reduceLE, Int.reduceEq, Int.reduceNeg])
      exact hj (m - 1) _ _ (by omega) ⟨i + 1, out', z, false, _, rfl, by omega, K6, o6, f6, hzc, fun _ => ⟨by omega, q⟩, fun hh => (by cases hh), hG6⟩
  | false =>
    obtain ⟨hi, Q3⟩ := fa rfl
    subst hi
    (try simp -dsimp (disch := omega) only [↓pre, sp, sp2, wp_some, Int.cast_ofNat_Int, Nat.reduceAdd, Nat.reduceMul, Nat.reduceSub, Nat.reduceLeDiff, Nat.reduceEqDiff, Nat.reducePow, Int.reduceToNat, Int.reducePow, Int.reduceAdd, Int.reduceSub, Int.reduceMul, Int.reduceLT, Int.reduceLE, Int.reduceEq, Int.reduceNeg])
    refine Wp.bind (Q3.unlock X (n + 1) k3.w') fun v4 h4 ⟨k4, n4, Q4⟩ => ?_
    have o4 := o3.ke k4 fun j hj hg => (f3 j hj).2 hg
    rw [List.take_length] at o4
    have ed : ({ s with w := s.w.drop s.w.length, tak := s.tak + s.w.length, at_ := (s.at_ + s.w.length) % s.most } : QSt) = QStDrain s := by
      simp only [QStDrain, List.drop_length]
    rw [ed] at Q4
    exact Wp.ret ⟨k3.new k4 fun j hj => hG j hj, o4, fun j hj => ⟨(f3 j hj).1, by have := Ow.bk_lt k4.w' o4 hj; omega⟩, G, Q4, fun j hj => (hG j hj).imp id fun hh => ⟨hh, fun hb => (f3 j hb).2 hj⟩⟩
end Go.Proofs.Ytfppdfmffdkogaa.AI.QInt
