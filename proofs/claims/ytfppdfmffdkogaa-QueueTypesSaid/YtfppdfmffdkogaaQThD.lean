/- queue, of four-celled things: all are taken. -/
import Derived.Test.YtfppdfmffdkogaaQTh
namespace Go.Proofs.Ytfppdfmffdkogaa.AI.QTh
open Go Go.Proofs.Ytfppdfmffdkogaa.AI
set_option linter.unusedSimpArgs false
set_option linter.unusedVariables false
variable {ov : AOver} {h : AH} {p : Nat} {s : QSt} {F : Nat → Prop} {lk : Int}
def QStDrain (s : QSt) : QSt := { s with w := [], tak := s.tak + s.w.length, at_ := (s.at_ + s.w.length) % s.most }
/-- Behind so many. -/
def QAt (s : QSt) (ws : List (List AVal)) (m : Nat) : QSt := { s with w := (ws.drop m).map AVal.agg, tak := s.tak + m, at_ := (s.at_ + m) % s.most }
abbrev QU (h : AH) (p : Nat) (s : QSt) (lk : Int) (F : Nat → Prop) : Prop := Qu4 T_queue_Queue_runglaw24_thing_ T_runglaw24_thing h p s lk F
/-- What asking for one comes to: behind m. -/
def AskQ (h2 : AH) (p : Nat) (s : QSt) (ws : List (List AVal)) (m : Nat) (G : Nat → Prop) (r : AVal) (h3 : AH) : Prop :=
  Ke G h2 h3 ∧ ∃ (yy : List AVal) (bb : Bool), r = .tuple [.agg yy, .bool bb] ∧ yy.length = 4 ∧ yy.all AVal.isCell = true ∧ (bb = false → m = ws.length ∧ QU h3 p (QAt s ws m) 1 (Gr G h2 h3)) ∧ (bb = true → ws[m]? = some yy ∧ QU h3 p (QAt s ws (m + 1)) 1 (Gr G h2 h3))
theorem ask_spec (X : Xs ov) (n : Nat) {h2 : AH} {ws : List (List AVal)} (hcell : ∀ yy ∈ ws, yy.length = 4 ∧ yy.all AVal.isCell = true) (hc : s.tak + ws.length < 2 ^ 62) {m : Nat} {G : Nat → Prop} (w2 : Wf h2) (hm : m ≤ ws.length) (Q2 : QU h2 p (QAt s ws m) 1 G) :
    Wp (kc ov (n + 3) N_queue_Queue_runglaw24_thing__first [.ptr (some (p, 0))] h2) (AskQ h2 p s ws m G) := by
  refine (first_spec X n w2 Q2 (by simp only [QAt]; omega)).mono ?_
  rintro r h3 ⟨k3, q3⟩
  refine ⟨k3, ?_⟩
  rcases Nat.lt_or_ge m ws.length with hlt | hge
  · have e : (QAt s ws m).w = .agg ws[m] :: (ws.drop (m + 1)).map AVal.agg := by
      simp only [QAt]; rw [List.drop_eq_getElem_cons hlt]; rfl
    rw [e] at q3
    have ep : (QAt s ws m).pop = QAt s ws (m + 1) := by
      simp only [QSt.pop, QAt, ← List.map_tail, List.tail_drop, Nat.mod_add_mod, Nat.add_assoc]
    obtain ⟨c1, c2⟩ := hcell ws[m] (List.getElem_mem hlt)
    refine ⟨ws[m], true, q3.1, c1, c2, fun hh => (by cases hh), fun _ => ⟨List.getElem?_eq_getElem hlt, ?_⟩⟩
    rw [← ep]; exact q3.2
  · have e : (QAt s ws m).w = [] := by simp only [QAt]; rw [List.drop_of_length_le (by omega)]; rfl
    rw [e] at q3
    exact ⟨z4, false, q3.1, rfl, rfl, fun _ => ⟨by omega, q3.2⟩, fun hh => (by cases hh)⟩
/-- What holds at the head of the loop. -/
def DrI (h : AH) (p : Nat) (s : QSt) (ws : List (List AVal)) (F : Nat → Prop) (m : Nat) (l : List AVal) (h3 : AH) : Prop :=
  ∃ (i : Nat) (out : AVal) (qb : Nat) (yy : List AVal) (bb : Bool) (G : Nat → Prop) (e : TypeId), l = [out, .ptr (some (qb, 0)), .bool bb] ∧ i + m = ws.length ∧ Ke F h h3 ∧ Ow h3 out T_runglaw24_thing 4 i (ws.take i).flatten ∧ (∀ j, isBk out j → h.n ≤ j ∧ ¬ G j ∧ j ≠ qb) ∧
    h3.get qb = some ⟨.row yy e false, .rw, []⟩ ∧ h.n ≤ qb ∧ ¬ G qb ∧ yy.length = 4 ∧ yy.all AVal.isCell = true ∧
    (bb = false → i = ws.length ∧ QU h3 p (QAt s ws i) 1 G) ∧ (bb = true → ws[i]? = some yy ∧ QU h3 p (QAt s ws (i + 1)) 1 G) ∧ (∀ j, G j → F j ∨ h.n ≤ j)
def DrainQ (h : AH) (p : Nat) (s : QSt) (ws : List (List AVal)) (F : Nat → Prop) (r : AVal) (h' : AH) : Prop :=
  Ke F h h' ∧ Ow h' r T_runglaw24_thing 4 ws.length ws.flatten ∧ (∀ i, isBk r i → h.n ≤ i) ∧ ∃ G, QU h' p (QStDrain s) 0 G ∧ ∀ i, G i → F i ∨ h.n ≤ i
theorem drain_spec (X : Xs ov) (n : Nat) (w : Wf h) (Q : QU h p s 0 F) {ws : List (List AVal)} (hw : s.w = ws.map AVal.agg) (hcell : ∀ yy ∈ ws, yy.length = 4 ∧ yy.all AVal.isCell = true) (hc : s.tak < 2 ^ 61) :
    Wp (kc ov (n + 4) N_queue_Queue_runglaw24_thing__Drain [.ptr (some (p, 0))] h) (DrainQ h p s ws F) := by
  rw [C_queue_Queue_runglaw24_thing__Drain X.p]; unfold F_queue_Queue_runglaw24_thing__Drain
  have hlw : s.w.length = ws.length := by rw [hw, List.length_map]
  have hat0 : s.at_ < s.most := by obtain ⟨cs, C⟩ := Q; exact C.at_
  have hn0 : ws.length ≤ 64 := by obtain ⟨cs, C⟩ := Q; have := C.n; have := C.m64; omega
  have hFl : ∀ i, F i → i < h.n := by obtain ⟨cs, C⟩ := Q; exact C.fl
  have l4 : ∀ {h' : AH} {q : Nat} {cs : List AVal} {e : TypeId} {o : Bool} {pr : List Nat}, h'.get q = some ⟨.row cs e o, .rw, pr⟩ → cs.length = 4 → rLoadA 4 (.ptr (some (q, 0))) h' = some (.agg cs) ∧ ((h'.row q).bind fun cs => if 4 ≤ cs.length then some (AVal.agg (List.take 4 cs)) else none) = some (.agg cs) := fun {h' q cs e o pr} g hl => by
    have hr := row_rw g
    constructor
    · rw [rLoadA_ptr, hr, Option.bind_some, if_pos (by omega), List.drop_zero, List.take_of_length_le (by omega)]
    · rw [hr, Option.bind_some, if_pos (by omega), List.take_of_length_le (by omega)]
  have s4 : ∀ yy : List AVal, yy.length = 4 → ∀ cs : List AVal, cs.length = 4 → splice cs 0 yy = yy := fun yy h1 cs h2 => by
    rw [splice_def, h1, List.drop_of_length_le (by omega)]; simp
  (try simp -dsimp (disch := omega) only [↓pre, sp, sp2, wp_some, Int.cast_ofNat_Int, Nat.reduceAdd, Nat.reduceMul, Nat.reduceSub, Nat.reduceLeDiff, Nat.reduceEqDiff, Nat.reducePow, Int.reduceToNat, Int.reducePow, Int.reduceAdd, Int.reduceSub, Int.reduceMul, Int.reduceLT, Int.reduceLE, Int.reduceEq, Int.reduceNeg, Nat.add_zero])
  refine Wp.bind (Q.dolock X n w) fun v1 h1 ⟨k1, n1, Q1⟩ => ?_
  (try simp -dsimp (disch := omega) only [↓pre, sp, sp2, wp_some, Int.cast_ofNat_Int, Nat.reduceAdd, Nat.reduceMul, Nat.reduceSub, Nat.reduceLeDiff, Nat.reduceEqDiff, Nat.reducePow, Int.reduceToNat, Int.reducePow, Int.reduceAdd, Int.reduceSub, Int.reduceMul, Int.reduceLT, Int.reduceLE, Int.reduceEq, Int.reduceNeg])
  have e0 : QAt s ws 0 = s := by
    simp only [QAt, List.drop_zero, Nat.add_zero, Nat.mod_eq_of_lt hat0]
    rw [← hw]
  refine Wp.bind (ask_spec (s := s) (G := F) X n hcell (by omega) k1.w' (Nat.zero_le _) (by rw [e0]; exact Q1)) fun v2 h2 ⟨k2, yy, bb, ev, hyl, hyc, fa, ta⟩ => ?_
  subst ev
  (try simp -dsimp (disch := omega) only [↓pre, sp, sp2, wp_some, Int.cast_ofNat_Int, Nat.reduceAdd, Nat.reduceMul, Nat.reduceSub, Nat.reduceLeDiff, Nat.reduceEqDiff, Nat.reducePow, Int.reduceToNat, Int.reducePow, Int.reduceAdd, Int.reduceSub, Int.reduceMul, Int.reduceLT, Int.reduceLE, Int.reduceEq, Int.reduceNeg])
  refine wp_box k2.w' rfl rfl fun qb h3 eb k3 n3 g3 => ?_
  (try simp -dsimp (disch := omega) only [↓pre, sp, sp2, wp_some, Int.cast_ofNat_Int, Nat.reduceAdd, Nat.reduceMul, Nat.reduceSub, Nat.reduceLeDiff, Nat.reduceEqDiff, Nat.reducePow, Int.reduceToNat, Int.reducePow, Int.reduceAdd, Int.reduceSub, Int.reduceMul, Int.reduceLT, Int.reduceLE, Int.reduceEq, Int.reduceNeg])
  refine wp_store (vs := yy) k3.w' g3 rfl hyl (by simp) hyc fun h4 k4 n4 g4 => ?_
  rw [s4 yy hyl _ rfl] at g4
  (try simp -dsimp (disch := omega) only [↓pre, sp, sp2, wp_some, Int.cast_ofNat_Int, Nat.reduceAdd, Nat.reduceMul, Nat.reduceSub, Nat.reduceLeDiff, Nat.reduceEqDiff, Nat.reducePow, Int.reduceToNat, Int.reducePow, Int.reduceAdd, Int.reduceSub, Int.reduceMul, Int.reduceLT, Int.reduceLE, Int.reduceEq, Int.reduceNeg])
  have hn2 := k2.n
  have K2 : Ke F h h2 := k1.trans k2
  have K4 : Ke F h h4 := (K2.trans (Kp.ke k3)).new k4 fun i hi => .inr (by omega)
  have q4 : ∀ {st : QSt}, QU h2 p st 1 (Gr F h1 h2) → QU h4 p st 1 (Gr F h1 h2) := fun {st} q => by
    refine (q.ke k3 fun i hi => hi.elim).ke k4 fun i hi hg => ?_
    rcases hg with hg | hg
    · have := hFl i hg; omega
    · omega
  refine wp_loop (DrI h p s ws F) ws.length (by omega) ⟨0, .slice none 0 0, qb, yy, bb, Gr F h1 h2, _, rfl, by omega, K4, by simpa using Ow.nil h4 T_runglaw24_thing 4 (by omega), fun j hj => hj.elim, g4, by omega, fun hg => by
    rcases hg with hg | hg
    · have := hFl qb hg; omega
    · omega, hyl, hyc, fun hb => ⟨(fa hb).1, q4 (fa hb).2⟩, fun hb => ⟨(ta hb).1, q4 (ta hb).2⟩, fun j hj => by
    rcases hj with hj | hj
    · exact .inl hj
    · exact .inr (by omega)⟩ ?_
  clear fa ta q4 g4 K4 Q1 k4 k3 g3
  rintro m _ h5 j ⟨i, out, qb, yy, bb, G, e, rfl, him, k5, o5, f5, g5, hqb, nG, hyl, hyc, fa, ta, hG⟩ hj
  unfold L_queue_Queue_runglaw24_thing__Drain_0
  (try simp -dsimp (disch := omega) only [↓pre, sp, sp2, wp_some, Int.cast_ofNat_Int, Nat.reduceAdd, Nat.reduceMul, Nat.reduceSub, Nat.reduceLeDiff, Nat.reduceEqDiff, Nat.reducePow, Int.reduceToNat, Int.reducePow, Int.reduceAdd, Int.reduceSub, Int.reduceMul, Int.reduceLT, Int.reduceLE, Int.reduceEq, Int.reduceNeg])
  cases bb with
  | true =>
    obtain ⟨ey, Q5⟩ := ta rfl
    have hi : i < ws.length := by
      rcases Nat.lt_or_ge i ws.length with hh | hh
      · exact hh
      · rw [List.getElem?_eq_none hh] at ey; cases ey
    have hGl : ∀ j, G j → j < h5.n := by obtain ⟨cs, C⟩ := Q5; exact C.fl
    (try simp -dsimp (disch := omega) only [↓pre, sp, sp2, wp_some, Int.cast_ofNat_Int, Nat.reduceAdd, Nat.reduceMul, Nat.reduceSub, Nat.reduceLeDiff, Nat.reduceEqDiff, Nat.reducePow, Int.reduceToNat, Int.reducePow, Int.reduceAdd, Int.reduceSub, Int.reduceMul, Int.reduceLT, Int.reduceLE, Int.reduceEq, Int.reduceNeg, l4 g5 hyl])
    have hfill : aFill (fun i => some (i * 4, 4)) (manyT 1 z4) [(0, .agg yy)] = some yy := by
      obtain ⟨a, b, c, d, rfl⟩ : ∃ a b c d, yy = [a, b, c, d] := by
        match yy, hyl with
        | [a, b, c, d], _ => exact ⟨a, b, c, d, rfl⟩
      rfl
    refine wp_buildSl (cs := yy) (sz := 4) (len := 1) (z := z4) k5.w' (by decide) hfill hyc fun q h6 hq k6 n6 g6 => ?_
    have sq : Sz h6 (.slice (some (q, 0, 4)) 1 1) 4 1 yy .rw := Ow.rd (e := T_runglaw24_thing) (Ow.new g6 (by omega) 1 (by omega) hyc)
    have hqn : qb < h5.n := k5.w'.lt _ _ g5
    (try simp -dsimp (disch := omega) only [↓pre, sp, sp2, wp_some, Int.cast_ofNat_Int, Nat.reduceAdd, Nat.reduceMul, Nat.reduceSub, Nat.reduceLeDiff, Nat.reduceEqDiff, Nat.reducePow, Int.reduceToNat, Int.reducePow, Int.reduceAdd, Int.reduceSub, Int.reduceMul, Int.reduceLT, Int.reduceLE, Int.reduceEq, Int.reduceNeg])
    refine wp_append k6.w' (o5.kp k6) sq hyc (by omega) (by omega) fun out' h7 o7 k7 f7 => ?_
    have Q7 := (Q5.ke k6 fun _ f => f.elim).ke k7 fun j hj hg => (f5 j hj).2.1 hg
    have g7 := k7.gt (k6.gt g5) fun hh => (f5 qb hh).2.2 rfl
    have hn6 := k6.n
    have hn7 := k7.n
    have hn5 := k5.n
    have f7' : ∀ j, isBk out' j → h.n ≤ j ∧ ¬ G j := fun j hj => by
      rcases f7 j hj with hh | hh
      · exact ⟨(f5 j hh).1, (f5 j hh).2.1⟩
      · exact ⟨by omega, fun hg => by have := hGl j hg; omega⟩
    have et : (ws.take (i + 1)).flatten = (ws.take i).flatten ++ yy := by
      rw [List.getElem?_eq_getElem hi] at ey
      cases ey
      rw [List.take_succ_eq_append_getElem hi, List.flatten_append]; simp
    (try simp -dsimp (disch := omega) only [↓pre, sp, sp2, wp_some, Int.cast_ofNat_Int, Nat.reduceAdd, Nat.reduceMul, Nat.reduceSub, Nat.reduceLeDiff, Nat.reduceEqDiff, Nat.reducePow, Int.reduceToNat, Int.reducePow, Int.reduceAdd, Int.reduceSub, Int.reduceMul, Int.reduceLT, Int.reduceLE, Int.reduceEq, Int.reduceNeg, l4 g7 hyl])
    refine wp_box k7.w' rfl rfl fun qc h8 ec k8 n8 g8 => ?_
    (try simp -dsimp (disch := omega) only [↓pre, sp, sp2, wp_some, Int.cast_ofNat_Int, Nat.reduceAdd, Nat.reduceMul, Nat.reduceSub, Nat.reduceLeDiff, Nat.reduceEqDiff, Nat.reducePow, Int.reduceToNat, Int.reducePow, Int.reduceAdd, Int.reduceSub, Int.reduceMul, Int.reduceLT, Int.reduceLE, Int.reduceEq, Int.reduceNeg])
    refine wp_store (vs := yy) k8.w' g8 rfl hyl (by simp) hyc fun h9 k9 n9 g9 => ?_
    have Q9 := (Q7.ke k8 fun _ f => f.elim).ke k9 fun j hj hg => by have := hGl j hg; omega
    (try simp -dsimp (disch := omega) only [↓pre, sp, sp2, wp_some, Int.cast_ofNat_Int, Nat.reduceAdd, Nat.reduceMul, Nat.reduceSub, Nat.reduceLeDiff, Nat.reduceEqDiff, Nat.reducePow, Int.reduceToNat, Int.reducePow, Int.reduceAdd, Int.reduceSub, Int.reduceMul, Int.reduceLT, Int.reduceLE, Int.reduceEq, Int.reduceNeg])
    refine Wp.bind (ask_spec (s := s) (G := G) (m := i + 1) X n hcell (by omega) k9.w' (by omega) Q9) fun v6 ha ⟨ka, y2, b2, ev, hyl2, hyc2, fa2, ta2⟩ => ?_
    subst ev
    have hna := ka.n
    have nGc : ¬ G qc := fun hg => by have := hGl qc hg; omega
    have ga := ka.gt g9 nGc
    have lout : ∀ j, isBk out' j → j < h7.n := fun j hj => Ow.bk_lt k7.w' o7 hj
    have o9 : Ow h9 out' T_runglaw24_thing 4 (i + 1) (ws.take (i + 1)).flatten := ((o7.to et.symm rfl).kp k8).ke k9 fun j hj e => by have := lout j hj; omega
    have oa : Ow ha out' T_runglaw24_thing 4 (i + 1) (ws.take (i + 1)).flatten := o9.ke ka fun j hj hg => (f7' j hj).2 hg
    (try simp -dsimp (disch := omega) only [↓pre, sp, sp2, wp_some, Int.cast_ofNat_Int, Nat.reduceAdd, Nat.reduceMul, Nat.reduceSub, Nat.reduceLeDiff, Nat.reduceEqDiff, Nat.reducePow, Int.reduceToNat, Int.reducePow, Int.reduceAdd, Int.reduceSub, Int.reduceMul, Int.reduceLT, Int.reduceLE, Int.reduceEq, Int.reduceNeg])
    refine wp_store (vs := y2) ka.w' ga rfl hyl2 (by rw [s4 yy hyl _ rfl]; omega) hyc2 fun hb kb nb gb => ?_
    rw [s4 y2 hyl2 _ (by rw [s4 yy hyl _ rfl]; exact hyl)] at gb
    (try simp -dsimp (disch := omega) only [↓pre, sp, sp2, wp_some, Int.cast_ofNat_Int, Nat.reduceAdd, Nat.reduceMul, Nat.reduceSub, Nat.reduceLeDiff, Nat.reduceEqDiff, Nat.reducePow, Int.reduceToNat, Int.reducePow, Int.reduceAdd, Int.reduceSub, Int.reduceMul, Int.reduceLT, Int.reduceLE, Int.reduceEq, Int.reduceNeg])
    have ob : Ow hb out' T_runglaw24_thing 4 (i + 1) (ws.take (i + 1)).flatten := oa.ke kb fun j hj e => by have := lout j hj; omega
    have hG' : ∀ j, Gr G h9 ha j → F j ∨ h.n ≤ j := fun j hj => by
      rcases hj with hj | hj
      · exact hG j hj
      · exact .inr (by omega)
    have nGr : ¬ Gr G h9 ha qc := fun hg => by
      rcases hg with hg | hg
      · exact nGc hg
      · omega
    have qb' : ∀ {st : QSt}, QU ha p st 1 (Gr G h9 ha) → QU hb p st 1 (Gr G h9 ha) := fun {st} q => q.ke kb fun j hj hg => nGr (hj ▸ hg)
    have K9 : Ke F h h9 := ((((k5.new k6 fun _ f => f.elim).new k7 fun j hj => .inr (f5 j hj).1).new k8 fun _ f => f.elim)).new k9 fun j hj => .inr (by omega)
    have Kb : Ke F h hb := (K9.new ka fun j hj => hG j hj).new kb fun j hj => .inr (by omega)
    exact hj (m - 1) _ _ (by omega) ⟨i + 1, out', qc, y2, b2, Gr G h9 ha, _, rfl, by omega, Kb, ob, fun j hj => ⟨(f7' j hj).1, fun hg => by
      rcases hg with hg | hg
      · exact (f7' j hj).2 hg
      · have := lout j hj; omega, fun e => by have := lout j hj; omega⟩, gb, by omega, nGr, hyl2, hyc2, fun hb => ⟨(fa2 hb).1, qb' (fa2 hb).2⟩, fun hb => ⟨(ta2 hb).1, qb' (ta2 hb).2⟩, hG'⟩
  | false =>
    obtain ⟨hi, Q5⟩ := fa rfl
    subst hi
    (try simp -dsimp (disch := omega) only [↓pre, sp, sp2, wp_some, Int.cast_ofNat_Int, Nat.reduceAdd, Nat.reduceMul, Nat.reduceSub, Nat.reduceLeDiff, Nat.reduceEqDiff, Nat.reducePow, Int.reduceToNat, Int.reducePow, Int.reduceAdd, Int.reduceSub, Int.reduceMul, Int.reduceLT, Int.reduceLE, Int.reduceEq, Int.reduceNeg])
    refine Wp.bind (Q5.unlock X (n + 1) k5.w') fun v4 h6 ⟨k6, n6, Q6⟩ => ?_
    have o6 := o5.ke k6 fun j hj hg => (f5 j hj).2.1 hg
    rw [List.take_length] at o6
    have ed : QAt s ws ws.length = QStDrain s := by
      simp only [QStDrain, QAt, List.drop_length, hlw]; rfl
    rw [ed] at Q6
    exact Wp.ret ⟨k5.new k6 fun j hj => hG j hj, o6, fun j hj => (f5 j hj).1, G, Q6, hG⟩
end Go.Proofs.Ytfppdfmffdkogaa.AI.QTh
