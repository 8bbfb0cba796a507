/- Chapter 17: a step, whole. -/
import Derived.Test.YtindiedfioiejaaDoorFb5
import Derived.Test.YtindiedfioiejaaDoorFbG
namespace Go.Proofs.YtindiedfioiejaaDoor.AI
open Go
set_option linter.unusedSimpArgs false
set_option linter.unusedVariables false
variable {ov : AOver} {h : AH}
def I64s (l : List Int) : Prop := ∀ x ∈ l, I64 x
theorem I64s.at {l : List Int} (k : I64s l) (i : Nat) : I64 (l.getD i 0) := by
  by_cases hi : i < l.length
  · have : l.getD i 0 = l[i] := by simp [hi]
    rw [this]; exact k _ (List.getElem_mem hi)
  · have : l.getD i 0 = 0 := by simp [show l.length ≤ i by omega]
    rw [this]; exact tr_I false
def Stt.laid (s : Stt) (f : Nm → Int) : Stt := { s with f := f }
/-- What holds at the head of the loop that lays pins. -/
def LI (h : AH) (p m : Nat) (s : Stt) (ns : List Nm) (li : List Int) (k : Nat) (l : List AVal) (h1 : AH) : Prop :=
  ∃ (i : Nat) (g : Nm → Int), l = [.int .i64 i] ∧ i + k = ns.length ∧ Ke (pm p m) h h1 ∧ Fs h1 p m (s.laid g) ∧ layF (ns.drop i) (li.drop i) g = layF ns li s.f
/-- What laying pins comes to. -/
def LayQ (h : AH) (p m : Nat) (s : Stt) (ns : List Nm) (li : List Int) (r : AVal) (h1 : AH) : Prop := Ke (pm p m) h h1 ∧ r = .tuple [] ∧ Fs h1 p m (s.laid (layF ns li s.f))
theorem lay_spec (H : Plain ov) (n : Nat) (w : Wf h) (tb : Tb h) (b : Bl) {x y : AVal} {ns : List Nm} {li : List Int} {md : AMode} {p m q2 q3 e2 e3 : Nat} {s : Stt}
    (hx : ∀ h', Ke (pm p m) h h' → Sz h' x 1 ns.length (strs ns) .rw) (hy : ∀ h', Ke (pm p m) h h' → Si h' y li md) (t : Fs h p m s) (g2 : h.get q2 = some ⟨.row [.str b.nm] e2 false, .rw, []⟩) (g3 : h.get q3 = some ⟨.row [.ptr (some (p, 0))] e3 false, .rw, []⟩)
    (hns : ∀ k ∈ ns, k ∈ b.ins ∨ k ∈ b.outs) (hl1 : ns.length ≤ 100) (hl : li.length ≤ 2 ^ 40) (hi : I64s li) (n2 : ¬ pm p m q2) (n3 : ¬ pm p m q3) :
    Wp (kc ov (n + 5) N_fb_Step_1 [x, y, .ptr (some (q2, 0)), .ptr (some (q3, 0))] h) (LayQ h p m s ns li) := by
  rw [C_fb_Step_1 H]; unfold F_fb_Step_1
  (try simp -dsimp (disch := omega) only [↓pre, sp, sp2, wp_some, Int.cast_ofNat_Int, Nat.reduceAdd, Nat.reduceMul, Nat.reduceSub, Nat.reduceLeDiff, Nat.reduceEqDiff, Nat.reducePow, Int.reduceToNat, Int.reducePow, Int.reduceAdd, Int.reduceSub, Int.reduceMul, Int.reduceLT, Int.reduceLE, Int.reduceEq, Int.reduceNeg, (hx h (Ke.refl w)).len])
  refine wp_loop (LI h p m s ns li) ns.length (by omega) ⟨0, s.f, rfl, by omega, Ke.refl w, t, by simp⟩ ?_
  rintro k _ h1 j ⟨i, g, rfl, hik, k1, t1, e1⟩ hj
  unfold L_fb_Step_1_0
  have x1 := hx _ k1
  have y1 : Si h1 y li md := hy _ k1
  have r2 := k1.gt g2 n2
  have r3 := k1.gt g3 n3
  (try simp -dsimp (disch := omega) only [↓pre, sp, sp2, wp_some, Int.cast_ofNat_Int, Nat.reduceAdd, Nat.reduceMul, Nat.reduceSub, Nat.reduceLeDiff, Nat.reduceEqDiff, Nat.reducePow, Int.reduceToNat, Int.reducePow, Int.reduceAdd, Int.reduceSub, Int.reduceMul, Int.reduceLT, Int.reduceLE, Int.reduceEq, Int.reduceNeg])
  refine wp_ite (fun c => ?_) (fun c => ?_)
  · have hin : i < ns.length := by omega
    have hx' : rLoad (ea x i) h1 = some (.str (ns.getD i [])) := by
      rw [x1.ld (by rw [strs_len]; omega)]; simp [strs, hin]
    have ei : IntKind.wrap .i64 ((i : Int) + 1) = ((i + 1 : Nat) : Int) := by rw [wr_i64 (by omega) (by omega)]; omega
    have hdn : ns.drop i = ns.getD i [] :: ns.drop (i + 1) := by rw [List.drop_eq_getElem_cons hin]; simp [hin]
    have hmem : ns.getD i [] ∈ b.ins ∨ ns.getD i [] ∈ b.outs := hns _ (by simp [hin])
    generalize ns.getD i [] = nm at *
    (try simp -dsimp (disch := omega) only [↓pre, sp, sp2, wp_some, Int.cast_ofNat_Int, Nat.reduceAdd, Nat.reduceMul, Nat.reduceSub, Nat.reduceLeDiff, Nat.reduceEqDiff, Nat.reducePow, Int.reduceToNat, Int.reducePow, Int.reduceAdd, Int.reduceSub, Int.reduceMul, Int.reduceLT, Int.reduceLE, Int.reduceEq, Int.reduceNeg, x1.at, hx', y1.len])
    refine wp_kJ (LI h p m s ns li (k - 1) ∘ fun _ => [.int .i64 ((i + 1 : Nat) : Int)]) (fun j2 hj2 => ?_) ?_
    · (try simp -dsimp (disch := omega) only [↓pre, sp, sp2, wp_some, Int.cast_ofNat_Int, Nat.reduceAdd, Nat.reduceMul, Nat.reduceSub, Nat.reduceLeDiff, Nat.reduceEqDiff, Nat.reducePow, Int.reduceToNat, Int.reducePow, Int.reduceAdd, Int.reduceSub, Int.reduceMul, Int.reduceLT, Int.reduceLE, Int.reduceEq, Int.reduceNeg])
      refine wp_ite (fun c2 => ?_) (fun c2 => ?_)
      · have hil : i < li.length := by omega
        have hyK : ∀ h', Kp h1 h' → rLoad (ea y i) h' = some (.int .i64 (li.getD i 0)) := fun h' k => (show Si h' y li md from y1.kp k).ldI hil
        have hy' := hyK h1 (Ke.refl k1.w')
        have hdl : li.drop i = li.getD i 0 :: li.drop (i + 1) := by rw [List.drop_eq_getElem_cons hil]; simp [hil]
        have hI := hi.at i
        generalize li.getD i 0 = v at *
        (try simp -dsimp (disch := omega) only [↓pre, sp, sp2, wp_some, Int.cast_ofNat_Int, Nat.reduceAdd, Nat.reduceMul, Nat.reduceSub, Nat.reduceLeDiff, Nat.reduceEqDiff, Nat.reducePow, Int.reduceToNat, Int.reducePow, Int.reduceAdd, Int.reduceSub, Int.reduceMul, Int.reduceLT, Int.reduceLE, Int.reduceEq, Int.reduceNeg, row_rw r3, t1.row, row_rw r2, y1.at, hy'])
        refine Wp.bind (tPin_spec H n k1.w' (tb.ke k1) b hmem) fun v2 h2 ⟨k2, e2⟩ => ?_
        subst e2
        have t2 := t1.kp k2
        have y2 := hyK h2 k2
        (try simp -dsimp (disch := omega) only [↓pre, sp, sp2, wp_some, Int.cast_ofNat_Int, Nat.reduceAdd, Nat.reduceMul, Nat.reduceSub, Nat.reduceLeDiff, Nat.reduceEqDiff, Nat.reducePow, Int.reduceToNat, Int.reducePow, Int.reduceAdd, Int.reduceSub, Int.reduceMul, Int.reduceLT, Int.reduceLE, Int.reduceEq, Int.reduceNeg, row_rw (k2.gt r3), t2.row, row_rw (k2.gt r2), y2])
        refine Wp.bind (wrap_spec H (n + 2) k2.w' (kdN nm) v hI) fun v3 h3 ⟨k3, e3⟩ => ?_
        subst e3
        have t3 := t2.kp k3
        have k13 : Kp h1 h3 := k2.trans k3
        (try simp -dsimp (disch := omega) only [↓pre, sp, sp2, wp_some, Int.cast_ofNat_Int, Nat.reduceAdd, Nat.reduceMul, Nat.reduceSub, Nat.reduceLeDiff, Nat.reduceEqDiff, Nat.reducePow, Int.reduceToNat, Int.reducePow, Int.reduceAdd, Int.reduceSub, Int.reduceMul, Int.reduceLT, Int.reduceLE, Int.reduceEq, Int.reduceNeg, row_rw (k13.gt r3), t3.row])
        refine wp_put k3.w' t3 nm _ fun h4 k4 n4 t4 => ?_
        (try simp -dsimp (disch := omega) only [↓pre, sp, sp2, wp_some, Int.cast_ofNat_Int, Nat.reduceAdd, Nat.reduceMul, Nat.reduceSub, Nat.reduceLeDiff, Nat.reduceEqDiff, Nat.reducePow, Int.reduceToNat, Int.reducePow, Int.reduceAdd, Int.reduceSub, Int.reduceMul, Int.reduceLT, Int.reduceLE, Int.reduceEq, Int.reduceNeg])
        refine hj2 _ _ ⟨i + 1, upd g nm (wrapM (kdN nm) v), rfl, by omega, k1.trans (k13.ke.trans k4), t4, ?_⟩
        rw [← e1, hdn, hdl]; rfl
      · (try simp -dsimp (disch := omega) only [↓pre, sp, sp2, wp_some, Int.cast_ofNat_Int, Nat.reduceAdd, Nat.reduceMul, Nat.reduceSub, Nat.reduceLeDiff, Nat.reduceEqDiff, Nat.reducePow, Int.reduceToNat, Int.reducePow, Int.reduceAdd, Int.reduceSub, Int.reduceMul, Int.reduceLT, Int.reduceLE, Int.reduceEq, Int.reduceNeg])
        refine hj2 _ _ ⟨i + 1, g, rfl, by omega, k1, t1, ?_⟩
        rw [← e1, hdn, List.drop_of_length_le (show li.length ≤ i by omega), List.drop_of_length_le (show li.length ≤ i + 1 by omega)]
        cases ns.drop (i + 1) <;> rfl
    · rintro l h4 hL
      (try simp -dsimp (disch := omega) only [↓pre, sp, sp2, wp_some, Int.cast_ofNat_Int, Nat.reduceAdd, Nat.reduceMul, Nat.reduceSub, Nat.reduceLeDiff, Nat.reduceEqDiff, Nat.reducePow, Int.reduceToNat, Int.reducePow, Int.reduceAdd, Int.reduceSub, Int.reduceMul, Int.reduceLT, Int.reduceLE, Int.reduceEq, Int.reduceNeg, ei])
      exact hj (k - 1) _ _ (by omega) hL
  · (try simp -dsimp (disch := omega) only [↓pre, sp, sp2, wp_some, Int.cast_ofNat_Int, Nat.reduceAdd, Nat.reduceMul, Nat.reduceSub, Nat.reduceLeDiff, Nat.reduceEqDiff, Nat.reducePow, Int.reduceToNat, Int.reducePow, Int.reduceAdd, Int.reduceSub, Int.reduceMul, Int.reduceLT, Int.reduceLE, Int.reduceEq, Int.reduceNeg])
    refine ⟨k1, rfl, ?_⟩
    rw [← e1, List.drop_of_length_le (show ns.length ≤ i by omega)]
    cases li.drop i <;> exact t1
/-- A block's value. -/
def Bl.val : Bl → AVal
  | .ton => .iface T_fb_ton (.agg []) | .tof => .iface T_fb_tof (.agg []) | .tp => .iface T_fb_tp (.agg [])
  | .ctu => .iface T_fb_count (.agg [.str pCU, .str [], .str pR, .str []]) | .ctd => .iface T_fb_count (.agg [.str [], .str pCD, .str [], .str pLD])
  | .ctud => .iface T_fb_count (.agg [.str pCU, .str pCD, .str pR, .str pLD])
  | .rt => .iface T_fb_edge (.agg [.bool false]) | .ft => .iface T_fb_edge (.agg [.bool true])
  | .sr => .iface T_fb_latch (.agg [.str pS1, .str pR]) | .rs => .iface T_fb_latch (.agg [.str pS, .str pR1])
theorem fbof_spec (H : Plain ov) (n : Nat) (b : Bl) : kc ov (n + 1) N_fb_of [.str b.nm] h = some (b.val, h) := by
  rw [C_fb_of H]
  cases b <;> rfl
theorem inv_edge : aMeth Tryd.prog T_fb_edge "rung/fb.step" = some N__fb_edge_step := by kernel_rfl
theorem inv_latch : aMeth Tryd.prog T_fb_latch "rung/fb.step" = some N__fb_latch_step := by kernel_rfl
theorem inv_count : aMeth Tryd.prog T_fb_count "rung/fb.step" = some N__fb_count_step := by kernel_rfl
theorem inv_ton : aMeth Tryd.prog T_fb_ton "rung/fb.step" = some N__fb_ton_step := by kernel_rfl
theorem inv_tof : aMeth Tryd.prog T_fb_tof "rung/fb.step" = some N__fb_tof_step := by kernel_rfl
theorem inv_tp : aMeth Tryd.prog T_fb_tp "rung/fb.step" = some N__fb_tp_step := by kernel_rfl
theorem rInv_of {call : ACall} {name : String} {t : TypeId} {v : AVal} {l : List AVal} {f : Nat} (e : aMeth Tryd.prog t name = some f) : rInv Tryd.prog call name (.iface t v) l h = call f (v :: l) h := by
  simp only [rInv, e]
theorem step_inv (H : Plain ov) (n : Nat) (w : Wf h) (b : Bl) {p m : Nat} {s : Stt} (t : Fs h p m s) : Wp (rInv Tryd.prog (kc ov (n + 5)) "rung/fb.step" b.val [.ptr (some (p, 0))] h) (StepQ h p m (b.step s)) := by
  cases b
  · show Wp (rInv Tryd.prog _ _ (.iface T_fb_ton (.agg [])) _ h) _
    rw [rInv_of inv_ton]; exact ton_spec H n w t
  · show Wp (rInv Tryd.prog _ _ (.iface T_fb_tof (.agg [])) _ h) _
    rw [rInv_of inv_tof]; exact tof_spec H n w t
  · show Wp (rInv Tryd.prog _ _ (.iface T_fb_tp (.agg [])) _ h) _
    rw [rInv_of inv_tp]; exact tp_spec H n w t
  · show Wp (rInv Tryd.prog _ _ (.iface T_fb_count (.agg [.str pCU, .str [], .str pR, .str []])) _ h) _
    rw [rInv_of inv_count]; exact count_spec H (n + 1) w t pCU [] pR []
  · show Wp (rInv Tryd.prog _ _ (.iface T_fb_count (.agg [.str [], .str pCD, .str [], .str pLD])) _ h) _
    rw [rInv_of inv_count]; exact count_spec H (n + 1) w t [] pCD [] pLD
  · show Wp (rInv Tryd.prog _ _ (.iface T_fb_count (.agg [.str pCU, .str pCD, .str pR, .str pLD])) _ h) _
    rw [rInv_of inv_count]; exact count_spec H (n + 1) w t pCU pCD pR pLD
  · show Wp (rInv Tryd.prog _ _ (.iface T_fb_edge (.agg [.bool false])) _ h) _
    rw [rInv_of inv_edge]; exact edge_spec H (n + 2) w t false
  · show Wp (rInv Tryd.prog _ _ (.iface T_fb_edge (.agg [.bool true])) _ h) _
    rw [rInv_of inv_edge]; exact edge_spec H (n + 2) w t true
  · show Wp (rInv Tryd.prog _ _ (.iface T_fb_latch (.agg [.str pS1, .str pR])) _ h) _
    rw [rInv_of inv_latch]; exact latch_spec H (n + 2) w t true
  · show Wp (rInv Tryd.prog _ _ (.iface T_fb_latch (.agg [.str pS, .str pR1])) _ h) _
    rw [rInv_of inv_latch]; exact latch_spec H (n + 2) w t false
def k3 (a b c : Int) : List AVal := [.int .i64 a, .int .i64 b, .int .i64 c]
def tellN (f : Nm → Int) (ns : List Nm) : List Int := ns.map fun n => wrapM (kdN n) (f n)
/-- What holds at the head of the loop that tells. -/
def TI (h : AH) (s : Stt) (ns : List Nm) (k : Nat) (l : List AVal) (h1 : AH) : Prop :=
  ∃ (i : Nat) (x : AVal), l = [x, .int .i64 i] ∧ i + k = ns.length ∧ Kp h h1 ∧ Oi h1 x (tellN s.f (ns.take i)) ∧ Fresh h x
def TellQ (h : AH) (q3 : Nat) (s : Stt) (ns : List Nm) (r : AVal) (h' : AH) : Prop :=
  Ke (· = q3) h h' ∧ ∃ x, r = .tuple [x, .agg (k3 s.k0 s.k1 s.k2)] ∧ Oi h' x (tellN s.f ns) ∧ Fresh h x
theorem tell_spec (H : Plain ov) (n : Nat) (w : Wf h) (tb : Tb h) (b : Bl) {y : AVal} {ns : List Nm} {p m q2 q3 q4 e2 e3 e4 : Nat} {s : Stt} {z : List AVal} {cd : ACall}
    (hy : Sz h y 1 ns.length (strs ns) .rw) (t : Fs h p m s) (g : Gd s) (g2 : h.get q2 = some ⟨.row [.str b.nm] e2 false, .rw, []⟩) (g3 : h.get q3 = some ⟨.row [.ptr (some (p, 0))] e3 false, .rw, []⟩) (g4 : h.get q4 = some ⟨.row z e4 false, .rw, []⟩) (hz : z.length = 3)
    (hns : ∀ k ∈ ns, k ∈ b.ins ∨ k ∈ b.outs) (hl1 : ns.length ≤ 100) :
    Wp (kLoop (L_fb_Step_0 (kc ov (n + 5)) cd (.int .i64 ns.length) y (.ptr (some (q2, 0))) (.ptr (some (q3, 0))) (.ptr (some (q4, 0)))) rounds [.slice none 0 0, .int .i64 0] h) (TellQ h q4 s ns) := by
  refine wp_loop (TI h s ns) ns.length (by omega) ⟨0, .slice none 0 0, rfl, by omega, Ke.refl w, Ow.nil _ _ _ (by omega), fun i hi => hi.elim⟩ ?_
  rintro k _ h1 j ⟨i, x, rfl, hik, k1, o1, f1⟩ hj
  unfold L_fb_Step_0
  have y1 := hy.kp k1
  have t1 := t.kp k1
  have r2 := k1.gt g2
  have r3 := k1.gt g3
  (try simp -dsimp (disch := omega) only [↓pre, sp, sp2, wp_some, Int.cast_ofNat_Int, Nat.reduceAdd, Nat.reduceMul, Nat.reduceSub, Nat.reduceLeDiff, Nat.reduceEqDiff, Nat.reducePow, Int.reduceToNat, Int.reducePow, Int.reduceAdd, Int.reduceSub, Int.reduceMul, Int.reduceLT, Int.reduceLE, Int.reduceEq, Int.reduceNeg])
  refine wp_ite (fun c => ?_) (fun c => ?_)
  · have hin : i < ns.length := by omega
    have hy' : rLoad (ea y i) h1 = some (.str (ns.getD i [])) := by
      rw [y1.ld (by rw [strs_len]; omega)]; simp [strs, hin]
    have ei : IntKind.wrap .i64 ((i : Int) + 1) = ((i + 1 : Nat) : Int) := by rw [wr_i64 (by omega) (by omega)]; omega
    have hmem : ns.getD i [] ∈ b.ins ∨ ns.getD i [] ∈ b.outs := hns _ (by simp [hin])
    have htk : tellN s.f (ns.take (i + 1)) = tellN s.f (ns.take i) ++ [wrapM (kdN (ns.getD i [])) (s.f (ns.getD i []))] := by
      unfold tellN
      rw [List.take_succ_eq_append_getElem hin, List.map_append]; simp only [List.map_cons, List.map_nil, List.getD_eq_getElem?_getD, List.getElem?_eq_getElem hin, Option.getD_some]
    generalize ns.getD i [] = nm at *
    (try simp -dsimp (disch := omega) only [↓pre, sp, sp2, wp_some, Int.cast_ofNat_Int, Nat.reduceAdd, Nat.reduceMul, Nat.reduceSub, Nat.reduceLeDiff, Nat.reduceEqDiff, Nat.reducePow, Int.reduceToNat, Int.reducePow, Int.reduceAdd, Int.reduceSub, Int.reduceMul, Int.reduceLT, Int.reduceLE, Int.reduceEq, Int.reduceNeg, y1.at, hy', row_rw r3, t1.row, row_rw r2, t1.look])
    refine Wp.bind (tPin_spec H (n + 1) k1.w' (tb.ke k1) b hmem) fun v2 h2 ⟨k2, e2⟩ => ?_
    subst e2
    have t2 := t1.kp k2
    (try simp -dsimp (disch := omega) only [↓pre, sp, sp2, wp_some, Int.cast_ofNat_Int, Nat.reduceAdd, Nat.reduceMul, Nat.reduceSub, Nat.reduceLeDiff, Nat.reduceEqDiff, Nat.reducePow, Int.reduceToNat, Int.reducePow, Int.reduceAdd, Int.reduceSub, Int.reduceMul, Int.reduceLT, Int.reduceLE, Int.reduceEq, Int.reduceNeg, row_rw (k2.gt r3), t2.row, row_rw (k2.gt r2), t2.look])
    refine Wp.bind (wrap_spec H (n + 3) k2.w' (kdN nm) (s.f nm) (g.f nm)) fun v3 h3 ⟨k3, e3⟩ => ?_
    subst e3
    (try simp -dsimp (disch := omega) only [↓pre, sp, sp2, wp_some, Int.cast_ofNat_Int, Nat.reduceAdd, Nat.reduceMul, Nat.reduceSub, Nat.reduceLeDiff, Nat.reduceEqDiff, Nat.reducePow, Int.reduceToNat, Int.reducePow, Int.reduceAdd, Int.reduceSub, Int.reduceMul, Int.reduceLT, Int.reduceLE, Int.reduceEq, Int.reduceNeg])
    refine wp_buildSl k3.w' (by simp) rfl rfl fun q h4 hq k4 n4 g4' => ?_
    have s5 : Oi h4 (.slice (some (q, 0, 1)) 1 1) [wrapM (kdN nm) (s.f nm)] := Ow.new g4' (by omega) 1 rfl rfl
    (try simp -dsimp (disch := omega) only [↓pre, sp, sp2, wp_some, Int.cast_ofNat_Int, Nat.reduceAdd, Nat.reduceMul, Nat.reduceSub, Nat.reduceLeDiff, Nat.reduceEqDiff, Nat.reducePow, Int.reduceToNat, Int.reducePow, Int.reduceAdd, Int.reduceSub, Int.reduceMul, Int.reduceLT, Int.reduceLE, Int.reduceEq, Int.reduceNeg])
    have k14 : Kp h1 h4 := (k2.trans k3).trans k4
    have hc : (tellN s.f (ns.take i)).length = i := by simp [tellN]; omega
    refine wp_append k4.w' (o1.kp k14) (Ow.rd s5) (i64s_cells _) (by omega) (by rw [hc]; simp; omega) fun x2 h5 o5 k5 f5 => ?_
    (try simp -dsimp (disch := omega) only [↓pre, sp, sp2, wp_some, Int.cast_ofNat_Int, Nat.reduceAdd, Nat.reduceMul, Nat.reduceSub, Nat.reduceLeDiff, Nat.reduceEqDiff, Nat.reducePow, Int.reduceToNat, Int.reducePow, Int.reduceAdd, Int.reduceSub, Int.reduceMul, Int.reduceLT, Int.reduceLE, Int.reduceEq, Int.reduceNeg, ei])
    refine hj (k - 1) _ _ (by omega) ⟨i + 1, x2, rfl, by omega, Ke.new_p (k1.trans k14) k5 f1, ?_, fun i hi => ?_⟩
    · rw [htk]; exact o5.to (by rw [i64s_append]) (by simp)
    · rcases f5 i hi with f | f
      · exact f1 i f
      · have := k1.n; have := k14.n; omega
  · have e1 : ns.take i = ns := List.take_of_length_le (by omega)
    rw [e1] at o1
    obtain ⟨z0, z1, z2, rfl⟩ : ∃ z0 z1 z2, z = [z0, z1, z2] := by
      match z, hz with
      | [a, b, c], _ => exact ⟨a, b, c, rfl⟩
    (try simp -dsimp (disch := omega) only [↓pre, sp, sp2, wp_some, Int.cast_ofNat_Int, Nat.reduceAdd, Nat.reduceMul, Nat.reduceSub, Nat.reduceLeDiff, Nat.reduceEqDiff, Nat.reducePow, Int.reduceToNat, Int.reducePow, Int.reduceAdd, Int.reduceSub, Int.reduceMul, Int.reduceLT, Int.reduceLE, Int.reduceEq, Int.reduceNeg, row_rw r3, t1.row])
    refine wp_store (vs := k3 s.k0 s.k1 s.k2) k1.w' (k1.gt g4) rfl rfl (by simp [k3]) rfl fun h2 k2 n2 g2' => ?_
    have el : rLoadA 3 (.ptr (some (q4, 0))) h2 = some (.agg (k3 s.k0 s.k1 s.k2)) := by rw [rLoadA_ptr, row_rw g2']; rfl
    (try simp -dsimp (disch := omega) only [↓pre, sp, sp2, wp_some, Int.cast_ofNat_Int, Nat.reduceAdd, Nat.reduceMul, Nat.reduceSub, Nat.reduceLeDiff, Nat.reduceEqDiff, Nat.reducePow, Int.reduceToNat, Int.reducePow, Int.reduceAdd, Int.reduceSub, Int.reduceMul, Int.reduceLT, Int.reduceLE, Int.reduceEq, Int.reduceNeg, el])
    have q : Ke (· = q4) h h2 := Ke.trans (Kp.ke k1) k2
    refine ⟨q, x, rfl, ?_, f1⟩
    refine o1.ke k2 fun i hi e => ?_
    subst e
    have := f1 _ hi
    have := w.lt _ _ g4
    omega
/-- What a call told. -/
def ToldQ (h : AH) (t : Told) (r : AVal) (h' : AH) : Prop := Kp h h' ∧ ∃ x, r = .tuple [x, .agg (k3 t.k0 t.k1 t.k2)] ∧ Oi h' x t.out ∧ Fresh h x
/-- What holds at the head of the loop that takes over what was kept. -/
def KI (h : AH) (p m : Nat) (k0 k1 k2 now : Int) (k : Nat) (l : List AVal) (h1 : AH) : Prop :=
  ∃ i : Nat, l = [.int .i64 i] ∧ i + k = 3 ∧ Ke (pm p m) h h1 ∧ Fs h1 p m ⟨fun _ => 0, if 0 < i then wrapM 4 k0 else k0, if 1 < i then wrapM 4 k1 else k1, if 2 < i then wrapM 4 k2 else k2, now⟩
theorem keeps3 (f : Int → Int) (F : Nm → Int) (k0 k1 k2 now : Int) (i : Nat) (hi : i < 3) :
    (⟨F, if 0 < i then f k0 else k0, if 1 < i then f k1 else k1, if 2 < i then f k2 else k2, now⟩ : Stt).keep i (f (if i = 0 then k0 else if i = 1 then k1 else k2)) =
      ⟨F, if 0 < i + 1 then f k0 else k0, if 1 < i + 1 then f k1 else k1, if 2 < i + 1 then f k2 else k2, now⟩ := by
  rcases (by omega : i = 0 ∨ i = 1 ∨ i = 2) with rfl | rfl | rfl <;> rfl
theorem keepI (k0 k1 k2 : Int) (i : Nat) (hi : i < 3) : rIndexA false 3 1 (.agg (k3 k0 k1 k2)) (.int .i64 i) = some (.int .i64 (if i = 0 then k0 else if i = 1 then k1 else k2)) := by
  rcases (by omega : i = 0 ∨ i = 1 ∨ i = 2) with rfl | rfl | rfl <;> rfl
theorem start_laid (b : Bl) (li lo : List Int) (k0 k1 k2 now : Int) (F : Int → Int) : ((⟨fun _ => 0, F k0, F k1, F k2, F now⟩ : Stt).laid (layF b.ins li fun _ => 0)).laid (layF b.outs lo ((⟨fun _ => 0, F k0, F k1, F k2, F now⟩ : Stt).laid (layF b.ins li fun _ => 0)).f) = ⟨layF b.outs lo (layF b.ins li fun _ => 0), F k0, F k1, F k2, F now⟩ := rfl
theorem bl_len (b : Bl) : b.ins.length ≤ 100 ∧ b.outs.length ≤ 100 := by cases b <;> decide
theorem step_spec (H : Plain ov) (n : Nat) (w : Wf h) (tb : Tb h) (b : Bl) {x y : AVal} {li lo : List Int} {md md' : AMode} {k0 k1 k2 now : Int}
    (hx : Si h x li md) (hy : Si h y lo md') (hl : li.length ≤ 2 ^ 40) (hl' : lo.length ≤ 2 ^ 40) (hi : I64s li) (ho : I64s lo) (i0 : I64 k0) (i1 : I64 k1) (i2 : I64 k2) (hn : I64 now) :
    Wp (kc ov (n + 6) N_fb_Step [.str b.nm, x, .agg (k3 k0 k1 k2), y, .int .i64 now] h) (ToldQ h (progM b li lo k0 k1 k2 now)) := by
  rw [C_fb_Step H]; unfold F_fb_Step
  refine wp_box w rfl rfl fun q0 h1 e0 K1 n1 g0 => ?_
  refine wp_box K1.w' rfl rfl fun q1 h2 e1 K2 n2 g1 => ?_
  (try simp -dsimp (disch := omega) only [↓pre, sp, sp2, wp_some, Int.cast_ofNat_Int, Nat.reduceAdd, Nat.reduceMul, Nat.reduceSub, Nat.reduceLeDiff, Nat.reduceEqDiff, Nat.reducePow, Int.reduceToNat, Int.reducePow, Int.reduceAdd, Int.reduceSub, Int.reduceMul, Int.reduceLT, Int.reduceLE, Int.reduceEq, Int.reduceNeg])
  refine wp_box K2.w' rfl rfl fun q3 h3 e3 K3 n3 g3 => ?_
  have eo : kc ov (n + 5) N_fb_of [.str b.nm] h3 = some (b.val, h3) := fbof_spec H (n + 4) b
  have en : ∀ c, rBin .eql .iface c b.val .nilIface = some (.bool false) := by intro c; cases b <;> rfl
  have k02 : Kp h h2 := K1.trans K2
  have k03 : Kp h h3 := k02.trans K3
  have k13 : Kp h1 h3 := K2.trans K3
  have G0 := k13.gt g0
  have G1 := K3.gt g1
  (try simp -dsimp (disch := omega) only [↓pre, sp, sp2, wp_some, Int.cast_ofNat_Int, Nat.reduceAdd, Nat.reduceMul, Nat.reduceSub, Nat.reduceLeDiff, Nat.reduceEqDiff, Nat.reducePow, Int.reduceToNat, Int.reducePow, Int.reduceAdd, Int.reduceSub, Int.reduceMul, Int.reduceLT, Int.reduceLE, Int.reduceEq, Int.reduceNeg, row_rw G0, eo, en])
  refine Wp.bind (tPins_spec H (n + 2) K3.w' (tb.ke k03) b) fun v4 h4 ⟨K4, xi, xo, ev, oi, oo, fi, fo⟩ => ?_
  subst ev
  (try simp -dsimp (disch := omega) only [↓pre, sp, sp2, wp_some, Int.cast_ofNat_Int, Nat.reduceAdd, Nat.reduceMul, Nat.reduceSub, Nat.reduceLeDiff, Nat.reduceEqDiff, Nat.reducePow, Int.reduceToNat, Int.reducePow, Int.reduceAdd, Int.reduceSub, Int.reduceMul, Int.reduceLT, Int.reduceLE, Int.reduceEq, Int.reduceNeg])
  refine wp_map K4.w' AVal.str (AVal.int .i64) 0 fun m h5 em K5 n5 mp5 => ?_
  have k35 : Kp h3 h5 := K4.trans K5
  have la : ∀ h', Kp h3 h' → rLoadA 3 (.ptr (some (q1, 0))) h' = some (.agg (k3 k0 k1 k2)) := fun h' k => by rw [rLoadA_ptr, row_rw (k.gt G1)]; rfl
  (try simp -dsimp (disch := omega) only [↓pre, sp, sp2, wp_some, Int.cast_ofNat_Int, Nat.reduceAdd, Nat.reduceMul, Nat.reduceSub, Nat.reduceLeDiff, Nat.reduceEqDiff, Nat.reducePow, Int.reduceToNat, Int.reducePow, Int.reduceAdd, Int.reduceSub, Int.reduceMul, Int.reduceLT, Int.reduceLE, Int.reduceEq, Int.reduceNeg, la h5 k35])
  refine wp_box K5.w' rfl rfl fun q6 h6 e6 K6 n6 g6 => ?_
  have k36 : Kp h3 h6 := k35.trans K6
  (try simp -dsimp (disch := omega) only [↓pre, sp, sp2, wp_some, Int.cast_ofNat_Int, Nat.reduceAdd, Nat.reduceMul, Nat.reduceSub, Nat.reduceLeDiff, Nat.reduceEqDiff, Nat.reducePow, Int.reduceToNat, Int.reducePow, Int.reduceAdd, Int.reduceSub, Int.reduceMul, Int.reduceLT, Int.reduceLE, Int.reduceEq, Int.reduceNeg, la h6 k36])
  refine Wp.bind (wrap_spec H (n + 3) K6.w' 4 now hn) fun v7 h7 ⟨K7, ev⟩ => ?_
  subst ev
  have k37 : Kp h3 h7 := k36.trans K7
  have eb : rBuild [(.map none), (.int .i64 0), (.int .i64 0), (.int .i64 0), (.int .i64 0)] [(0, 1), (1, 3), (4, 1)] [(0, .map (some m)), (1, .agg (k3 k0 k1 k2)), (2, .int .i64 (wrapM 4 now))] = some (.agg [.map (some m), .int .i64 k0, .int .i64 k1, .int .i64 k2, .int .i64 (wrapM 4 now)]) := rfl
  (try simp -dsimp (disch := omega) only [↓pre, sp, sp2, wp_some, Int.cast_ofNat_Int, Nat.reduceAdd, Nat.reduceMul, Nat.reduceSub, Nat.reduceLeDiff, Nat.reduceEqDiff, Nat.reducePow, Int.reduceToNat, Int.reducePow, Int.reduceAdd, Int.reduceSub, Int.reduceMul, Int.reduceLT, Int.reduceLE, Int.reduceEq, Int.reduceNeg, ↓eb])
  refine wp_box K7.w' rfl rfl fun p h8 e8 K8 n8 g8 => ?_
  have k38 : Kp h3 h8 := k37.trans K8
  (try simp -dsimp (disch := omega) only [↓pre, sp, sp2, wp_some, Int.cast_ofNat_Int, Nat.reduceAdd, Nat.reduceMul, Nat.reduceSub, Nat.reduceLeDiff, Nat.reduceEqDiff, Nat.reducePow, Int.reduceToNat, Int.reducePow, Int.reduceAdd, Int.reduceSub, Int.reduceMul, Int.reduceLT, Int.reduceLE, Int.reduceEq, Int.reduceNeg, la h8 k38])
  have k68 : Kp h6 h8 := K7.trans K8
  refine wp_store K8.w' (k68.gt g6) rfl rfl (by simp) rfl fun h9 k9 n9 g9 => ?_
  replace g9 : h9.get q6 = some ⟨.row [.ptr (some (p, 0))] T__fb_state false, .rw, []⟩ := g9
  have hq0 := K3.w'.lt _ _ G0
  have hq1 := K3.w'.lt _ _ G1
  have hq3 := K3.w'.lt _ _ g3
  have hn04 := K4.n
  have hn67 := K7.n
  have hn03 := k03.n
  have c9 : ∀ i o, h8.get i = some ⟨o, .rw, []⟩ → i ≠ q6 → h9.get i = some ⟨o, .rw, []⟩ := fun i o g ne => k9.gt g ne
  have G09 := c9 _ _ (k38.gt G0) (by omega)
  have G19 := c9 _ _ (k38.gt G1) (by omega)
  have G39 := c9 _ _ (k38.gt g3) (by omega)
  have G89 := c9 _ _ g8 (by omega)
  have mp9 : Mp AVal.str (AVal.int .i64) 0 h9 m (fun _ => 0) := Mp.ke (mp5.kp (K6.trans k68)) k9 (by omega)
  have t9 : Fs h9 p m ⟨fun _ => 0, k0, k1, k2, wrapM 4 now⟩ := ⟨G89, mp9, by omega⟩
  have k09 : Kp h h9 := Ke.new_p (k03.trans k38) k9 fun i hi => by omega
  have npq : ∀ i, i < h3.n → ¬ pm p m i := fun i hi hp => by rcases hp with hp | hp <;> omega
  have la9 : rLoadA 3 (.ptr (some (q1, 0))) h9 = some (.agg (k3 k0 k1 k2)) := by rw [rLoadA_ptr, row_rw G19]; rfl
  (try simp -dsimp (disch := omega) only [↓pre, sp, sp2, wp_some, Int.cast_ofNat_Int, Nat.reduceAdd, Nat.reduceMul, Nat.reduceSub, Nat.reduceLeDiff, Nat.reduceEqDiff, Nat.reducePow, Int.reduceToNat, Int.reducePow, Int.reduceAdd, Int.reduceSub, Int.reduceMul, Int.reduceLT, Int.reduceLE, Int.reduceEq, Int.reduceNeg, la9])
  have k49 : Kp h4 h9 := Ke.new_p (show Kp h4 h8 from (K5.trans K6).trans k68) k9 fun i hi => by have := K5.n; omega
  refine wp_loop (KI h9 p m k0 k1 k2 (wrapM 4 now)) 3 (by omega) ⟨0, rfl, rfl, Ke.refl k9.w', t9⟩ ?_
  rintro k _ ha j ⟨i, rfl, hik, ka, ta⟩ hj
  unfold L_fb_Step_1
  have r6 := ka.gt g9 (by intro hp; rcases hp with hp | hp <;> omega)
  (try simp -dsimp (disch := omega) only [↓pre, sp, sp2, wp_some, Int.cast_ofNat_Int, Nat.reduceAdd, Nat.reduceMul, Nat.reduceSub, Nat.reduceLeDiff, Nat.reduceEqDiff, Nat.reducePow, Int.reduceToNat, Int.reducePow, Int.reduceAdd, Int.reduceSub, Int.reduceMul, Int.reduceLT, Int.reduceLE, Int.reduceEq, Int.reduceNeg])
  refine wp_ite (fun c => ?_) (fun c => ?_)
  · have hi3 : i < 3 := by omega
    have ei : IntKind.wrap .i64 ((i : Int) + 1) = ((i + 1 : Nat) : Int) := by rw [wr_i64 (by omega) (by omega)]; omega
    have eI := keepI k0 k1 k2 i hi3
    have hI : I64 (if i = 0 then k0 else if i = 1 then k1 else k2) := by
      split
      · assumption
      · split <;> assumption
    have e3 := keeps3 (wrapM 4) (fun _ => 0) k0 k1 k2 (wrapM 4 now) i hi3
    generalize (if i = 0 then k0 else if i = 1 then k1 else k2) = kk at *
    have eA : rAtArr 3 1 (.ptr (some (p, 1))) (.int .i64 (i : Int)) = some (.ptr (some (p, 1 + i))) := by
      rw [rAtArr_ptr (by omega) (by omega)]; simp
    (try simp -dsimp (disch := omega) only [↓pre, sp, sp2, wp_some, Int.cast_ofNat_Int, Nat.reduceAdd, Nat.reduceMul, Nat.reduceSub, Nat.reduceLeDiff, Nat.reduceEqDiff, Nat.reducePow, Int.reduceToNat, Int.reducePow, Int.reduceAdd, Int.reduceSub, Int.reduceMul, Int.reduceLT, Int.reduceLE, Int.reduceEq, Int.reduceNeg, eI, row_rw r6])
    refine Wp.bind (wrap_spec H (n + 3) ka.w' 4 kk hI) fun v hb ⟨kb, ev⟩ => ?_
    subst ev
    (try simp -dsimp (disch := omega) only [↓pre, sp, sp2, wp_some, Int.cast_ofNat_Int, Nat.reduceAdd, Nat.reduceMul, Nat.reduceSub, Nat.reduceLeDiff, Nat.reduceEqDiff, Nat.reducePow, Int.reduceToNat, Int.reducePow, Int.reduceAdd, Int.reduceSub, Int.reduceMul, Int.reduceLT, Int.reduceLE, Int.reduceEq, Int.reduceNeg, eA, row_rw (kb.gt r6)])
    refine wp_keep kb.w' (ta.kp kb) i hi3 _ (o := 1 + i) (by omega) fun hc kc nc tc => ?_
    rw [e3] at tc
    (try simp -dsimp (disch := omega) only [↓pre, sp, sp2, wp_some, Int.cast_ofNat_Int, Nat.reduceAdd, Nat.reduceMul, Nat.reduceSub, Nat.reduceLeDiff, Nat.reduceEqDiff, Nat.reducePow, Int.reduceToNat, Int.reducePow, Int.reduceAdd, Int.reduceSub, Int.reduceMul, Int.reduceLT, Int.reduceLE, Int.reduceEq, Int.reduceNeg, ei])
    exact hj (k - 1) _ _ (by omega) ⟨i + 1, rfl, by omega, (ka.trans (Kp.ke kb)).trans kc, tc⟩
  · have hi3 : i = 3 := by omega
    subst hi3
    clear hj
    simp only [show (0 : Nat) < 3 by omega, show (1 : Nat) < 3 by omega, show (2 : Nat) < 3 by omega, if_true] at ta
    have old : ∀ h', Ke (pm p m) h9 h' → Kp h h' := fun h' k => Ke.new_p k09 k fun i hi => by rcases hi with hi | hi <;> omega
    have old4 : ∀ h', Ke (pm p m) h9 h' → Kp h4 h' := fun h' k => Ke.new_p k49 k fun i hi => by have := K5.n; rcases hi with hi | hi <;> omega
    have f0 : ¬ pm p m q0 := npq _ hq0
    have f6 : ¬ pm p m q6 := by intro hp; rcases hp with hp | hp <;> omega
    have f3 : ¬ pm p m q3 := npq _ hq3
    have ea : Wp (kc ov (n + 5) N_fb_Step_1 [xi, x, .ptr (some (q0, 0)), .ptr (some (q6, 0))] ha) (LayQ ha p m _ b.ins li) :=
      lay_spec H n ka.w' (tb.ke (old _ ka)) b (fun h' k => (Ow.rd oi).kp (old4 h' (ka.trans k))) (fun h' k => hx.kp (old h' (ka.trans k))) ta (ka.gt G09 f0) (ka.gt g9 f6) (fun k hk => .inl hk) (bl_len b).1 hl hi f0 f6
    (try simp -dsimp (disch := omega) only [↓pre, sp, sp2, wp_some, Int.cast_ofNat_Int, Nat.reduceAdd, Nat.reduceMul, Nat.reduceSub, Nat.reduceLeDiff, Nat.reduceEqDiff, Nat.reducePow, Int.reduceToNat, Int.reducePow, Int.reduceAdd, Int.reduceSub, Int.reduceMul, Int.reduceLT, Int.reduceLE, Int.reduceEq, Int.reduceNeg, sp5, List.nil_append, List.cons_append])
    refine Wp.bind ea fun v hb ⟨kb, ev, tb'⟩ => ?_
    subst ev
    have kab := ka.trans kb
    have eb : Wp (kc ov (n + 5) N_fb_Step_1 [xo, y, .ptr (some (q0, 0)), .ptr (some (q6, 0))] hb) (LayQ hb p m _ b.outs lo) :=
      lay_spec H n kb.w' (tb.ke (old _ kab)) b (fun h' k => (Ow.rd oo).kp (old4 h' (kab.trans k))) (fun h' k => hy.kp (old h' (kab.trans k))) tb' (kab.gt G09 f0) (kab.gt g9 f6) (fun k hk => .inr hk) (bl_len b).2 hl' ho f0 f6
    (try simp -dsimp (disch := omega) only [↓pre, sp, sp2, wp_some, Int.cast_ofNat_Int, Nat.reduceAdd, Nat.reduceMul, Nat.reduceSub, Nat.reduceLeDiff, Nat.reduceEqDiff, Nat.reducePow, Int.reduceToNat, Int.reducePow, Int.reduceAdd, Int.reduceSub, Int.reduceMul, Int.reduceLT, Int.reduceLE, Int.reduceEq, Int.reduceNeg, sp5, List.nil_append, List.cons_append])
    refine Wp.bind eb fun v hc ⟨kc, ev, tc⟩ => ?_
    subst ev
    have kac := kab.trans kc
    rw [start_laid b li lo k0 k1 k2 now (wrapM 4)] at tc
    (try simp -dsimp (disch := omega) only [↓pre, sp, sp2, wp_some, Int.cast_ofNat_Int, Nat.reduceAdd, Nat.reduceMul, Nat.reduceSub, Nat.reduceLeDiff, Nat.reduceEqDiff, Nat.reducePow, Int.reduceToNat, Int.reducePow, Int.reduceAdd, Int.reduceSub, Int.reduceMul, Int.reduceLT, Int.reduceLE, Int.reduceEq, Int.reduceNeg, row_rw (kac.gt g9 f6)])
    refine Wp.bind (step_inv H n kc.w' b tc) fun v hd ⟨kd, ev, td⟩ => ?_
    subst ev
    have kad := kac.trans kd
    have go := (Ow.rd oo).kp (old4 _ kad)
    (try simp -dsimp (disch := omega) only [↓pre, sp, sp2, wp_some, Int.cast_ofNat_Int, Nat.reduceAdd, Nat.reduceMul, Nat.reduceSub, Nat.reduceLeDiff, Nat.reduceEqDiff, Nat.reducePow, Int.reduceToNat, Int.reducePow, Int.reduceAdd, Int.reduceSub, Int.reduceMul, Int.reduceLT, Int.reduceLE, Int.reduceEq, Int.reduceNeg, go.len])
    refine (tell_spec H n kd.w' (tb.ke (old _ kad)) b go td (gd_step b (gd_start b li lo k0 k1 k2 now)) (kad.gt G09 f0) (kad.gt g9 f6) (kad.gt G39 f3) rfl (fun k hk => .inr hk) (bl_len b).2).mono fun r he ⟨ke, xr, er, or', fr⟩ => ?_
    have kz := old _ kad
    refine ⟨Ke.new_p kz ke fun i hi => by omega, xr, er, or', fun i hi => ?_⟩
    have := fr i hi
    have := kz.n
    omega
end Go.Proofs.YtindiedfioiejaaDoor.AI
