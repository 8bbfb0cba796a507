/- QueueTypes: what its text comes to. -/
import Derived.Test.YtfppdfmffdkogaaQThD
import Derived.Test.YtfppdfmffdkogaaQFun
import Derived.Test.YtfppdfmffdkogaaAiLib5
namespace Go.Proofs.Ytfppdfmffdkogaa.AI
open Go
set_option linter.unusedSimpArgs false
set_option linter.unusedVariables false
variable {ov : AOver} {h : AH} {v a b : AVal} {md md' : AMode} {p : Nat}
theorem knownT_spec (K : ov N_runglaw24_known = some knownYes) (n : Nat) : kc ov (n + 1) N_runglaw24_known [] h = some (.bool true, h) := ov_call K []
/-- A text's bytes, made. -/
theorem wp_mbytes {Q : AVal → AH → Prop} {K : AVal → AH → Ans} {e : TypeId} (w : Wf h) {s : List UInt8} (hl : s.length ≤ 2 ^ 47)
    (k : ∀ (p : Nat) (h1 : AH), p = h.n → Kp h h1 → h1.n = h.n + 1 → Ow h1 (.slice (some (p, 0, 1)) s.length s.length) e 1 s.length (bytesOf s) → Wp (K (.slice (some (p, 0, 1)) s.length s.length) h1) Q) : Wp (km (mBytes e (.str s)) h K) Q := by
  have : mBytes e (.str s) = some (⟨.row (bytesOf s) e true, .rw, []⟩, fun i => .slice (some (i, 0, 1)) s.length s.length) := by
    simp only [mBytes, hl, if_true, rowPlan, isCell_bytes]
  rw [this]
  have g : (h.push ⟨.row (bytesOf s) e true, .rw, []⟩).get h.n = some ⟨.row (bytesOf s) e true, .rw, []⟩ := by simp
  exact k h.n _ rfl (Kp.push0 w _ _) (by simp) (Ow.new g (by omega) _ (by simp [bytesOf_length]) (isCell_bytes s))
def clo (bn bi : Nat) : AVal := .func (.func N_runglaw24_QueueTypes_1) [] [.ptr (some (bn, 0)), .ptr (some (bi, 0))]
/-- What was put in, kept as it was. -/
def Tk (h : AH) (N : Nat → Prop) (nm : List UInt8) (z : Int) (k : Nat) (yy : List AVal) (f : AVal) : Prop :=
  ∃ (c : AVal) (bn bi : Nat), yy = [.str nm, .int .i64 z, .int .i64 k, c] ∧ f = clo bn bi ∧ Ow h c T_uint8 1 nm.length (bytesOf nm) ∧ (∀ j, isBk c j → ¬ N j ∧ j < h.n) ∧
    h.get bn = some ⟨.row [.int .i64 z] T_int false, .rw, []⟩ ∧ h.get bi = some ⟨.row [.int .i64 k] T_int false, .rw, []⟩ ∧ ¬ N bn ∧ ¬ N bi ∧ bn < h.n ∧ bi < h.n
variable {N N' : Nat → Prop} {nm : List UInt8} {z : Int} {k : Nat} {yy : List AVal} {f : AVal}
theorem Tk.ke {S : Nat → Prop} {h' : AH} (t : Tk h N nm z k yy f) (c : Ke S h h') (hS : ∀ j, S j → N j ∨ h.n ≤ j) : Tk h' N nm z k yy f := by
  obtain ⟨cc, bn, bi, e1, e2, o, fo, g1, g2, n1, n2, l1, l2⟩ := t
  have hn := c.n
  refine ⟨cc, bn, bi, e1, e2, o.ke c fun i hi hs => ?_, fun j hj => ⟨(fo j hj).1, by have := (fo j hj).2; omega⟩, c.gt g1 fun hs => ?_, c.gt g2 fun hs => ?_, n1, n2, by omega, by omega⟩
  · rcases hS i hs with hh | hh
    · exact (fo i hi).1 hh
    · have := (fo i hi).2; omega
  · rcases hS bn hs with hh | hh
    · exact n1 hh
    · omega
  · rcases hS bi hs with hh | hh
    · exact n2 hh
    · omega
theorem Tk.re (t : Tk h N nm z k yy f) (hN : ∀ j, N' j → N j ∨ h.n ≤ j) : Tk h N' nm z k yy f := by
  obtain ⟨cc, bn, bi, e1, e2, o, fo, g1, g2, n1, n2, l1, l2⟩ := t
  refine ⟨cc, bn, bi, e1, e2, o, fun j hj => ⟨fun hh => ?_, (fo j hj).2⟩, g1, g2, fun hh => ?_, fun hh => ?_, l1, l2⟩
  · rcases hN j hh with h1 | h1
    · exact (fo j hj).1 h1
    · have := (fo j hj).2; omega
  · rcases hN bn hh with h1 | h1
    · exact n1 h1
    · omega
  · rcases hN bi hh with h1 | h1
    · exact n2 h1
    · omega
theorem Tk.len (t : Tk h N nm z k yy f) : yy.length = 4 ∧ yy.all AVal.isCell = true := by
  obtain ⟨cc, bn, bi, rfl, e2, o, _⟩ := t
  refine ⟨rfl, ?_⟩
  have := Ow.isCell o
  show (AVal.isCell (.str nm) && (AVal.isCell (.int .i64 z) && (AVal.isCell (.int .i64 k) && (AVal.isCell cc && true)))) = true
  rw [this]; rfl
theorem flat4 : ∀ {ws : List (List AVal)} (_ : ∀ y ∈ ws, y.length = 4) {k : Nat} {yy : List AVal}, ws[k]? = some yy → ∃ rest, ws.flatten.drop (k * 4) = yy ++ rest
  | [], _, k, yy, e => by simp at e
  | y :: ws, hl, 0, yy, e => by
      simp only [List.getElem?_cons_zero, Option.some.injEq] at e
      subst e
      exact ⟨ws.flatten, by simp⟩
  | y :: ws, hl, k + 1, yy, e => by
      obtain ⟨rest, hr⟩ := flat4 (ws := ws) (fun y hy => hl y (List.mem_cons_of_mem _ hy)) (k := k) (yy := yy) (by simpa using e)
      refine ⟨rest, ?_⟩
      have h4 := hl y (List.mem_cons_self ..)
      rw [List.flatten_cons, show (k + 1) * 4 = y.length + k * 4 by omega, List.drop_append, List.drop_of_length_le (by omega), List.nil_append, Nat.add_sub_cancel_left, hr]
theorem flat4_len : ∀ {ws : List (List AVal)} (_ : ∀ y ∈ ws, y.length = 4), ws.flatten.length = ws.length * 4
  | [], _ => rfl
  | y :: ws, hl => by
      rw [List.flatten_cons, List.length_append, flat4_len (fun y hy => hl y (List.mem_cons_of_mem _ hy)), hl y (List.mem_cons_self ..), List.length_cons]; omega
/-- The queues, at a round's head. -/
structure Tp (h0 h : AH) (pq pr : Nat) (names : List (List UInt8)) (nums : List Int) (i : Nat) (sq sr : QSt) (Fq Fr : Nat → Prop) (ws : List (List AVal)) (fs : List AVal) : Prop where
  k : Ke (fun _ => True) h0 h
  q : QTh.QU h pq sq 0 Fq
  r : Qu T_queue_Queue_func___int_ T_func___int h pr sr 0 Fr
  hq : sq.w = ws.map AVal.agg
  hr : sr.w = fs
  lw : ws.length = i
  lf : fs.length = i
  d : ∀ j, Fq j → ¬ Fr j
  mq : sq.most = 64
  mr : sr.most = 64
  cq : sq.put ≤ i ∧ sq.ref ≤ i ∧ sq.tak = 0
  cr : sr.put ≤ i ∧ sr.ref ≤ i ∧ sr.tak = 0
  t : ∀ k, k < i → ∃ yy f, ws[k]? = some yy ∧ fs[k]? = some f ∧ Tk h (fun j => Fq j ∨ Fr j) (names.getD k []) (nums.getD k 0) k yy f
theorem Tp.fq {h0 : AH} {pq pr i : Nat} {names : List (List UInt8)} {nums : List Int} {sq sr : QSt} {Fq Fr : Nat → Prop} {ws : List (List AVal)} {fs : List AVal} (P : Tp h0 h pq pr names nums i sq sr Fq Fr ws fs) : (∀ j, Fq j → j < h.n) ∧ (∀ j, Fr j → j < h.n) := by
  obtain ⟨c1, C1⟩ := P.q
  obtain ⟨c2, C2⟩ := P.r
  exact ⟨C1.fl, C2.fl⟩
theorem Tp.kp {h0 h' : AH} {S : Nat → Prop} {pq pr i : Nat} {names : List (List UInt8)} {nums : List Int} {sq sr : QSt} {Fq Fr : Nat → Prop} {ws : List (List AVal)} {fs : List AVal} (P : Tp h0 h pq pr names nums i sq sr Fq Fr ws fs) (c : Ke S h h') (hS : ∀ j, S j → h.n ≤ j) : Tp h0 h' pq pr names nums i sq sr Fq Fr ws fs :=
  ⟨P.k.trans (c.mono fun _ _ => trivial), P.q.ke c (fun j hj hf => by have := hS j hj; have := P.fq.1 j hf; omega), P.r.ke c (fun j hj hf => by have := hS j hj; have := P.fq.2 j hf; omega), P.hq, P.hr, P.lw, P.lf, P.d, P.mq, P.mr, P.cq, P.cr,
    fun k hk => let ⟨yy, f, e1, e2, t⟩ := P.t k hk; ⟨yy, f, e1, e2, t.ke c fun j hj => .inr (hS j hj)⟩⟩
end Go.Proofs.Ytfppdfmffdkogaa.AI
