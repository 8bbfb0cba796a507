/- Regions that draw their order: one order is walked; what is read is held again ahead of each write, so that any other order comes to the same. -/
import Derived.Test.YtbcpmbggidemdaaAiWalk
namespace Go.Proofs.Ytbcpmbggidemdaa.AI
open Go
set_option linter.unusedSimpArgs false

variable {P : Program} {μ : Mu} {h : AH} {w : World} {gl : List Nat} {call : ACall}

/-! ### Which operation waits for which -/
def ancStep (acc : List Nat) (o : Oper) : Nat := o.after.toList.foldl (fun s e => if Region.binds .any e then s ||| 2 ^ e.on ||| acc.getD e.on 0 else s) 0
def ancGo : List Oper → List Nat → List Nat
  | [], acc => acc
  | o :: l, acc => ancGo l (acc ++ [ancStep acc o])
def ancTab (ops : Array Oper) : List Nat := ancGo ops.toList []
/-- Operation j waits for operation i. -/
def isAnc (tab : List Nat) (i j : Nat) : Bool := (tab.getD j 0).testBit i

theorem ancGo_prefix : ∀ (l : List Oper) (acc : List Nat), ∃ r, ancGo l acc = acc ++ r
  | [], acc => ⟨[], by simp [ancGo]⟩
  | o :: l, acc => by
      obtain ⟨r, hr⟩ := ancGo_prefix l (acc ++ [ancStep acc o])
      exact ⟨ancStep acc o :: r, by simp [ancGo, hr]⟩
theorem ancGo_length : ∀ (l : List Oper) (acc : List Nat), (ancGo l acc).length = acc.length + l.length
  | [], acc => by simp [ancGo]
  | o :: l, acc => by simp [ancGo, ancGo_length l]; omega
theorem ancGo_get : ∀ (l : List Oper) (acc : List Nat) (j : Nat) (o : Oper), l[j]? = some o → (ancGo l acc).getD (acc.length + j) 0 = ancStep ((ancGo l acc).take (acc.length + j)) o
  | [], acc, j, o, h => by simp at h
  | o' :: l, acc, 0, o, h => by
      simp only [List.getElem?_cons_zero, Option.some.injEq] at h
      subst h
      obtain ⟨r, hr⟩ := ancGo_prefix l (acc ++ [ancStep acc o'])
      simp [ancGo, hr]
  | o' :: l, acc, j + 1, o, h => by
      have := ancGo_get l (acc ++ [ancStep acc o']) j o (by simpa using h)
      simp only [ancGo]
      rw [show acc.length + (j + 1) = (acc ++ [ancStep acc o']).length + j by simp; omega]
      exact this
theorem ancFold_spec (acc : List Nat) (i : Nat) : ∀ (l : List Edge) (s : Nat), (l.foldl (fun s e => if Region.binds .any e then s ||| 2 ^ e.on ||| acc.getD e.on 0 else s) s).testBit i = true →
    s.testBit i = true ∨ ∃ e ∈ l, Region.binds .any e = true ∧ (e.on = i ∨ (acc.getD e.on 0).testBit i = true)
  | [], s, h => .inl h
  | e :: l, s, h => by
      simp only [List.foldl_cons] at h
      rcases ancFold_spec acc i l _ h with h1 | ⟨e', he', hb⟩
      · split at h1
        · rename_i hb
          simp only [Nat.testBit_or, Bool.or_eq_true, Nat.testBit_two_pow, decide_eq_true_eq] at h1
          rcases h1 with (h1 | h1) | h1
          · exact .inl h1
          · exact .inr ⟨e, by simp, hb, .inl h1⟩
          · exact .inr ⟨e, by simp, hb, .inr h1⟩
        · exact .inl h1
      · exact .inr ⟨e', by simp [he'], hb⟩
theorem isAnc_spec {ops : Array Oper} {i j : Nat} (h : isAnc (ancTab ops) i j = true) : ∃ o, ops[j]? = some o ∧ ∃ e ∈ o.after, Region.binds .any e = true ∧ (e.on = i ∨ (e.on < j ∧ isAnc (ancTab ops) i e.on = true)) := by
  unfold isAnc at h
  cases ho : ops[j]? with
  | none =>
    have : (ancTab ops).length = ops.size := by simp [ancTab, ancGo_length]
    have h2 : ops.size ≤ j := by simpa using ho
    rw [List.getD_eq_getElem?_getD, List.getElem?_eq_none (by omega)] at h
    simp at h
  | some o =>
    refine ⟨o, rfl, ?_⟩
    have hg := ancGo_get ops.toList [] j o (by simpa using ho)
    simp only [List.length_nil, Nat.zero_add] at hg
    unfold ancTab at h ⊢
    rw [hg] at h
    unfold ancStep at h
    rcases ancFold_spec _ i _ 0 h with h1 | ⟨e, he, hb, h2⟩
    · simp at h1
    · refine ⟨e, by simpa using he, hb, h2.imp id fun h3 => ?_⟩
      unfold isAnc
      by_cases hlt : e.on < j
      · rw [List.getD_eq_getElem?_getD, List.getElem?_take_of_lt hlt] at h3
        rw [List.getD_eq_getElem?_getD]; exact ⟨hlt, h3⟩
      · rw [List.getD_eq_getElem?_getD, List.getElem?_eq_none (by simp; omega)] at h3
        simp at h3

/-! ### Orders -/
/-- Executed operations, the last one first: each behind all that it waits for. -/
inductive Topo (tab : List Nat) : List Nat → Prop
  | nil : Topo tab []
  | cons {i : Nat} {p : List Nat} (hn : i ∉ p) (ha : ∀ j, isAnc tab j i = true → j ∈ p) (h : Topo tab p) : Topo tab (i :: p)

theorem Topo.anc {tab : List Nat} : ∀ {p : List Nat}, Topo tab p → ∀ {i j : Nat}, i ∈ p → isAnc tab j i = true → j ∈ p
  | _, .nil, _, _, h, _ => by cases h
  | _, .cons hn ha h, i, j, hi, hj => by
      rcases List.mem_cons.1 hi with rfl | hi
      · exact List.mem_cons_of_mem _ (ha j hj)
      · exact List.mem_cons_of_mem _ (h.anc hi hj)
theorem Topo.last {tab : List Nat} {f : Nat → Bool} : ∀ {p : List Nat}, Topo tab p → ∀ {i1 : Nat}, p.find? f = some i1 → ∀ i2 ∈ p, f i2 = true → i2 ≠ i1 → isAnc tab i1 i2 = false
  | _, .nil, _, h, _, _, _, _ => by simp at h
  | _, .cons (i := x) (p := p') hn ha h, i1, hf, i2, h2, hw, hne => by
      rw [List.find?_cons] at hf
      cases hx : f x with
      | true =>
        rw [hx] at hf
        simp only [Option.some.injEq] at hf
        subst hf
        have h2' : i2 ∈ p' := by
          rcases List.mem_cons.1 h2 with h3 | h3
          · exact absurd h3 hne
          · exact h3
        cases hb : isAnc tab x i2 with
        | false => rfl
        | true => exact absurd (h.anc h2' hb) hn
      | false =>
        rw [hx] at hf
        have h2' : i2 ∈ p' := by
          rcases List.mem_cons.1 h2 with h3 | h3
          · subst h3; rw [hx] at hw; cases hw
          · exact h3
        exact h.last hf i2 h2' hw hne
theorem Topo.same {tab : List Nat} {f : Nat → Bool} {p q : List Nat} (hp : Topo tab p) (hq : Topo tab q) (hs : ∀ i, f i = true → (i ∈ p ↔ i ∈ q))
    (ht : ∀ i j, f i = true → f j = true → i ≠ j → isAnc tab i j = true ∨ isAnc tab j i = true) : p.find? f = q.find? f := by
  cases h1 : p.find? f with
  | none =>
    cases h2 : q.find? f with
    | none => rfl
    | some i =>
      have hi := List.find?_some h2
      have hm := (hs i hi).2 (List.mem_of_find?_eq_some h2)
      have := List.find?_eq_none.1 h1 i hm
      exact absurd hi this
  | some i1 =>
    have hi1 := List.find?_some h1
    have hm1 := List.mem_of_find?_eq_some h1
    cases h2 : q.find? f with
    | none =>
      have := List.find?_eq_none.1 h2 i1 ((hs i1 hi1).1 hm1)
      exact absurd hi1 this
    | some i2 =>
      have hi2 := List.find?_some h2
      have hm2 := List.mem_of_find?_eq_some h2
      by_cases e : i1 = i2
      · rw [e]
      · exfalso
        rcases ht i1 i2 hi1 hi2 e with ha | ha
        · have := hp.last h1 i2 ((hs i2 hi2).2 hm2) hi2 (Ne.symm e)
          rw [this] at ha; cases ha
        · have := hq.last h2 i1 ((hs i1 hi1).1 hm1) hi1 e
          rw [this] at ha; cases ha

def dstOf (ops : Array Oper) (i : Nat) : Option Tmp := (ops[i]?).bind (·.dst)
/-- The slots behind the operations p (the last one first), which yield V. -/
def tA (ops : Array Oper) (V : Nat → AVal) (t : List AVal) : List Nat → List AVal
  | [] => t
  | i :: p => aPut (tA ops V t p) (dstOf ops i) (V i)
theorem tA_length (ops : Array Oper) (V : Nat → AVal) (t : List AVal) : ∀ p, (tA ops V t p).length = t.length
  | [] => rfl
  | i :: p => by
      simp only [tA, aPut]
      split <;> simp [tA_length ops V t p]
theorem tA_get (ops : Array Oper) (V : Nat → AVal) (t : List AVal) (s : Nat) : ∀ p, (tA ops V t p)[s]? = match p.find? (fun i => dstOf ops i == some s) with
    | some i => if s < t.length then some (V i) else none
    | none => t[s]?
  | [] => by simp [tA]
  | i :: p => by
      simp only [tA, List.find?_cons]
      cases hd : dstOf ops i with
      | none => simpa [aPut] using tA_get ops V t s p
      | some d =>
        simp only [aPut]
        by_cases e : d = s
        · subst e
          simp [List.getElem?_set, tA_length]
        · have hds : (some d == some s) = false := by simpa using e
          rw [List.getElem?_set_ne e, tA_get ops V t s p, hds]
theorem tA_congr {ops : Array Oper} {V V' : Nat → AVal} {t : List AVal} : ∀ {p : List Nat}, (∀ i ∈ p, V i = V' i) → tA ops V t p = tA ops V' t p
  | [], _ => rfl
  | i :: p, h => by
      simp only [tA]
      rw [tA_congr (p := p) fun j hj => h j (by simp [hj]), h i (by simp)]

/-! ### The walk -/
/-- The slots that an operation looks at. -/
def slots (ops : Array Oper) (o : Oper) : List Tmp := o.looksAt ops
/-- Does it not look at the heap? -/
def heapless : Op → Bool
  | .move _ | .assign _ | .pick .. | .build .. | .nilCheck _ | .binOp .. | .unOp .. | .makeInterface .. | .makeFunc .. | .fieldAddr .. | .field .. | .indexAddr .. | .index .. | .extract .. => true
  | .call { callee := .builtin .max, .. } | .call { callee := .builtin .min, .. } => true
  | _ => false
structure QRec where
  i : Nat
  op : Op
  t : List AVal
  v : AVal
def okAt (P : Program) (gl : List Nat) (h : AH) (rs : List QRec) : Bool := rs.all fun r => match aQ P (aEval gl r.t) r.op h with
  | some v => AVal.same v r.v
  | none => false

def aDrawGo (P : Program) (gl : List Nat) (call : ACall) (ops : Array Oper) (tab : List Nat) : List Nat → List AVal → AH → List QRec → Option (List AVal × AH)
  | [], t, h, rs => if okAt P gl h rs then some (t, h) else none
  | i :: rest, t, h, rs =>
    match ops[i]? with
    | none => none
    | some o => match aWanted ops t o with
      | none => none
      | some false => aDrawGo P gl call ops tab rest (aPut t o.dst (.tuple [])) h rs
      | some true => match kindOf P o.op with
        | .quiet => match aQ P (aEval gl t) o.op h with
          | some v => aDrawGo P gl call ops tab rest (aPut t o.dst v) h (if heapless o.op then rs else ⟨i, o.op, t, v⟩ :: rs)
          | none => none
        | .make => match aM P (aEval gl t) o.op with
          | some p => aDrawGo P gl call ops tab rest (aPut t o.dst (p.2 h.n)) (h.push p.1) rs
          | none => none
        | .eff => if okAt P gl h rs then
            match aE P call (aEval gl t) o.op h with
            | some (v, h') => aDrawGo P gl call ops tab rest (aPut t o.dst v) h' (rs.filter fun r => !isAnc tab r.i i)
            | none => none
          else none

/-- The order that is walked: what is quiet as early as may be. -/
def asapGo (P : Program) (ops : Array Oper) (tab : List Nat) : Nat → List Nat → List Nat → List Nat
  | 0, _, acc => acc.reverse
  | f + 1, left, acc =>
    let ready := left.filter fun i => left.all fun j => !isAnc tab j i
    let quiet := ready.filter fun i => match ops[i]? with | some o => kindOf P o.op != .eff | none => false
    match quiet, ready with
    | i :: _, _ => asapGo P ops tab f (left.filter (· != i)) (i :: acc)
    | [], i :: _ => asapGo P ops tab f (left.filter (· != i)) (i :: acc)
    | [], [] => acc.reverse
def asap (P : Program) (ops : Array Oper) : List Nat := asapGo P ops (ancTab ops) ops.size (List.range ops.size) []

def isEff (P : Program) (ops : Array Oper) (i : Nat) : Bool := match ops[i]? with | some o => kindOf P o.op == .eff | none => false
/-- The order, the last one first, is one that may be drawn; all are in it; writes wait for one another, and what stands behind one waits for it. -/
def topoB (P : Program) (ops : Array Oper) (tab : List Nat) : List Nat → Bool
  | [] => true
  | i :: p => !p.contains i && (match ops[i]? with | some o => o.after.toList.all fun e => !Region.binds .any e || (p.contains e.on && decide (e.on < ops.size)) | none => false) &&
      ((List.range ops.size).all fun j => !isAnc tab j i || p.contains j) && (p.all fun e => !isEff P ops e || isAnc tab e i) && topoB P ops tab p
def slotsB (ops : Array Oper) (tab : List Nat) : Bool :=
  (List.range ops.size).all fun i => (List.range ops.size).all fun j => i == j || match dstOf ops i, ops[j]? with
    | some d, some o => !((slots ops o).contains d || o.dst == some d) || isAnc tab i j || isAnc tab j i
    | _, _ => true
def drawOk (P : Program) (ops : Array Oper) : Bool :=
  topoB P ops (ancTab ops) (asap P ops).reverse && (asap P ops).length == ops.size && slotsB ops (ancTab ops) && ((List.range ops.size).all fun i => (asap P ops).contains i) && (ops.toList.all fun o => o.after.toList.all fun e => !Region.binds .any e || decide (e.on < ops.size))

def aDraw (P : Program) (gl : List Nat) (call : ACall) (ops : Array Oper) (s : St) : Option St :=
  (aDrawGo P gl call ops (ancTab ops) (asap P ops) s.t s.h []).map fun x => { s with t := x.1, h := x.2 }
end Go.Proofs.Ytbcpmbggidemdaa.AI
