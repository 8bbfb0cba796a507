/- Draw, DrawS, DrawT, DrawU of the machine, joined. -/
import Derived.Test.YtfppdfmffdkogaaAiWalk
namespace Go.Proofs.Ytfppdfmffdkogaa.AI
open Go
set_option linter.unusedSimpArgs false

variable {P : Program} {μ : Mu} {h : AH} {w : World} {gl : List Nat} {call : ACall}

/-! ### Which operation waits for which -/
def ancStep (acc : List Nat) (o : Oper) : Nat := o.after.toList.foldl (fun s e => if Region.binds .any e then s ||| 2 ^ e.on ||| acc.getD e.on 0 else s) 0
def ancGo : List Oper → List Nat → List Nat
  | [], acc => acc
  | o :: l, acc => ancGo l (acc ++ [ancStep acc o])
def ancTab (ops : Array Oper) : List Nat := ancGo ops.toList []
/-- Operation j waits for operation i. -/
def isAnc (tab : List Nat) (i j : Nat) : Bool := (tab.getD j 0).testBit i

theorem ancGo_prefix : ∀ (l : List Oper) (acc : List Nat), ∃ r, ancGo l acc = acc ++ r
  | [], acc => ⟨[], by simp [ancGo]⟩
  | o :: l, acc => by
      obtain ⟨r, hr⟩ := ancGo_prefix l (acc ++ [ancStep acc o])
      exact ⟨ancStep acc o :: r, by simp [ancGo, hr]⟩
theorem ancGo_length : ∀ (l : List Oper) (acc : List Nat), (ancGo l acc).length = acc.length + l.length
  | [], acc => by simp [ancGo]
  | o :: l, acc => by simp [ancGo, ancGo_length l]; omega
theorem ancGo_get : ∀ (l : List Oper) (acc : List Nat) (j : Nat) (o : Oper), l[j]? = some o → (ancGo l acc).getD (acc.length + j) 0 = ancStep ((ancGo l acc).take (acc.length + j)) o
  | [], acc, j, o, h => by simp at h
  | o' :: l, acc, 0, o, h => by
      simp only [List.getElem?_cons_zero, Option.some.injEq] at h
      subst h
      obtain ⟨r, hr⟩ := ancGo_prefix l (acc ++ [ancStep acc o'])
      simp [ancGo, hr]
  | o' :: l, acc, j + 1, o, h => by
      have := ancGo_get l (acc ++ [ancStep acc o']) j o (by simpa using h)
      simp only [ancGo]
      rw [show acc.length + (j + 1) = (acc ++ [ancStep acc o']).length + j by simp; omega]
      exact this
theorem ancFold_spec (acc : List Nat) (i : Nat) : ∀ (l : List Edge) (s : Nat), (l.foldl (fun s e => if Region.binds .any e then s ||| 2 ^ e.on ||| acc.getD e.on 0 else s) s).testBit i = true →
    s.testBit i = true ∨ ∃ e ∈ l, Region.binds .any e = true ∧ (e.on = i ∨ (acc.getD e.on 0).testBit i = true)
  | [], s, h => .inl h
  | e :: l, s, h => by
      simp only [List.foldl_cons] at h
      rcases ancFold_spec acc i l _ h with h1 | ⟨e', he', hb⟩
      · split at h1
        · rename_i hb
          simp only [Nat.testBit_or, Bool.or_eq_true, Nat.testBit_two_pow, decide_eq_true_eq] at h1
          rcases h1 with (h1 | h1) | h1
          · exact .inl h1
          · exact .inr ⟨e, by simp, hb, .inl h1⟩
          · exact .inr ⟨e, by simp, hb, .inr h1⟩
        · exact .inl h1
      · exact .inr ⟨e', by simp [he'], hb⟩
theorem isAnc_spec {ops : Array Oper} {i j : Nat} (h : isAnc (ancTab ops) i j = true) : ∃ o, ops[j]? = some o ∧ ∃ e ∈ o.after, Region.binds .any e = true ∧ (e.on = i ∨ (e.on < j ∧ isAnc (ancTab ops) i e.on = true)) := by
  unfold isAnc at h
  cases ho : ops[j]? with
  | none =>
    have : (ancTab ops).length = ops.size := by simp [ancTab, ancGo_length]
    have h2 : ops.size ≤ j := by simpa using ho
    rw [List.getD_eq_getElem?_getD, List.getElem?_eq_none (by omega)] at h
    simp at h
  | some o =>
    refine ⟨o, rfl, ?_⟩
    have hg := ancGo_get ops.toList [] j o (by simpa using ho)
    simp only [List.length_nil, Nat.zero_add] at hg
    unfold ancTab at h ⊢
    rw [hg] at h
    unfold ancStep at h
    rcases ancFold_spec _ i _ 0 h with h1 | ⟨e, he, hb, h2⟩
    · simp at h1
    · refine ⟨e, by simpa using he, hb, h2.imp id fun h3 => ?_⟩
      unfold isAnc
      by_cases hlt : e.on < j
      · rw [List.getD_eq_getElem?_getD, List.getElem?_take_of_lt hlt] at h3
        rw [List.getD_eq_getElem?_getD]; exact ⟨hlt, h3⟩
      · rw [List.getD_eq_getElem?_getD, List.getElem?_eq_none (by simp; omega)] at h3
        simp at h3

/-! ### Orders -/
/-- Executed operations, the last one first: each behind all that it waits for. -/
inductive Topo (tab : List Nat) : List Nat → Prop
  | nil : Topo tab []
  | cons {i : Nat} {p : List Nat} (hn : i ∉ p) (ha : ∀ j, isAnc tab j i = true → j ∈ p) (h : Topo tab p) : Topo tab (i :: p)

theorem Topo.anc {tab : List Nat} : ∀ {p : List Nat}, Topo tab p → ∀ {i j : Nat}, i ∈ p → isAnc tab j i = true → j ∈ p
  | _, .nil, _, _, h, _ => by cases h
  | _, .cons hn ha h, i, j, hi, hj => by
      rcases List.mem_cons.1 hi with rfl | hi
      · exact List.mem_cons_of_mem _ (ha j hj)
      · exact List.mem_cons_of_mem _ (h.anc hi hj)
theorem Topo.last {tab : List Nat} {f : Nat → Bool} : ∀ {p : List Nat}, Topo tab p → ∀ {i1 : Nat}, p.find? f = some i1 → ∀ i2 ∈ p, f i2 = true → i2 ≠ i1 → isAnc tab i1 i2 = false
  | _, .nil, _, h, _, _, _, _ => by simp at h
  | _, .cons (i := x) (p := p') hn ha h, i1, hf, i2, h2, hw, hne => by
      rw [List.find?_cons] at hf
      cases hx : f x with
      | true =>
        rw [hx] at hf
        simp only [Option.some.injEq] at hf
        subst hf
        have h2' : i2 ∈ p' := by
          rcases List.mem_cons.1 h2 with h3 | h3
          · exact absurd h3 hne
          · exact h3
        cases hb : isAnc tab x i2 with
        | false => rfl
        | true => exact absurd (h.anc h2' hb) hn
      | false =>
        rw [hx] at hf
        have h2' : i2 ∈ p' := by
          rcases List.mem_cons.1 h2 with h3 | h3
          · subst h3; rw [hx] at hw; cases hw
          · exact h3
        exact h.last hf i2 h2' hw hne
theorem Topo.same {tab : List Nat} {f : Nat → Bool} {p q : List Nat} (hp : Topo tab p) (hq : Topo tab q) (hs : ∀ i, f i = true → (i ∈ p ↔ i ∈ q))
    (ht : ∀ i j, f i = true → f j = true → i ≠ j → isAnc tab i j = true ∨ isAnc tab j i = true) : p.find? f = q.find? f := by
  cases h1 : p.find? f with
  | none =>
    cases h2 : q.find? f with
    | none => rfl
    | some i =>
      have hi := List.find?_some h2
      have hm := (hs i hi).2 (List.mem_of_find?_eq_some h2)
      have := List.find?_eq_none.1 h1 i hm
      exact absurd hi this
  | some i1 =>
    have hi1 := List.find?_some h1
    have hm1 := List.mem_of_find?_eq_some h1
    cases h2 : q.find? f with
    | none =>
      have := List.find?_eq_none.1 h2 i1 ((hs i1 hi1).1 hm1)
      exact absurd hi1 this
    | some i2 =>
      have hi2 := List.find?_some h2
      have hm2 := List.mem_of_find?_eq_some h2
      by_cases e : i1 = i2
      · rw [e]
      · exfalso
        rcases ht i1 i2 hi1 hi2 e with ha | ha
        · have := hp.last h1 i2 ((hs i2 hi2).2 hm2) hi2 (Ne.symm e)
          rw [this] at ha; cases ha
        · have := hq.last h2 i1 ((hs i1 hi1).1 hm1) hi1 e
          rw [this] at ha; cases ha

def dstOf (ops : Array Oper) (i : Nat) : Option Tmp := (ops[i]?).bind (·.dst)
/-- The slots behind the operations p (the last one first), which yield V. -/
def tA (ops : Array Oper) (V : Nat → AVal) (t : List AVal) : List Nat → List AVal
  | [] => t
  | i :: p => aPut (tA ops V t p) (dstOf ops i) (V i)
theorem tA_length (ops : Array Oper) (V : Nat → AVal) (t : List AVal) : ∀ p, (tA ops V t p).length = t.length
  | [] => rfl
  | i :: p => by
      simp only [tA, aPut]
      split <;> simp [tA_length ops V t p]
theorem tA_get (ops : Array Oper) (V : Nat → AVal) (t : List AVal) (s : Nat) : ∀ p, (tA ops V t p)[s]? = match p.find? (fun i => dstOf ops i == some s) with
    | some i => if s < t.length then some (V i) else none
    | none => t[s]?
  | [] => by simp [tA]
  | i :: p => by
      simp only [tA, List.find?_cons]
      cases hd : dstOf ops i with
      | none => simpa [aPut] using tA_get ops V t s p
      | some d =>
        simp only [aPut]
        by_cases e : d = s
        · subst e
          simp [List.getElem?_set, tA_length]
        · have hds : (some d == some s) = false := by simpa using e
          rw [List.getElem?_set_ne e, tA_get ops V t s p, hds]
theorem tA_congr {ops : Array Oper} {V V' : Nat → AVal} {t : List AVal} : ∀ {p : List Nat}, (∀ i ∈ p, V i = V' i) → tA ops V t p = tA ops V' t p
  | [], _ => rfl
  | i :: p, h => by
      simp only [tA]
      rw [tA_congr (p := p) fun j hj => h j (by simp [hj]), h i (by simp)]

/-! ### The walk -/
/-- The slots that an operation looks at. -/
def slots (ops : Array Oper) (o : Oper) : List Tmp := o.looksAt ops
/-- Does it not look at the heap? -/
def heapless : Op → Bool
  | .move _ | .assign _ | .pick .. | .build .. | .nilCheck _ | .binOp .. | .unOp .. | .makeInterface .. | .makeFunc .. | .fieldAddr .. | .field .. | .indexAddr .. | .index .. | .extract .. => true
  | .call { callee := .builtin .max, .. } | .call { callee := .builtin .min, .. } => true
  | _ => false
structure QRec where
  i : Nat
  op : Op
  t : List AVal
  v : AVal
def okAt (P : Program) (gl : List Nat) (h : AH) (rs : List QRec) : Bool := rs.all fun r => match aQ P (aEval gl r.t) r.op h with
  | some v => AVal.same v r.v
  | none => false

def aDrawGo (P : Program) (gl : List Nat) (call : ACall) (ops : Array Oper) (tab : List Nat) : List Nat → List AVal → AH → List QRec → Option (List AVal × AH)
  | [], t, h, rs => if okAt P gl h rs then some (t, h) else none
  | i :: rest, t, h, rs =>
    match ops[i]? with
    | none => none
    | some o => match aWanted ops t o with
      | none => none
      | some false => aDrawGo P gl call ops tab rest (aPut t o.dst (.tuple [])) h rs
      | some true => match kindOf P o.op with
        | .quiet => match aQ P (aEval gl t) o.op h with
          | some v => aDrawGo P gl call ops tab rest (aPut t o.dst v) h (if heapless o.op then rs else ⟨i, o.op, t, v⟩ :: rs)
          | none => none
        | .make => match aM P (aEval gl t) o.op with
          | some p => aDrawGo P gl call ops tab rest (aPut t o.dst (p.2 h.n)) (h.push p.1) rs
          | none => none
        | .eff => if okAt P gl h rs then
            match aE P call (aEval gl t) o.op h with
            | some (v, h') => aDrawGo P gl call ops tab rest (aPut t o.dst v) h' (rs.filter fun r => !isAnc tab r.i i)
            | none => none
          else none

/-- The order that is walked: what is quiet as early as may be. -/
def asapGo (P : Program) (ops : Array Oper) (tab : List Nat) : Nat → List Nat → List Nat → List Nat
  | 0, _, acc => acc.reverse
  | f + 1, left, acc =>
    let ready := left.filter fun i => left.all fun j => !isAnc tab j i
    let quiet := ready.filter fun i => match ops[i]? with | some o => kindOf P o.op != .eff | none => false
    match quiet, ready with
    | i :: _, _ => asapGo P ops tab f (left.filter (· != i)) (i :: acc)
    | [], i :: _ => asapGo P ops tab f (left.filter (· != i)) (i :: acc)
    | [], [] => acc.reverse
def asap (P : Program) (ops : Array Oper) : List Nat := asapGo P ops (ancTab ops) ops.size (List.range ops.size) []

def isEff (P : Program) (ops : Array Oper) (i : Nat) : Bool := match ops[i]? with | some o => kindOf P o.op == .eff | none => false
/-- The order, the last one first, is one that may be drawn; all are in it; writes wait for one another, and what stands behind one waits for it. -/
def topoB (P : Program) (ops : Array Oper) (tab : List Nat) : List Nat → Bool
  | [] => true
  | i :: p => !p.contains i && (match ops[i]? with | some o => o.after.toList.all fun e => !Region.binds .any e || (p.contains e.on && decide (e.on < ops.size)) | none => false) &&
      ((List.range ops.size).all fun j => !isAnc tab j i || p.contains j) && (p.all fun e => !isEff P ops e || isAnc tab e i) && topoB P ops tab p
def slotsB (ops : Array Oper) (tab : List Nat) : Bool :=
  (List.range ops.size).all fun i => (List.range ops.size).all fun j => i == j || match dstOf ops i, ops[j]? with
    | some d, some o => !((slots ops o).contains d || o.dst == some d) || isAnc tab i j || isAnc tab j i
    | _, _ => true
def drawOk (P : Program) (ops : Array Oper) : Bool :=
  topoB P ops (ancTab ops) (asap P ops).reverse && (asap P ops).length == ops.size && slotsB ops (ancTab ops) && ((List.range ops.size).all fun i => (asap P ops).contains i) && (ops.toList.all fun o => o.after.toList.all fun e => !Region.binds .any e || decide (e.on < ops.size))

def aDraw (P : Program) (gl : List Nat) (call : ACall) (ops : Array Oper) (s : St) : Option St :=
  (aDrawGo P gl call ops (ancTab ops) (asap P ops) s.t s.h []).map fun x => { s with t := x.1, h := x.2 }
end Go.Proofs.Ytfppdfmffdkogaa.AI
namespace Go.Proofs.Ytfppdfmffdkogaa.AI
open Go
set_option linter.unusedSimpArgs false

variable {P : Program} {μ : Mu} {h : AH} {w : World} {gl : List Nat} {call : ACall}

theorem map_env {ρ ρ' : AEnv} {l : List Operand} (h : ∀ x ∈ l, ρ x = ρ' x) : l.map ρ = l.map ρ' := List.map_congr_left h
theorem parts_env {ρ ρ' : AEnv} {ps : Array (Nat × Operand)} (h : ∀ x ∈ (ps.toList.map (·.2)).toArray, ρ x = ρ' x) : aParts ρ ps = aParts ρ' ps := by
  unfold aParts
  refine List.map_congr_left fun p hp => ?_
  rw [h p.2 (by simpa using ⟨p.1, by simpa using hp⟩)]

theorem aQ_congr {ρ ρ' : AEnv} {op : Op} (h : ∀ x ∈ op.operands, ρ x = ρ' x) (hp : AH) : aQ P ρ op hp = aQ P ρ' op hp := by
  unfold aQ
  split <;> simp only [Op.operands, Call.operands] at h
  case h_1 x => rw [h x (by simp)]
  case h_2 x => rw [h x (by simp)]
  case h_3 c a b => rw [h c (by simp), h a (by simp), h b (by simp)]
  case h_4 t ps => rw [parts_env h]
  case h_5 t a => rw [h a (by simp)]
  case h_6 x => rw [h x (by simp)]
  case h_7 op t x y _ => rw [h x (by simp), h y (by simp)]
  case h_8 op t x => rw [h x (by simp)]
  case h_9 s d x => rw [h x (by simp)]
  case h_10 t x => rw [h x (by simp)]
  case h_11 fn a b => rw [map_env fun x hx => h x (by simp at hx ⊢; exact .inl hx), map_env fun x hx => h x (by simp at hx ⊢; exact .inr hx)]
  case h_12 t x lo hi mx =>
    have h1 : lo.map ρ = lo.map ρ' := by cases lo <;> simp_all
    have h2 : hi.map ρ = hi.map ρ' := by cases hi <;> simp_all
    have h3 : mx.map ρ = mx.map ρ' := by cases mx <;> simp_all
    rw [h x (by simp), h1, h2, h3]
  case h_13 s x f => rw [h x (by simp)]
  case h_14 t x f => rw [h x (by simp)]
  case h_15 t x i => rw [h x (by simp), h i (by simp)]
  case h_16 t x i => rw [h x (by simp), h i (by simp)]
  case h_17 x i => rw [h x (by simp)]
  case h_18 b args ats => rw [map_env fun x hx => h x (by simpa using hx)]
  case h_19 t x k ok => rw [h x (by simp), h k (by simp)]
  case h_20 => rfl
theorem aM_congr {ρ ρ' : AEnv} {op : Op} (h : ∀ x ∈ op.operands, ρ x = ρ' x) : aM P ρ op = aM P ρ' op := by
  unfold aM
  split <;> simp only [Op.operands] at h
  · rfl
  · rename_i e x; rw [h x (by simp)]
  · rw [parts_env h]
  · rfl
  · rename_i t l c; rw [h l (by simp), h c (by simp)]
  · rename_i s d x; rw [h x (by simp)]
  · rfl
theorem aE_congr {ρ ρ' : AEnv} {op : Op} (h : ∀ x ∈ op.operands, ρ x = ρ' x) (hp : AH) : aE P call ρ op hp = aE P call ρ' op hp := by
  unfold aE
  split <;> simp only [Op.operands, Call.operands] at h
  · rename_i t a x; rw [h a (by simp), h x (by simp)]
  · rw [map_env fun x hx => h x (by simpa using hx)]
  · rename_i f args ats
    rw [h f (by simp), map_env fun x hx => h x (by simp at hx ⊢; exact .inr hx)]
  · rename_i s d x; rw [h x (by simp)]
  · rename_i t m k x; rw [h m (by simp), h k (by simp), h x (by simp)]
  · rename_i t m k x; rw [h m (by simp), h k (by simp), h x (by simp)]
  · rename_i t m k; rw [h m (by simp), h k (by simp)]
  · rename_i t m st x; rw [h m (by simp), h st (by simp), h x (by simp)]
  · rename_i r name args ats
    rw [h r (by simp), map_env fun x hx => h x (by simp at hx ⊢; exact .inr hx)]
  · rfl
theorem aQ_heapless {ρ : AEnv} {op : Op} (hl : heapless op = true) (h1 h2 : AH) : aQ P ρ op h1 = aQ P ρ op h2 := by
  unfold heapless at hl
  split at hl <;> first | rfl | (cases hl; done) | skip

theorem eval_slots {ops : Array Oper} {o : Oper} {t t' : List AVal} (h : ∀ s ∈ slots ops o, t[s]? = t'[s]?) : ∀ x ∈ o.op.operands, aEval gl t x = aEval gl t' x := by
  intro x hx
  cases x with
  | tmp s =>
    have : s ∈ slots ops o := by
      unfold slots Oper.looksAt
      refine List.mem_append.2 (.inl ?_)
      rw [List.mem_filterMap]
      exact ⟨.tmp s, by simpa using hx, rfl⟩
    simp only [aEval, List.getD_eq_getElem?_getD, h s this]
  | const v => rfl
  | global g => rfl
  | func f => rfl
theorem wanted_slots {ops : Array Oper} {o : Oper} {t t' : List AVal} (h : ∀ s ∈ slots ops o, t[s]? = t'[s]?) : aWanted ops t o = aWanted ops t' o := by
  unfold aWanted
  cases hg : o.guard with
  | none => rfl
  | some p =>
    obtain ⟨j, want⟩ := p
    simp only
    cases hd : (ops[j]?).bind (·.dst) with
    | none => rfl
    | some d =>
      have : d ∈ slots ops o := by
        unfold slots Oper.looksAt
        refine List.mem_append.2 (.inr ?_)
        rw [hg]
        simp [hd]
      simp only [Option.bind_some, h d this]

/-- A block that the abstract heap has already gets its place. -/
theorem ghost_new (r : Rel μ h w) {s : Sem Value} {p : APlan} (g : PlanGood P μ w s p) {i : Nat} (hi : i < h.n) (hm : μ i = none) (hg : h.get i = some p.1) :
    ∃ v' w' μ', s.run P w = .ok v' w' ∧ μ.le μ' ∧ (∀ j, j ≠ i → μ' j = μ j) ∧ VR μ' (p.2 i) v' ∧ Rel μ' h w' ∧ w'.os = w.os ∧ w'.tape = w.tape ∧ w'.output = w.output ∧ w.heap.size ≤ w'.heap.size ∧
      (∀ cb, cb < w.heap.size → w'.heap[cb]? = w.heap[cb]?) ∧ (∀ m, μ' i = some m → w.heap.size ≤ m.cb) := by
  obtain ⟨h1, h2, obj, m, v', dr, hrun, hcb, hall⟩ := g
  have hle : μ.le (muNew μ i m) := fun j mj hj => by
    simp only [muNew]
    have : j ≠ i := fun e => by rw [e, hm] at hj; cases hj
    rw [if_neg this]; exact hj
  have hL := hall (muNew μ i m) i hle (by simp [muNew])
  have hheap : ∀ k, k < w.heap.size → (w.heap.push obj)[k]? = w.heap[k]? := fun k hk => by rw [Array.getElem?_push, if_neg (by omega)]
  refine ⟨v', _, muNew μ i m, hrun, hle, fun j hj => by simp [muNew, hj], hL.2, ⟨?_, ?_, ?_, ?_, ?_, ?_⟩, rfl, rfl, rfl, by simp, hheap, fun m' hm' => by simp [muNew] at hm'; subst hm'; omega⟩
  · intro j mj hj
    simp only [muNew] at hj
    split at hj
    · omega
    · exact r.dom j mj hj
  · intro j mj hj
    simp only [muNew] at hj
    simp only [Array.size_push]
    split at hj
    · simp only [Option.some.injEq] at hj; subst hj; omega
    · have := r.hi j mj hj; omega
  · intro j mj hj
    simp only [muNew] at hj
    split at hj
    · rename_i e; rw [e]; exact ⟨_, hg⟩
    · exact r.has j mj hj
  · intro j mj bj hj hbj hd
    simp only [muNew] at hj
    split at hj
    · rename_i e
      subst e
      rw [hg] at hbj
      simp only [Option.some.injEq] at hj hbj
      subst hj hbj
      exact hL.1
    · exact (r.lies j mj bj hj hbj hd).mono hle (hheap _ (r.hi j mj hj))
  · intro a b ma mb ba bb hab ha hb hcbe hba hbb hra hdb
    simp only [muNew] at ha hb
    split at ha
    · simp only [Option.some.injEq] at ha
      subst ha
      split at hb
      · omega
      · have := r.hi b mb hb; omega
    · split at hb
      · simp only [Option.some.injEq] at hb
        subst hb
        have := r.hi a ma ha; omega
      · exact r.excl a b ma mb ba bb hab ha hb hcbe hba hbb hra hdb
  · intro j mj bj hj hbj q hq
    simp only [muNew] at hj
    split at hj
    · rename_i e
      subst e
      rw [hg] at hbj
      simp only [Option.some.injEq] at hbj
      subst hbj
      rw [h2] at hq
      cases hq
    · obtain ⟨m', hm', hx⟩ := r.par j mj bj hj hbj q hq
      exact ⟨m', hle _ _ hm', hx⟩

/-- A block that has no place yet. -/
theorem Rel.ghost (r : Rel μ h w) (b : ABlk) : Rel μ (h.push b) w := by
  have hold : ∀ j mj, μ j = some mj → j ≠ h.n := fun j mj hj e => by have := r.dom j mj hj; omega
  refine ⟨fun j mj hj => by have := r.dom j mj hj; simp only [AH.n_push]; omega, r.hi, ?_, ?_, ?_, ?_⟩
  · intro j mj hj; rw [AH.get_push, if_neg (hold j mj hj)]; exact r.has j mj hj
  · intro j mj bj hj hbj; rw [AH.get_push, if_neg (hold j mj hj)] at hbj; exact r.lies j mj bj hj hbj
  · intro a c ma mc ba bc hac ha hc hcb hba hbc
    rw [AH.get_push, if_neg (hold a ma ha)] at hba
    rw [AH.get_push, if_neg (hold c mc hc)] at hbc
    exact r.excl a c ma mc ba bc hac ha hc hcb hba hbc
  · intro j mj bj hj hbj; rw [AH.get_push, if_neg (hold j mj hj)] at hbj; exact r.par j mj bj hj hbj

/-- An operation of the order that has not come up yet. -/
inductive PendOK (P : Program) (gl : List Nat) (ops : Array Oper) (V : Nat → AVal) (N : Nat → Nat) (M : List Nat) (t0 : List AVal) (h : AH) (μ : Mu) (n0 : Nat) (rs : List QRec) (j : Nat) (pre : List Nat) : Prop
  | skip (o : Oper) (ho : ops[j]? = some o) (hw : aWanted ops (tA ops V t0 pre) o = some false) (hv : V j = .tuple [])
  | quiet (o : Oper) (ho : ops[j]? = some o) (hw : aWanted ops (tA ops V t0 pre) o = some true) (hk : kindOf P o.op = .quiet)
      (hr : (heapless o.op = true ∧ ∃ h1, aQ P (aEval gl (tA ops V t0 pre)) o.op h1 = some (V j)) ∨ (⟨j, o.op, tA ops V t0 pre, V j⟩ : QRec) ∈ rs)
  | make (o : Oper) (ho : ops[j]? = some o) (hw : aWanted ops (tA ops V t0 pre) o = some true) (hk : kindOf P o.op = .make) (pl : APlan) (hm : aM P (aEval gl (tA ops V t0 pre)) o.op = some pl)
      (hM : j ∈ M) (hv : V j = pl.2 (N j)) (hμ : μ (N j) = none) (h0 : n0 ≤ N j) (hg : h.get (N j) = some pl.1)

/-- How far the walked order has come. -/
structure Far (P : Program) (gl : List Nat) (call : ACall) (ops : Array Oper) (σ : List Nat) (t0 : List AVal) (n0 : Nat) (fin : List AVal × AH) (p : List Nat)
    (done todo : List Nat) (V : Nat → AVal) (N : Nat → Nat) (M : List Nat) (h : AH) (rs : List QRec) (μ : Mu) : Prop where
  all : σ = done.reverse ++ todo
  run : aDrawGo P gl call ops (ancTab ops) todo (tA ops V t0 done) h rs = some fin
  sub : ∀ i ∈ p, i ∈ done
  pend : ∀ j pre x, done = x ++ j :: pre → j ∉ p → PendOK P gl ops V N M t0 h μ n0 rs j pre
  inj : ∀ i j, i ∈ M → j ∈ M → i ≠ j → N i ≠ N j
  lt : ∀ i ∈ M, N i < h.n
  mdone : ∀ i ∈ M, i ∈ done
  nle : n0 ≤ h.n

def AtBound (P : Program) (ops : Array Oper) (t : List AVal) (todo : List Nat) : Prop :=
  todo = [] ∨ ∃ e rest o, todo = e :: rest ∧ ops[e]? = some o ∧ kindOf P o.op = .eff ∧ aWanted ops t o = some true

theorem bound_ok {ops : Array Oper} {tab todo : List Nat} {t : List AVal} {rs : List QRec} {fin : List AVal × AH} (hb : AtBound P ops t todo) (hr : aDrawGo P gl call ops tab todo t h rs = some fin) : okAt P gl h rs = true := by
  rcases hb with rfl | ⟨e, rest, o, rfl, ho, hk, hw⟩
  · simp only [aDrawGo] at hr
    split at hr
    · assumption
    · cases hr
  · simp only [aDrawGo, ho, hw, hk] at hr
    split at hr
    · assumption
    · cases hr

theorem PendOK.mono {ops : Array Oper} {V V' : Nat → AVal} {N N' : Nat → Nat} {M M' : List Nat} {t0 : List AVal} {h h' : AH} {n0 : Nat} {rs rs' : List QRec} {j : Nat} {pre : List Nat}
    (k : PendOK P gl ops V N M t0 h μ n0 rs j pre) (hV : ∀ i ∈ j :: pre, V' i = V i) (hN : N' j = N j) (hM : ∀ i ∈ M, i ∈ M') (hrs : ∀ r ∈ rs, r ∈ rs') (hh : ∀ i, i < h.n → h'.get i = h.get i) (hlt : ∀ i ∈ M, N i < h.n) :
    PendOK P gl ops V' N' M' t0 h' μ n0 rs' j pre := by
  have ht : tA ops V' t0 pre = tA ops V t0 pre := tA_congr fun i hi => hV i (by simp [hi])
  have hj : V' j = V j := hV j (by simp)
  cases k with
  | skip o ho hw hv => exact .skip o ho (by rw [ht]; exact hw) (by rw [hj]; exact hv)
  | quiet o ho hw hk hr => exact .quiet o ho (by rw [ht]; exact hw) hk (by rw [ht, hj]; exact hr.imp id (hrs _))
  | make o ho hw hk pl hm hM' hv hμ h0 hg => exact .make o ho (by rw [ht]; exact hw) hk pl (by rw [ht]; exact hm) (hM j hM') (by rw [hj, hN]; exact hv) (by rw [hN]; exact hμ) (by rw [hN]; exact h0) (by rw [hN, hh _ (hlt j hM')]; exact hg)

/-- The order is walked on to its next write. -/
theorem advance {ops : Array Oper} {σ : List Nat} {t0 : List AVal} {n0 : Nat} {fin : List AVal × AH} {p : List Nat} {w0 : World} {μ0 : Mu} {h0 : AH} :
    ∀ (todo done : List Nat) (V : Nat → AVal) (N : Nat → Nat) (M : List Nat) (h : AH) (rs : List QRec), Far P gl call ops σ t0 n0 fin p done todo V N M h rs μ → σ.Nodup → (∀ i ∈ p, i ∈ done) → Rel μ h w → Ext μ0 h0 w0 μ h w → h0.n ≤ h.n →
    ∃ done' todo' V' N' M' h' rs', Far P gl call ops σ t0 n0 fin p done' todo' V' N' M' h' rs' μ ∧ AtBound P ops (tA ops V' t0 done') todo' ∧ (∀ i ∈ done, V' i = V i) ∧ Rel μ h' w ∧ Ext μ0 h0 w0 μ h' w := by
  intro todo
  induction todo with
  | nil => intro done V N M h rs F hnd hp r e hle; exact ⟨done, [], V, N, M, h, rs, F, .inl rfl, fun _ _ => rfl, r, e⟩
  | cons i rest ih =>
    intro done V N M h rs F hnd hp r e hle
    have hrun := F.run
    simp only [aDrawGo] at hrun
    split at hrun
    · cases hrun
    rename_i o ho
    have hi : i ∉ done := by
      have := F.all ▸ hnd
      rw [List.nodup_append] at this
      intro hd
      exact this.2.2 i (by simpa using hd) i (by simp) rfl
    have hip : i ∉ p := fun hpi => hi (hp i hpi)
    have hiM : i ∉ M := fun h => hi (F.mdone i h)
    -- one operation more
    have more : ∀ (v : AVal) (n : Nat) (M' : List Nat) (h' : AH) (rs' : List QRec), aDrawGo P gl call ops (ancTab ops) rest (aPut (tA ops V t0 done) o.dst v) h' rs' = some fin →
        (M' = M ∧ h' = h ∨ ∃ b, M' = i :: M ∧ h' = h.push b ∧ n = h.n) → (∀ r ∈ rs, r ∈ rs') →
        PendOK P gl ops (fun k => if k = i then v else V k) (fun k => if k = i then n else N k) M' t0 h' μ n0 rs' i done →
        ∃ done' todo' V' N' M' h' rs', Far P gl call ops σ t0 n0 fin p done' todo' V' N' M' h' rs' μ ∧ AtBound P ops (tA ops V' t0 done') todo' ∧ (∀ i ∈ done, V' i = V i) ∧ Rel μ h' w ∧ Ext μ0 h0 w0 μ h' w := by
      intro v n M' h' rs' hr hM hrs hpend
      have hV : ∀ k ∈ done, (fun k => if k = i then v else V k) k = V k := fun k hk => by
        have hki : k ≠ i := fun e => hi (e ▸ hk)
        show (if k = i then v else V k) = V k
        rw [if_neg hki]
      have htA : tA ops (fun k => if k = i then v else V k) t0 (i :: done) = aPut (tA ops V t0 done) o.dst v := by
        simp only [tA, if_true]
        rw [tA_congr hV]
        simp [dstOf, ho]
      have hget : ∀ k, k < h.n → h'.get k = h.get k := by
        rcases hM with ⟨_, rfl⟩ | ⟨b, _, rfl, _⟩
        · exact fun _ _ => rfl
        · intro k hk; rw [AH.get_push, if_neg (by omega)]
      have hn : h.n ≤ h'.n := by
        rcases hM with ⟨_, rfl⟩ | ⟨b, _, rfl, _⟩ <;> simp
      have hrel : Rel μ h' w := by
        rcases hM with ⟨_, rfl⟩ | ⟨b, _, rfl, _⟩
        · exact r
        · exact r.ghost b
      have hext : Ext μ0 h0 w0 μ h' w := by
        rcases hM with ⟨_, rfl⟩ | ⟨b, _, rfl, _⟩
        · exact e
        · refine ⟨by simp only [AH.n_push]; omega, e.mu, fun k hk hm => by rw [AH.get_push, if_neg (by omega)]; exact e.ghost k hk hm, e.os, e.tape, e.output, e.size, e.keep, ?_⟩
          rintro cb hc ⟨k, m, b', hk, hcb, hg, hrw⟩
          have := r.dom k m hk
          rw [AH.get_push, if_neg (by omega)] at hg
          exact e.rw cb hc ⟨k, m, b', hk, hcb, hg, hrw⟩
      have hMsub : ∀ k ∈ M, k ∈ M' := by
        rcases hM with ⟨rfl, _⟩ | ⟨b, rfl, _, _⟩
        · exact fun _ h => h
        · exact fun _ h => List.mem_cons_of_mem _ h
      have hNo : ∀ k, k ≠ i → (fun k => if k = i then n else N k) k = N k := fun k hki => by
        show (if k = i then n else N k) = N k
        rw [if_neg hki]
      have hNi : (fun k => if k = i then n else N k) i = n := by
        show (if i = i then n else N i) = n
        rw [if_pos rfl]
      have F1 : Far P gl call ops σ t0 n0 fin p (i :: done) rest (fun k => if k = i then v else V k) (fun k => if k = i then n else N k) M' h' rs' μ := by
        generalize (fun k => if k = i then n else N k) = N' at hNo hNi hpend ⊢
        refine ⟨by rw [F.all]; simp, by rw [htA]; exact hr, fun k hk => List.mem_cons_of_mem _ (F.sub k hk), ?_, ?_, ?_, ?_, Nat.le_trans F.nle hn⟩
        · intro j pre x hx hj
          cases x with
          | nil =>
            simp only [List.nil_append, List.cons.injEq] at hx
            obtain ⟨rfl, rfl⟩ := hx
            exact hpend
          | cons y x =>
            simp only [List.cons_append, List.cons.injEq] at hx
            obtain ⟨rfl, hx⟩ := hx
            have hjd : j ∈ done := by rw [hx]; simp
            have hji : j ≠ i := fun e => hi (e ▸ hjd)
            exact (F.pend j pre x hx hj).mono (fun k hk => hV k (by rw [hx]; simp only [List.mem_append]; exact .inr hk)) (hNo j hji) hMsub hrs hget F.lt
        · intro a b ha hb hab
          rcases hM with ⟨rfl, _⟩ | ⟨bb, rfl, _, rfl⟩
          · have h1 : a ≠ i := fun e => hiM (e ▸ ha)
            have h2 : b ≠ i := fun e => hiM (e ▸ hb)
            rw [hNo a h1, hNo b h2]
            exact F.inj a b ha hb hab
          · rcases List.mem_cons.1 ha with h1 | ha
            · rcases List.mem_cons.1 hb with h2 | hb
              · exact absurd (h1.trans h2.symm) hab
              · have h2 : b ≠ i := fun e => hiM (e ▸ hb)
                rw [h1, hNi, hNo b h2]
                have := F.lt b hb
                omega
            · have h1 : a ≠ i := fun e => hiM (e ▸ ha)
              rcases List.mem_cons.1 hb with h2 | hb
              · rw [h2, hNi, hNo a h1]
                have := F.lt a ha
                omega
              · have h2 : b ≠ i := fun e => hiM (e ▸ hb)
                rw [hNo a h1, hNo b h2]
                exact F.inj a b ha hb hab
        · intro a ha
          rcases hM with ⟨rfl, rfl⟩ | ⟨bb, rfl, rfl, rfl⟩
          · have h1 : a ≠ i := fun e => hiM (e ▸ ha)
            rw [hNo a h1]
            exact F.lt a ha
          · rcases List.mem_cons.1 ha with h1 | ha
            · rw [h1, hNi]; simp
            · have h1 : a ≠ i := fun e => hiM (e ▸ ha)
              rw [hNo a h1]
              have := F.lt a ha
              simp only [AH.n_push]; omega
        · intro a ha
          rcases hM with ⟨rfl, _⟩ | ⟨bb, rfl, _, _⟩
          · exact List.mem_cons_of_mem _ (F.mdone a ha)
          · rcases List.mem_cons.1 ha with rfl | ha
            · simp
            · exact List.mem_cons_of_mem _ (F.mdone a ha)
      obtain ⟨d', t', V', N', M2, h2, rs2, F2, hb2, hV2, hr2, he2⟩ := ih (i :: done) _ _ M' h' rs' F1 hnd (fun k hk => List.mem_cons_of_mem _ (hp k hk)) hrel hext (by omega)
      exact ⟨d', t', V', N', M2, h2, rs2, F2, hb2, fun k hk => by rw [hV2 k (List.mem_cons_of_mem _ hk)]; exact hV k hk, hr2, he2⟩
    have htd : ∀ (v : AVal) (n : Nat), tA ops (fun k => if k = i then v else V k) t0 done = tA ops V t0 done := fun v n => tA_congr fun k hk => by
      have hki : k ≠ i := fun e => hi (e ▸ hk)
      show (if k = i then v else V k) = V k
      rw [if_neg hki]
    split at hrun
    · cases hrun
    · rename_i hw
      exact more (.tuple []) 0 M h rs hrun (.inl ⟨rfl, rfl⟩) (fun _ h => h) (.skip o ho (by rw [htd _ 0]; exact hw) (by simp))
    · rename_i hw
      split at hrun
      · rename_i hk
        split at hrun
        · rename_i v hq
          refine more v 0 M h _ hrun (.inl ⟨rfl, rfl⟩) ?_ (.quiet o ho (by rw [htd _ 0]; exact hw) hk ?_)
          · intro q hq; split
            · exact hq
            · exact List.mem_cons_of_mem _ hq
          · rw [htd _ 0]
            simp only [if_true]
            split
            · rename_i hl; exact .inl ⟨hl, h, hq⟩
            · exact .inr (by simp)
        · cases hrun
      · rename_i hk
        split at hrun
        · rename_i pl hm
          refine more (pl.2 h.n) h.n (i :: M) (h.push pl.1) rs hrun (.inr ⟨pl.1, rfl, rfl, rfl⟩) (fun _ h => h) (.make o ho (by rw [htd _ 0]; exact hw) hk pl (by rw [htd _ 0]; exact hm) (by simp) (by simp) ?_ ?_ ?_)
          · simp only [if_true]
            cases hx : μ h.n with
            | none => rfl
            | some m => have := r.dom _ m hx; omega
          · simp only [if_true]; exact F.nle
          · simp
        · cases hrun
      · rename_i hk
        exact ⟨done, i :: rest, V, N, M, h, rs, F, .inr ⟨i, rest, o, rfl, ho, hk, hw⟩, fun _ _ => rfl, r, e⟩
end Go.Proofs.Ytfppdfmffdkogaa.AI
namespace Go.Proofs.Ytfppdfmffdkogaa.AI
open Go
set_option linter.unusedSimpArgs false

variable {P : Program} {gl : List Nat} {call : ACall}

structure Stat (P : Program) (ops : Array Oper) (σ : List Nat) : Prop where
  topo : Topo (ancTab ops) σ.reverse
  nodup : σ.Nodup
  full : ∀ i, i < ops.size → i ∈ σ
  edge : ∀ x i q, σ.reverse = x ++ i :: q → ∃ o, ops[i]? = some o ∧ ∀ e ∈ o.after, Region.binds .any e = true → e.on ∈ q ∧ e.on < ops.size
  eff : ∀ x i q, σ.reverse = x ++ i :: q → ∀ e ∈ q, isEff P ops e = true → isAnc (ancTab ops) e i = true
  slots : ∀ i j d o, dstOf ops i = some d → ops[j]? = some o → i ≠ j → (d ∈ slots ops o ∨ o.dst = some d) → isAnc (ancTab ops) i j = true ∨ isAnc (ancTab ops) j i = true
  len : σ.length = ops.size

theorem anc_lt {ops : Array Oper} (he : ∀ o ∈ ops.toList, ∀ e ∈ o.after.toList, Region.binds .any e = true → e.on < ops.size) : ∀ (n i j : Nat), j < n → isAnc (ancTab ops) i j = true → i < ops.size
  | 0, _, _, h, _ => by omega
  | n + 1, i, j, hj, h => by
      obtain ⟨o, ho, e, hm, hb, hi⟩ := isAnc_spec h
      rcases hi with rfl | ⟨hlt, hi⟩
      · exact he o (by simpa using Array.mem_of_getElem? ho) e (by simpa using hm) hb
      · exact anc_lt he n i e.on (by omega) hi

theorem topoB_nodup {ops : Array Oper} {tab : List Nat} : ∀ {p : List Nat}, topoB P ops tab p = true → p.Nodup
  | [], _ => List.nodup_nil
  | i :: p, h => by
      simp only [topoB, Bool.and_eq_true, Bool.not_eq_true', List.contains_eq_mem, decide_eq_false_iff_not] at h
      exact List.nodup_cons.2 ⟨h.1.1.1.1, topoB_nodup h.2⟩
theorem topoB_topo {ops : Array Oper} (hlt : ∀ i j, isAnc (ancTab ops) i j = true → i < ops.size) : ∀ {p : List Nat}, topoB P ops (ancTab ops) p = true → Topo (ancTab ops) p
  | [], _ => .nil
  | i :: p, h => by
      simp only [topoB, Bool.and_eq_true, Bool.not_eq_true', List.contains_eq_mem, decide_eq_false_iff_not, List.all_eq_true, List.mem_range, Bool.or_eq_true, decide_eq_true_eq] at h
      refine .cons h.1.1.1.1 (fun j hj => ?_) (topoB_topo hlt h.2)
      rcases h.1.1.2 j (hlt j i hj) with h1 | h1
      · rw [hj] at h1; cases h1
      · exact h1
theorem topoB_split {ops : Array Oper} {tab : List Nat} : ∀ (x : List Nat) {i : Nat} {q p : List Nat}, topoB P ops tab p = true → p = x ++ i :: q →
    (∃ o, ops[i]? = some o ∧ ∀ e ∈ o.after, Region.binds .any e = true → e.on ∈ q ∧ e.on < ops.size) ∧ ∀ e ∈ q, isEff P ops e = true → isAnc tab e i = true
  | [], i, q, p, h, e => by
      subst e
      simp only [List.nil_append, topoB, Bool.and_eq_true] at h
      obtain ⟨⟨⟨⟨h1, h2⟩, h3⟩, h4⟩, h5⟩ := h
      constructor
      · split at h2
        · rename_i o ho
          refine ⟨o, ho, fun e he hb => ?_⟩
          simp only [List.all_eq_true, Bool.or_eq_true, Bool.not_eq_true', Bool.and_eq_true, List.contains_eq_mem, decide_eq_true_eq] at h2
          rcases h2 e (by simpa using he) with h6 | h6
          · rw [hb] at h6; cases h6
          · exact h6
        · cases h2
      · intro e he hee
        simp only [List.all_eq_true, Bool.or_eq_true, Bool.not_eq_true'] at h4
        rcases h4 e he with h6 | h6
        · rw [hee] at h6; cases h6
        · exact h6
  | y :: x, i, q, p, h, e => by
      subst e
      simp only [List.cons_append, topoB, Bool.and_eq_true] at h
      exact topoB_split x h.2 rfl

theorem drawOk_stat {ops : Array Oper} (h : drawOk P ops = true) : Stat P ops (asap P ops) := by
  unfold drawOk at h
  simp only [Bool.and_eq_true] at h
  obtain ⟨⟨⟨⟨h1, h2⟩, h3⟩, h4⟩, h5⟩ := h
  have he : ∀ o ∈ ops.toList, ∀ e ∈ o.after.toList, Region.binds .any e = true → e.on < ops.size := by
    intro o ho e he hb
    simp only [List.all_eq_true, Bool.or_eq_true, Bool.not_eq_true', decide_eq_true_eq] at h5
    rcases h5 o ho e he with h6 | h6
    · rw [hb] at h6; cases h6
    · exact h6
  have hlt : ∀ i j, isAnc (ancTab ops) i j = true → i < ops.size := fun i j hij => anc_lt he (j + 1) i j (by omega) hij
  refine ⟨topoB_topo hlt h1, ((List.reverse_perm _).nodup_iff).1 (topoB_nodup h1), ?_, fun x i q e => (topoB_split x h1 e).1, fun x i q e => (topoB_split x h1 e).2, ?_, by simpa using h2⟩
  · intro i hi
    simp only [List.all_eq_true, List.mem_range, List.contains_eq_mem, decide_eq_true_eq] at h4
    exact h4 i hi
  · intro i j d o hd ho hij hs
    simp only [slotsB, List.all_eq_true, List.mem_range, Bool.or_eq_true, beq_iff_eq] at h3
    have hi : i < ops.size := by
      unfold dstOf at hd
      cases hx : ops[i]? with
      | none => rw [hx] at hd; cases hd
      | some _ => exact (Array.getElem?_eq_some_iff.1 hx).1
    have hj : j < ops.size := (Array.getElem?_eq_some_iff.1 ho).1
    have := h3 i hi j hj
    rcases this with h6 | h6
    · exact absurd h6 hij
    · rw [hd, ho] at h6
      simp only [Bool.or_eq_true, Bool.not_eq_true', Bool.or_eq_false_iff, List.contains_eq_mem, decide_eq_false_iff_not, beq_eq_false_iff_ne] at h6
      rcases h6 with (h6 | h6) | h6
      · exfalso
        rcases hs with hs | hs
        · exact h6.1 hs
        · exact h6.2 hs
      · exact .inl h6
      · exact .inr h6

/-- What is listed. -/
structure LR (ops : Array Oper) (listed : Array Bool) (p : List Nat) : Prop where
  size : listed.size = ops.size
  mem : ∀ i, i < ops.size → (listed[i]? = some true ↔ i ∈ p)
theorem LR.step {ops : Array Oper} {listed : Array Bool} {p : List Nat} (l : LR ops listed p) {j : Nat} (hj : j < ops.size) : LR ops (listed.setIfInBounds j true) (j :: p) := by
  refine ⟨by simpa using l.size, fun i hi => ?_⟩
  rw [Array.getElem?_setIfInBounds]
  by_cases e : j = i
  · subst e; simp [l.size, hj]
  · rw [if_neg e, l.mem i hi]
    simp [Ne.symm e]
theorem LR.ready {ops : Array Oper} {listed : Array Bool} {p : List Nat} (l : LR ops listed p) {j : Nat} (hr : j ∈ Region.ready .any ops listed) :
    j < ops.size ∧ j ∉ p ∧ ∃ o, ops[j]? = some o ∧ ∀ e ∈ o.after, Region.binds .any e = true → e.on ∈ p ∧ e.on < ops.size := by
  obtain ⟨h0, o, ho, hall⟩ := mem_ready.1 hr
  have hj : j < ops.size := (Array.getElem?_eq_some_iff.1 ho).1
  refine ⟨hj, ?_, o, ho, fun e he hb => ?_⟩
  · intro hp
    have := (l.mem j hj).2 hp
    simp [Array.getD_eq_getD_getElem?, this] at h0
  · have h1 := hall e he hb
    by_cases hlt : e.on < ops.size
    · refine ⟨(l.mem e.on hlt).1 ?_, hlt⟩
      rw [Array.getD_eq_getD_getElem?] at h1
      cases hx : listed[e.on]? with
      | none => rw [hx] at h1; cases h1
      | some b => rw [hx] at h1; simp at h1; rw [h1]
    · exfalso
      rw [Array.getD_eq_getD_getElem?, Array.getElem?_eq_none (by rw [l.size]; omega)] at h1
      cases h1
theorem LR.ready_of {ops : Array Oper} {listed : Array Bool} {p : List Nat} (l : LR ops listed p) {j : Nat} {o : Oper} (ho : ops[j]? = some o) (hj : j ∉ p) (he : ∀ e ∈ o.after, Region.binds .any e = true → e.on ∈ p ∧ e.on < ops.size) :
    j ∈ Region.ready .any ops listed := by
  have hlt : j < ops.size := (Array.getElem?_eq_some_iff.1 ho).1
  refine mem_ready.2 ⟨?_, o, ho, fun e hm hb => ?_⟩
  · cases hx : listed[j]? with
    | none => rw [Array.getElem?_eq_none_iff, l.size] at hx; omega
    | some b =>
      cases b
      · simp [Array.getD_eq_getD_getElem?, hx]
      · exact absurd ((l.mem j hlt).1 hx) hj
  · obtain ⟨h1, h2⟩ := he e hm hb
    simp [Array.getD_eq_getD_getElem?, (l.mem e.on h2).2 h1]

/-- How many are left. -/
def left (σ p : List Nat) : Nat := (σ.filter fun i => decide (i ∉ p)).length
theorem left_step : ∀ {σ p : List Nat} {j : Nat}, σ.Nodup → j ∈ σ → j ∉ p → left σ (j :: p) + 1 = left σ p
  | [], _, _, _, h, _ => by cases h
  | i :: σ, p, j, hn, hj, hp => by
      obtain ⟨h1, h2⟩ := List.nodup_cons.1 hn
      unfold left
      by_cases e : i = j
      · subst e
        have : (σ.filter fun k => decide (k ∉ i :: p)) = σ.filter fun k => decide (k ∉ p) := by
          refine List.filter_congr fun k hk => ?_
          have hki : k ≠ i := fun e => h1 (e ▸ hk)
          simp [hki]
        rw [List.filter_cons_of_neg (by simp), List.filter_cons_of_pos (by simpa using hp), this]
        simp
      · have hj' : j ∈ σ := by
          rcases List.mem_cons.1 hj with h | h
          · exact absurd h.symm e
          · exact h
        have ih := left_step h2 hj' hp
        unfold left at ih
        by_cases hip : i ∈ p
        · rw [List.filter_cons_of_neg (by simp [hip]), List.filter_cons_of_neg (by simp [hip])]
          exact ih
        · rw [List.filter_cons_of_pos (by simp [hip, e]), List.filter_cons_of_pos (by simp [hip])]
          simp only [List.length_cons]; omega
theorem left_zero {σ p : List Nat} (h : left σ p = 0) : ∀ i ∈ σ, i ∈ p := by
  intro i hi
  unfold left at h
  have := List.eq_nil_of_length_eq_zero h
  have h2 := List.filter_eq_nil_iff.1 this i hi
  simpa using h2
theorem left_first : ∀ {σ p : List Nat}, left σ p ≠ 0 → ∃ pre j post, σ = pre ++ j :: post ∧ j ∉ p ∧ ∀ i ∈ pre, i ∈ p
  | [], p, h => by simp [left] at h
  | i :: σ, p, h => by
      by_cases hi : i ∈ p
      · have : left σ p ≠ 0 := by
          unfold left at h ⊢
          rw [List.filter_cons_of_neg (by simp [hi])] at h
          exact h
        obtain ⟨pre, j, post, rfl, hj, hall⟩ := left_first this
        exact ⟨i :: pre, j, post, rfl, hj, fun k hk => by
          rcases List.mem_cons.1 hk with rfl | hk
          · exact hi
          · exact hall k hk⟩
      · exact ⟨[], i, σ, rfl, hi, by simp⟩
theorem Topo.suffix {tab : List Nat} : ∀ {x q : List Nat}, Topo tab (x ++ q) → Topo tab q
  | [], _, h => h
  | _ :: x, _, .cons _ _ h => Topo.suffix (x := x) h

/-- What an operation looks at is as it is in the order that was walked. -/
theorem same_slots {ops : Array Oper} {σ : List Nat} (st : Stat P ops σ) {p : List Nat} (hp : Topo (ancTab ops) p) {j : Nat} {o : Oper} (ho : ops[j]? = some o) (hj : j ∉ p)
    (hanc : ∀ i, isAnc (ancTab ops) i j = true → i ∈ p) {x pre : List Nat} (hσ : σ.reverse = x ++ j :: pre) (V : Nat → AVal) (t0 : List AVal) :
    ∀ s ∈ slots ops o, (tA ops V t0 p)[s]? = (tA ops V t0 pre)[s]? := by
  intro s hs
  have htopo : Topo (ancTab ops) (j :: pre) := Topo.suffix (x := x) (hσ ▸ st.topo)
  cases htopo with
  | cons hn ha hq =>
    rw [tA_get, tA_get]
    rw [hp.same hq (f := fun i => dstOf ops i == some s) ?_ ?_]
    · intro i hi
      have hi' : dstOf ops i = some s := by simpa using hi
      by_cases e : i = j
      · subst e; exact ⟨fun h => absurd h hj, fun h => absurd h hn⟩
      · rcases st.slots i j s o hi' ho e (.inl hs) with h1 | h1
        · exact ⟨fun _ => ha i h1, fun _ => hanc i h1⟩
        · exact ⟨fun h => absurd (hp.anc h h1) hj, fun h => absurd (hq.anc h h1) hn⟩
    · intro i k hi hk hik
      have hi' : dstOf ops i = some s := by simpa using hi
      have hk' : dstOf ops k = some s := by simpa using hk
      unfold dstOf at hk'
      cases hok : ops[k]? with
      | none => rw [hok] at hk'; cases hk'
      | some ok =>
        rw [hok] at hk'
        exact st.slots i k s ok hi' hok hik (.inr (by simpa using hk'))
theorem same_all {ops : Array Oper} {σ : List Nat} (st : Stat P ops σ) {p q : List Nat} (hp : Topo (ancTab ops) p) (hq : Topo (ancTab ops) q) (hs : ∀ i, i ∈ p ↔ i ∈ q) (V : Nat → AVal) (t0 : List AVal) : tA ops V t0 p = tA ops V t0 q := by
  apply List.ext_getElem?
  intro s
  rw [tA_get, tA_get, hp.same hq (f := fun i => dstOf ops i == some s) (fun i _ => hs i) ?_]
  intro i k hi hk hik
  have hi' : dstOf ops i = some s := by simpa using hi
  have hk' : dstOf ops k = some s := by simpa using hk
  unfold dstOf at hk'
  cases hok : ops[k]? with
  | none => rw [hok] at hk'; cases hk'
  | some ok =>
    rw [hok] at hk'
    exact st.slots i k s ok hi' hok hik (.inr (by simpa using hk'))
end Go.Proofs.Ytfppdfmffdkogaa.AI
namespace Go.Proofs.Ytfppdfmffdkogaa.AI
open Go
set_option linter.unusedSimpArgs false

variable {P : Program} {gl : List Nat} {call : ACall}

theorem PendOK.other {ops : Array Oper} {V : Nat → AVal} {N : Nat → Nat} {M : List Nat} {t0 : List AVal} {h h' : AH} {n0 : Nat} {rs rs' : List QRec} {j : Nat} {pre : List Nat} {μ μ' : Mu}
    (k : PendOK P gl ops V N M t0 h μ n0 rs j pre) (hrs : ∀ r ∈ rs, r.i = j → r ∈ rs') (hμ : j ∈ M → μ (N j) = none → μ' (N j) = none ∧ h'.get (N j) = h.get (N j)) : PendOK P gl ops V N M t0 h' μ' n0 rs' j pre := by
  cases k with
  | skip o ho hw hv => exact .skip o ho hw hv
  | quiet o ho hw hk hr => exact .quiet o ho hw hk (hr.imp id fun h => hrs _ h rfl)
  | make o ho hw hk pl hm hM hv hn h0 hg => exact .make o ho hw hk pl hm hM hv (hμ hM hn).1 h0 ((hμ hM hn).2.trans hg)

theorem okAt_get {h : AH} {rs : List QRec} (hok : okAt P gl h rs = true) {r : QRec} (hr : r ∈ rs) : aQ P (aEval gl r.t) r.op h = some r.v := by
  unfold okAt at hok
  rw [List.all_eq_true] at hok
  have := hok r hr
  split at this
  · rename_i v hv
    rw [hv, AVal.eq_of_same _ _ this]
  · cases this

theorem put_defers {a : Act} {ds : List ADef} {μ : Mu} (h : DefsR μ ds a.defers) (dst : Option Tmp) (v : Value) : DefsR μ ds (a.put dst v).defers := by
  cases dst <;> exact h

theorem draw_any (hcall : CallSound P gl call) {ops : Array Oper} {σ : List Nat} (st : Stat P ops σ) {t0 : List AVal} {fin : List AVal × AH} {ds : List ADef} {Q : Exit → Act → World → Prop} {μ0 : Mu} {h0 : AH} {w0 : World}
    (hQ : ∀ (a : Act) (w : World) (μ : Mu), VRs μ fin.1 a.tmps.toList → DefsR μ ds a.defers → Rel μ fin.2 w → GOK gl μ → Ext μ0 h0 w0 μ fin.2 w → Q .normal a w) :
    ∀ (fuel : Nat) (listed : Array Bool) (p done todo : List Nat) (V : Nat → AVal) (N : Nat → Nat) (M : List Nat) (h : AH) (rs : List QRec) (μ : Mu) (a : Act) (w : World),
      Far P gl call ops σ t0 h0.n fin p done todo V N M h rs μ → AtBound P ops (tA ops V t0 done) todo → Topo (ancTab ops) p → LR ops listed p → (∀ i ∈ p, i ∈ σ) → left σ p = fuel →
      VRs μ (tA ops V t0 p) a.tmps.toList → DefsR μ ds a.defers → Rel μ h w → GOK gl μ → Ext μ0 h0 w0 μ h w → wpAny P .any ops Q fuel listed a w := by
  intro fuel
  induction fuel with
  | zero =>
    intro listed p done todo V N M h rs μ a w F hb tp lr hps hl ht hd hr hg he
    have hfull := left_zero hl
    have hready : Region.ready .any ops listed = [] := by
      cases hx : Region.ready .any ops listed with
      | nil => rfl
      | cons j l =>
        obtain ⟨hj, hjp, _⟩ := lr.ready (j := j) (by rw [hx]; simp)
        exact absurd (hfull j (st.full j hj)) hjp
    refine ⟨hready, ?_⟩
    have hnd : (done.reverse ++ todo).Nodup := F.all ▸ st.nodup
    have htodo : todo = [] := by
      cases todo with
      | nil => rfl
      | cons e rest =>
        exfalso
        have h1 : e ∈ done := F.sub e (hfull e (by rw [F.all]; simp))
        rw [List.nodup_append] at hnd
        exact hnd.2.2 e (by simpa using h1) e (by simp) rfl
    subst htodo
    have hrun := F.run
    simp only [aDrawGo] at hrun
    split at hrun
    · simp only [Option.some.injEq] at hrun
      have hσ : σ = done.reverse := by rw [F.all]; simp
      have hsame := same_all st tp (show Topo (ancTab ops) done by have := st.topo; rw [hσ] at this; simpa using this) (fun i => ⟨fun hi => F.sub i hi, fun hi => hfull i (by rw [hσ]; simpa using hi)⟩) V t0
      refine hQ a w μ ?_ hd ?_ hg ?_
      · rw [← hrun]; simp only; rw [← hsame]; exact ht
      · rw [← hrun]; exact hr
      · rw [← hrun]; exact he
    · cases hrun
  | succ fuel ih =>
    intro listed p done todo V N M h rs μ a w F hb tp lr hps hl ht hd hr hg he
    have hnd : (done.reverse ++ todo).Nodup := F.all ▸ st.nodup
    have hok := bound_ok hb F.run
    constructor
    · intro hnil
      exfalso
      obtain ⟨pre, j, post, hσ, hjp, hall⟩ := left_first (σ := σ) (p := p) (by rw [hl]; omega)
      have hrev : σ.reverse = post.reverse ++ j :: pre.reverse := by rw [hσ]; simp
      obtain ⟨o, ho, hedge⟩ := st.edge _ _ _ hrev
      have := lr.ready_of ho hjp fun e he hb => by
        obtain ⟨h1, h2⟩ := hedge e he hb
        exact ⟨hall _ (by simpa using h1), h2⟩
      rw [hnil] at this
      cases this
    · intro j hj
      obtain ⟨hjn, hjp, o, ho, hedge⟩ := lr.ready hj
      have hanc : ∀ i, isAnc (ancTab ops) i j = true → i ∈ p := by
        intro i hi
        obtain ⟨o', ho', e, hem, heb, hei⟩ := isAnc_spec hi
        rw [ho] at ho'
        simp only [Option.some.injEq] at ho'
        subst ho'
        rcases hei with rfl | ⟨_, hei⟩
        · exact (hedge e hem heb).1
        · exact tp.anc (hedge e hem heb).1 hei
      have hjσ := st.full j hjn
      have tp' : Topo (ancTab ops) (j :: p) := .cons hjp hanc tp
      have lr' := lr.step hjn
      have hps' : ∀ i ∈ j :: p, i ∈ σ := fun i hi => by
        rcases List.mem_cons.1 hi with rfl | hi
        · exact hjσ
        · exact hps i hi
      have hl' : left σ (j :: p) = fuel := by have := left_step st.nodup hjσ hjp; omega
      have htlen : (tA ops V t0 p).length = t0.length := tA_length _ _ _ _
      -- the same operation, in the order that was walked
      have atp : ∀ (x pre : List Nat), σ.reverse = x ++ j :: pre → aWanted ops (tA ops V t0 pre) o = aWanted ops (tA ops V t0 p) o ∧
          (∀ hh, aQ P (aEval gl (tA ops V t0 pre)) o.op hh = aQ P (aEval gl (tA ops V t0 p)) o.op hh) ∧ aM P (aEval gl (tA ops V t0 pre)) o.op = aM P (aEval gl (tA ops V t0 p)) o.op ∧
          (∀ hh, aE P call (aEval gl (tA ops V t0 pre)) o.op hh = aE P call (aEval gl (tA ops V t0 p)) o.op hh) := by
        intro x pre hx
        have hs := same_slots st tp ho hjp hanc hx V t0
        have hev := eval_slots (gl := gl) (o := o) (ops := ops) (fun s hs' => (hs s hs').symm)
        exact ⟨wanted_slots fun s hs' => (hs s hs').symm, fun hh => aQ_congr hev hh, aM_congr hev, fun hh => aE_congr hev hh⟩
      have env := aEval_good hg ht
      -- on, once the operation has yielded V j
      have on : ∀ (h' : AH) (rs' : List QRec) (μ' : Mu) (w' : World) (v' : Value), VR μ' (V j) v' → j ∈ done → Far P gl call ops σ t0 h0.n fin (j :: p) done todo V N M h' rs' μ' → AtBound P ops (tA ops V t0 done) todo → μ.le μ' → Rel μ' h' w' → Ext μ0 h0 w0 μ' h' w' →
          wpAny P .any ops Q fuel (listed.setIfInBounds j true) (a.put o.dst v') w' := by
        intro h' rs' μ' w' v' hv hjd F' hb' hle hr' he'
        refine ih _ (j :: p) done todo V N M h' rs' μ' _ w' F' hb' tp' lr' hps' hl' ?_ (put_defers (hd.mono hle) _ _) hr' (hg.mono hle) he'
        have : tA ops V t0 (j :: p) = aPut (tA ops V t0 p) o.dst (V j) := by simp [tA, dstOf, ho]
        rw [this]
        exact aPut_good (ht.mono hle) _ hv
      unfold wpOp
      rw [ho]
      simp only
      by_cases hjd : j ∈ done
      · obtain ⟨x, pre, hx⟩ := List.append_of_mem hjd
        have hσx : σ.reverse = (todo.reverse ++ x) ++ j :: pre := by rw [F.all]; simp [hx]
        obtain ⟨e1, e2, e3, e4⟩ := atp _ _ hσx
        have F' : ∀ {h' rs' μ'}, (∀ i ∈ M, i ∉ j :: p → μ (N i) = none → μ' (N i) = none ∧ h'.get (N i) = h.get (N i)) → h' = h → rs' = rs → Far P gl call ops σ t0 h0.n fin (j :: p) done todo V N M h' rs' μ' := by
          rintro h' rs' μ' hm rfl rfl
          refine ⟨F.all, F.run, fun i hi => ?_, fun i pre' x' hx' hi => ?_, F.inj, F.lt, F.mdone, F.nle⟩
          · rcases List.mem_cons.1 hi with rfl | hi
            · exact hjd
            · exact F.sub i hi
          · exact (F.pend i pre' x' hx' (fun h => hi (List.mem_cons_of_mem _ h))).other (fun r hr _ => hr) fun hM hn => hm i hM hi hn
        cases F.pend j pre x hx hjp with
        | skip o' ho' hw hv =>
          rw [ho] at ho'
          simp only [Option.some.injEq] at ho'
          subst ho'
          rw [e1] at hw
          rw [aWanted_good ht hw]
          simp only [Bool.false_eq_true, if_false]
          exact on h rs μ w undef (by rw [hv]; exact .tuple .nil) hjd (F' (fun i _ _ hn => ⟨hn, rfl⟩) rfl rfl) hb (Mu.le_refl _) hr he
        | quiet o' ho' hw hk hq =>
          rw [ho] at ho'
          simp only [Option.some.injEq] at ho'
          subst ho'
          rw [e1] at hw
          rw [aWanted_good ht hw]
          simp only [if_true]
          refine .inl ?_
          have hq' : aQ P (aEval gl (tA ops V t0 p)) o.op h = some (V j) := by
            rw [← e2]
            rcases hq with ⟨hl1, h1, hq⟩ | hq
            · rw [aQ_heapless hl1 h h1]; exact hq
            · exact okAt_get hok hq
          obtain ⟨v', hrun, hv⟩ := aQ_good hr env hq'
          unfold Oper.wp
          rw [hrun, Oper.upon_value]
          exact on h rs μ w v' hv hjd (F' (fun i _ _ hn => ⟨hn, rfl⟩) rfl rfl) hb (Mu.le_refl _) hr he
        | make o' ho' hw hk pl hm hM hv hn hn0 hget =>
          rw [ho] at ho'
          simp only [Option.some.injEq] at ho'
          subst ho'
          rw [e1] at hw
          rw [aWanted_good ht hw]
          simp only [if_true]
          refine .inl ?_
          rw [e3] at hm
          obtain ⟨s, hs, hpg⟩ := aM_good (w := w) env hm
          obtain ⟨v', w', μ', hrun, hle, hoth, hvr, hrel, hos, htape, hout, hsz, hkeep, hnew⟩ := ghost_new hr hpg (F.lt j hM) hn hget
          unfold Oper.wp
          rw [hs, v_run hrun, Oper.upon_value]
          refine on h rs μ' w' v' (by rw [hv]; exact hvr) hjd (F' (fun i hiM hi hin => ?_) rfl rfl) hb hle hrel ?_
          · have hij : i ≠ j := fun e => hi (by rw [e]; simp)
            exact ⟨by rw [hoth _ (F.inj i j hiM hM hij)]; exact hin, rfl⟩
          · refine ⟨he.n_le, fun i hi => ?_, fun i hi him => he.ghost i hi him, hos.trans he.os, htape.trans he.tape, hout.trans he.output, Nat.le_trans he.size hsz, fun cb hc hnr => ?_, ?_⟩
            · rw [hoth i (by omega)]; exact he.mu i hi
            · rw [hkeep cb (Nat.lt_of_lt_of_le hc he.size)]; exact he.keep cb hc hnr
            · rintro cb hc ⟨i, m, b, hi, hcb, hg2, hrw⟩
              by_cases hin : i = N j
              · subst hin
                have := hnew m hi
                have := he.size
                omega
              · rw [hoth i hin] at hi
                exact he.rw cb hc ⟨i, m, b, hi, hcb, hg2, hrw⟩
      · -- the next write
        have hjt : j ∈ todo := by
          rw [F.all] at hjσ
          rcases List.mem_append.1 hjσ with h1 | h1
          · exact absurd (by simpa using h1) hjd
          · exact h1
        rcases hb with rfl | ⟨e, rest, oe, rfl, hoe, hke, hwe⟩
        · cases hjt
        have hje : j = e := by
          rcases List.mem_cons.1 hjt with h1 | h1
          · exact h1
          · exfalso
            obtain ⟨y, z, hz⟩ := List.append_of_mem h1
            have hσx : σ.reverse = z.reverse ++ j :: (y.reverse ++ e :: done) := by rw [F.all, hz]; simp
            have := st.eff _ _ _ hσx e (by simp) (by unfold isEff; rw [hoe]; simp [hke])
            have hep := F.sub e (hanc e this)
            rw [List.nodup_append] at hnd
            exact hnd.2.2 e (by simpa using hep) e (by simp) rfl
        subst hje
        rw [ho] at hoe
        simp only [Option.some.injEq] at hoe
        subst hoe
        have hσx : σ.reverse = rest.reverse ++ j :: done := by rw [F.all]; simp
        obtain ⟨e1, e2, e3, e4⟩ := atp _ _ hσx
        rw [e1] at hwe
        rw [aWanted_good ht hwe]
        simp only [if_true]
        refine .inl ?_
        have hrun := F.run
        simp only [aDrawGo, ho, e1, hwe, hke, hok, if_true] at hrun
        split at hrun
        · rename_i v h1 hE
          rw [e4] at hE
          have hop : aOp P call (aEval gl (tA ops V t0 p)) o.op h = some (v, h1) := by simp only [aOp, hke]; exact hE
          refine aOp_wp hcall hr hg env hop fun v' w' μ' hv hrel hext => ?_
          have hle := hext.le hr
          have hV : ∀ k ∈ done, (fun k => if k = j then v else V k) k = V k := fun k hk => by
            have hki : k ≠ j := fun e => hjd (e ▸ hk)
            show (if k = j then v else V k) = V k
            rw [if_neg hki]
          have hVj : (fun k => if k = j then v else V k) j = v := by show (if j = j then v else V j) = v; rw [if_pos rfl]
          generalize (fun k => if k = j then v else V k) = V' at hV hVj
          have htd : tA ops V' t0 (j :: done) = aPut (tA ops V t0 done) o.dst v := by
            simp only [tA, hVj]
            rw [tA_congr hV]
            simp [dstOf, ho]
          have F1 : Far P gl call ops σ t0 h0.n fin (j :: p) (j :: done) rest V' N M h1 (rs.filter fun r => !isAnc (ancTab ops) r.i j) μ' := by
            refine ⟨by rw [F.all]; simp, by rw [htd]; exact hrun, fun i hi => ?_, fun i pre' x' hx' hi => ?_, F.inj, fun i hi => Nat.lt_of_lt_of_le (F.lt i hi) hext.n_le, fun i hi => List.mem_cons_of_mem _ (F.mdone i hi), Nat.le_trans F.nle hext.n_le⟩
            · rcases List.mem_cons.1 hi with rfl | hi
              · simp
              · exact List.mem_cons_of_mem _ (F.sub i hi)
            · cases x' with
              | nil =>
                simp only [List.nil_append, List.cons.injEq] at hx'
                obtain ⟨rfl, _⟩ := hx'
                exact absurd (by simp) hi
              | cons y x' =>
                simp only [List.cons_append, List.cons.injEq] at hx'
                obtain ⟨rfl, hx'⟩ := hx'
                have hip : i ∉ p := fun h => hi (List.mem_cons_of_mem _ h)
                have hid : i ∈ done := by rw [hx']; simp
                have k1 := (F.pend i pre' x' hx' hip).mono (V' := V') (N' := N) (M' := M) (h' := h) (rs' := rs) (fun q hq => hV q (by rw [hx']; simp only [List.mem_append]; exact .inr hq)) rfl (fun _ h => h) (fun _ h => h) (fun _ _ => rfl) F.lt
                refine k1.other (fun q hq hqi => ?_) fun hiM hn => ?_
                · rw [List.mem_filter]
                  refine ⟨hq, ?_⟩
                  cases hx2 : isAnc (ancTab ops) q.i j with
                  | false => rfl
                  | true => exact absurd (hqi ▸ hanc _ hx2) hip
                · have hlt := F.lt i hiM
                  exact ⟨by rw [hext.mu _ hlt]; exact hn, hext.ghost _ hlt hn⟩
          obtain ⟨d', t', V2, N2, M2, h2, rs2, F2, hb2, hV2, hr2, he2⟩ := advance (w := w') (μ0 := μ0) (h0 := h0) (w0 := w0) rest (j :: done) V' N M h1 _ F1 st.nodup (fun i hi => F1.sub i hi) hrel (he.trans hext) (Nat.le_trans he.n_le hext.n_le)
          refine ih _ (j :: p) d' t' V2 N2 M2 h2 rs2 μ' _ w' F2 hb2 tp' lr' hps' hl' ?_ (put_defers (hd.mono hle) _ _) hr2 (hg.mono hle) he2
          have hVp : tA ops V2 t0 (j :: p) = aPut (tA ops V t0 p) o.dst v := by
            simp only [tA]
            rw [hV2 j (by simp), hVj, tA_congr (p := p) (V' := V) fun i hi => by rw [hV2 i (List.mem_cons_of_mem _ (F.sub i hi)), hV i (F.sub i hi)]]
            simp [dstOf, ho]
          rw [hVp]
          exact aPut_good (ht.mono hle) _ hv
        · cases hrun

theorem aDraw_sound (hcall : CallSound P gl call) (hmix : P.follows .mixedOrders = true) : DrawSound P gl (drawOk P) (aDraw P gl call) := by
  intro ops s s' hok hd μ id a w hs
  unfold aDraw at hd
  simp only [Option.map_eq_some_iff, Prod.exists] at hd
  obtain ⟨t, h', hgo, rfl⟩ := hd
  have st := drawOk_stat hok
  refine wp_region_any hmix ?_
  have hr : Rel μ s.h { w with drawn := w.drawn + 1 } := hs.r.drew _
  have he : Ext μ s.h w μ s.h { w with drawn := w.drawn + 1 } := Ext.drew _
  have F0 : Far P gl call ops (asap P ops) s.t s.h.n (t, h') [] [] (asap P ops) (fun _ => .any) (fun _ => 0) [] s.h [] μ :=
    ⟨by simp, hgo, by simp, fun j pre x hx _ => by simp at hx, by simp, by simp, by simp, Nat.le_refl _⟩
  obtain ⟨d', t', V2, N2, M2, h2, rs2, F2, hb2, hV2, hr2, he2⟩ := advance (w := { w with drawn := w.drawn + 1 }) (μ0 := μ) (h0 := s.h) (w0 := w) _ [] _ _ [] s.h [] F0 st.nodup (by simp) hr he (Nat.le_refl _)
  refine draw_any hcall st (ds := s.d) (fin := (t, h')) (μ0 := μ) (h0 := s.h) (w0 := w) ?_ ops.size _ [] d' t' V2 N2 M2 h2 rs2 μ a _ F2 hb2 .nil ⟨by simp, fun i hi => ?_⟩ (by simp) ?_ hs.t hs.d hr2 hs.g he2
  · intro a' w' μ' h1 h2 h3 h4 h5
    exact ⟨trivial, μ', ⟨h1, h2, h3, h4⟩, h5⟩
  · simp [hi]
  · unfold left
    rw [List.filter_eq_self.2 (by simp)]
    exact st.len

/-- Calls that are not walked: what is proved of them by hand. -/
abbrev AOver := FuncId → Option (List AVal → AH → Option (AVal × AH))
def noOver : AOver := fun _ => none
/-- Calls to a depth. -/
def acall (P : Program) (gl : List Nat) (ov : AOver) : Nat → FuncId → List AVal → AH → Option (AVal × AH)
  | 0, _, _, _ => none
  | n + 1, f, args, h =>
    match ov f with
    | some g => g args h
    | none => aBody P gl (acall P gl ov n) (aBodyD P gl (acall P gl ov n) (aDraw P gl (acall P gl ov n))) (aDraw P gl (acall P gl ov n)) f args h

/-- What is asked of a program. -/
structure ProgOk (P : Program) : Prop where
  mix : P.follows .mixedOrders = true
  regs : ∀ (f : FuncId) (fn : Func) (c : Code), P.funcs[f]? = some fn → fn.body = some c → regsOk (drawOk P) c = true
  names : ∀ (f : FuncId) (fn : Func), P.funcs[f]? = some fn → (fn.name == "runtime.NumGoroutine") = false
def progOk (P : Program) : Bool := P.follows .mixedOrders && P.funcs.toList.all fun fn => !(fn.name == "runtime.NumGoroutine") && (match fn.body with | some c => regsOk (drawOk P) c | none => true)
theorem progOk_spec (h : progOk P = true) : ProgOk P := by
  unfold progOk at h
  simp only [Bool.and_eq_true, List.all_eq_true, Bool.not_eq_true'] at h
  obtain ⟨h1, h2⟩ := h
  have hm : ∀ (f : FuncId) (fn : Func), P.funcs[f]? = some fn → fn ∈ P.funcs.toList := fun f fn hf => by
    have := Array.mem_of_getElem? hf
    simpa using this
  refine ⟨h1, fun f fn c hf hc => ?_, fun f fn hf => (h2 fn (hm f fn hf)).1⟩
  have := (h2 fn (hm f fn hf)).2
  rw [hc] at this
  exact this

/-- What the abstract machine says of a call holds of the model. -/
theorem acall_sound (hP : ProgOk P) {ov : AOver} (hov : ∀ f g, ov f = some g → CallSound P gl (fun f' args h => if f' = f then g args h else none)) : ∀ n, CallSound P gl (acall P gl ov n)
  | 0 => fun f args h r h' hc => by simp [acall] at hc
  | n + 1 => fun f args h r h' hc => by
      have ih := acall_sound hP hov n
      simp only [acall] at hc
      split at hc
      · rename_i g hg
        exact hov f g hg f args h r h' (by simpa using hc)
      · have hd := aDraw_sound ih hP.mix
        exact aBody_calls ih (aBodyD_calls ih hd hP.regs hP.names) hd hP.regs hP.names f args h r h' hc
end Go.Proofs.Ytfppdfmffdkogaa.AI
