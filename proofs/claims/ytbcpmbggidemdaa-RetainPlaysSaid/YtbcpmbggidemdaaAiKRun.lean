/- The machine once more, what comes next handed on: rows of operations. -/
import Derived.Test.YtbcpmbggidemdaaAiResM
namespace Go.Proofs.Ytbcpmbggidemdaa.AI
open Go
set_option linter.unusedSimpArgs false

variable {P : Program} {gl : List Nat} {call : ACall}

abbrev Ans := Option (AVal × AH)
def kQ (x : Option AVal) (K : AVal → Ans) : Ans := match x with
  | some v => K v
  | none => none
def kM (x : Option APlan) (h : AH) (K : AVal → AH → Ans) : Ans := match x with
  | some p => K (p.2 h.n) (h.push p.1)
  | none => none
def kE (x : Option (AVal × AH)) (K : AVal → AH → Ans) : Ans := match x with
  | some (v, h) => K v h
  | none => none
def kIf (c : AVal) (A B : Ans) : Ans := match c with
  | .bool true => A
  | .bool false => B
  | _ => none
/-- What is wanted only where g says so. -/
def kGq (g : AVal) (want : Bool) (A : (AVal → Ans) → Ans) (K : AVal → Ans) : Ans := match g with
  | .any => none
  | .bool b => if b == want then A K else K (.tuple [])
  | _ => K (.tuple [])
def kG (g : AVal) (want : Bool) (h : AH) (A : (AVal → AH → Ans) → Ans) (K : AVal → AH → Ans) : Ans := match g with
  | .any => none
  | .bool b => if b == want then A K else K (.tuple []) h
  | _ => K (.tuple []) h
def kChk (c : Bool) (K : Ans) : Ans := match c with
  | true => K
  | false => none
def kSame (x : Option AVal) (v : AVal) : Bool := match x with
  | some v' => AVal.same v' v
  | none => false
def gOn (g : AVal) (want : Bool) : Bool := match g with
  | .bool b => b == want
  | _ => false

/-- The register of a guard. -/
def gVal (ops : Array Oper) (t : List AVal) (j : Nat) : AVal := (((ops[j]?).bind (·.dst)).bind (t[·]?)).getD (.tuple [])
theorem aWanted_gVal {ops : Array Oper} {t : List AVal} {o : Oper} {j : Nat} {want : Bool} (hg : o.guard = some (j, want)) :
    aWanted ops t o = match gVal ops t j with | .any => none | .bool b => some (b == want) | _ => some false := by
  unfold aWanted gVal
  rw [hg]
  simp only
  cases ((ops[j]?).bind (·.dst)).bind (t[·]?) with
  | none => rfl
  | some v => cases v <;> rfl

def kOp (P : Program) (gl : List Nat) (call : ACall) (op : Op) (t : List AVal) (h : AH) (K : AVal → AH → Ans) : Ans :=
  match kindOf P op with
  | .quiet => kQ (qOp P (aEval gl t) op h) fun v => K v h
  | .make => kM (mOp P (aEval gl t) op) h K
  | .eff => kE (eOp P call (aEval gl t) op h) K
theorem kOp_sound {op : Op} {t : List AVal} {h : AH} {K : AVal → AH → Ans} {r : AVal × AH} (hk : kOp P gl call op t h K = some r) :
    ∃ v h', aOp P call (aEval gl t) op h = some (v, h') ∧ K v h' = some r := by
  unfold kOp at hk
  unfold aOp
  split at hk
  · rename_i hkd
    rw [hkd]
    unfold kQ at hk
    split at hk
    · rename_i v hv
      exact ⟨v, h, by simp [qOp_aQ hv], hk⟩
    · cases hk
  · rename_i hkd
    rw [hkd]
    unfold kM at hk
    split at hk
    · rename_i p hp
      exact ⟨_, _, by simp [mOp_aM hp], hk⟩
    · cases hk
  · rename_i hkd
    rw [hkd]
    unfold kE at hk
    split at hk
    · rename_i v h' hv
      exact ⟨v, h', eOp_aE hv, hk⟩
    · cases hk

/-- A register is written; the table is spelt out up to it (the kernel needn't look through what was written before). -/
abbrev kSet : List AVal → Nat → AVal → (List AVal → Ans) → Ans
  | [], _, _, K => K []
  | _ :: l, 0, v, K => K (v :: l)
  | x :: l, n + 1, v, K => kSet l n v fun l' => K (x :: l')
theorem kSet_eq : ∀ (t : List AVal) (n : Nat) (v : AVal) (K : List AVal → Ans), kSet t n v K = K (t.set n v)
  | [], _, _, _ => rfl
  | _ :: _, 0, _, _ => rfl
  | x :: l, n + 1, v, K => by simp only [kSet, kSet_eq l n v, List.set_cons_succ]
abbrev kPut (t : List AVal) (dst : Option Nat) (v : AVal) (K : List AVal → Ans) : Ans := match dst with
  | some d => kSet t d v K
  | none => K t
theorem kPut_eq (t : List AVal) (dst : Option Nat) (v : AVal) (K : List AVal → Ans) : kPut t dst v K = K (aPut t dst v) := by
  cases dst with
  | none => rfl
  | some d => exact kSet_eq t d v K
def kRun (P : Program) (gl : List Nat) (call : ACall) (ops : Array Oper) : List Nat → List AVal → List ADef → AH → (List AVal → List ADef → AH → Ans) → Ans
  | [], t, d, h, K => K t d h
  | i :: rest, t, d, h, K =>
    match ops[i]? with
    | none => none
    | some o =>
      match o.guard with
      | none => match o.op with
        | .defer c => match aDefer (aEval gl t) c with
          | some x => kPut t o.dst (.tuple []) fun t' => kRun P gl call ops rest t' (x :: d) h K
          | none => none
        | op => kOp P gl call op t h fun v h' => kPut t o.dst v fun t' => kRun P gl call ops rest t' d h' K
      | some (j, want) => match o.op with
        | .defer _ => none
        | op => match kindOf P op with
          | .quiet => kGq (gVal ops t j) want (fun k => kQ (qOp P (aEval gl t) op h) k) fun v => kPut t o.dst v fun t' => kRun P gl call ops rest t' d h K
          | _ => kG (gVal ops t j) want h (fun k => kOp P gl call op t h k) fun v h' => kPut t o.dst v fun t' => kRun P gl call ops rest t' d h' K

/-- The registers that are written. -/
def opsDefs (ops : Array Oper) : List Nat := ops.toList.filterMap (·.dst)
/-- The same, but for these. -/
def Agree (D : List Nat) (t t' : List AVal) : Prop := t'.length = t.length ∧ ∀ i, i ∉ D → t'[i]? = t[i]?
theorem Agree.refl (D : List Nat) (t : List AVal) : Agree D t t := ⟨rfl, fun _ _ => rfl⟩
theorem Agree.trans {D : List Nat} {a b c : List AVal} (h : Agree D a b) (k : Agree D b c) : Agree D a c := ⟨k.1.trans h.1, fun i hi => (k.2 i hi).trans (h.2 i hi)⟩
theorem Agree.mono {D D' : List Nat} {a b : List AVal} (h : Agree D a b) (hs : ∀ i ∈ D, i ∈ D') : Agree D' a b := ⟨h.1, fun i hi => h.2 i fun hm => hi (hs i hm)⟩
theorem agree_put {ops : Array Oper} {i : Nat} {o : Oper} (ho : ops[i]? = some o) (t : List AVal) (v : AVal) : Agree (opsDefs ops) t (aPut t o.dst v) := by
  unfold aPut
  split
  · rename_i d hd
    refine ⟨by simp, fun j hj => ?_⟩
    have : d ∈ opsDefs ops := by
      unfold opsDefs
      rw [List.mem_filterMap]
      refine ⟨o, ?_, hd⟩
      have := Array.mem_of_getElem? ho
      simpa using this
    rw [List.getElem?_set]
    rw [if_neg (fun e : d = j => hj (by rw [← e]; exact this))]
  · exact Agree.refl _ _

theorem kRun_sound {ops : Array Oper} {r : AVal × AH} : ∀ (l : List Nat) (t : List AVal) (d : List ADef) (h : AH) (K : List AVal → List ADef → AH → Ans), kRun P gl call ops l t d h K = some r →
    ∃ s', aRun P gl call ops l ⟨t, d, h⟩ = some s' ∧ K s'.t s'.d s'.h = some r ∧ Agree (opsDefs ops) t s'.t
  | [], t, d, h, K, hk => ⟨⟨t, d, h⟩, rfl, hk, Agree.refl _ _⟩
  | i :: rest, t, d, h, K, hk => by
      simp only [kRun, kPut_eq] at hk
      split at hk
      · cases hk
      rename_i o ho
      have done : ∀ (v : AVal) (d' : List ADef) (h' : AH), kRun P gl call ops rest (aPut t o.dst v) d' h' K = some r →
          ∃ s', aRun P gl call ops rest ⟨aPut t o.dst v, d', h'⟩ = some s' ∧ K s'.t s'.d s'.h = some r ∧ Agree (opsDefs ops) t s'.t := by
        intro v d' h' hk
        obtain ⟨s', h1, h2, h3⟩ := kRun_sound rest _ d' h' K hk
        exact ⟨s', h1, h2, (agree_put ho t v).trans h3⟩
      have hskip : aWanted ops t o = some false → kRun P gl call ops rest (aPut t o.dst (.tuple [])) d h K = some r → ∃ s', aRun P gl call ops (i :: rest) ⟨t, d, h⟩ = some s' ∧ K s'.t s'.d s'.h = some r ∧ Agree (opsDefs ops) t s'.t := by
        intro hw hk
        simp only [aRun, ho, hw]
        exact done _ _ _ hk
      have hexec : (∀ c, o.op ≠ .defer c) → aWanted ops t o = some true → ∀ v h', aOp P call (aEval gl t) o.op h = some (v, h') → kRun P gl call ops rest (aPut t o.dst v) d h' K = some r →
          ∃ s', aRun P gl call ops (i :: rest) ⟨t, d, h⟩ = some s' ∧ K s'.t s'.d s'.h = some r ∧ Agree (opsDefs ops) t s'.t := by
        intro hnd hw v h' hop hk
        simp only [aRun, ho, hw]
        revert hop
        cases hh : o.op <;> intro hop <;> first | exact absurd hh (hnd _) | (simp only [hop]; exact done _ _ _ hk)
      split at hk
      · rename_i hg
        have hw : aWanted ops t o = some true := by unfold aWanted; rw [hg]
        split at hk
        · rename_i c hop
          split at hk
          · rename_i x hd
            simp only [aRun, ho, hw, hop, hd]
            exact done _ _ _ hk
          · cases hk
        · rename_i hnd
          obtain ⟨v, h', hop, hk⟩ := kOp_sound hk
          exact hexec (fun c e => hnd c e) hw v h' hop hk
      · rename_i j want hg
        have hw := aWanted_gVal (ops := ops) (t := t) hg
        split at hk
        · cases hk
        · rename_i hnd
          split at hk
          · rename_i hq
            unfold kGq at hk
            split at hk
            · cases hk
            · rename_i b hb
              simp only [hb] at hw
              split at hk
              · rename_i hbw
                rw [hbw] at hw
                unfold kQ at hk
                split at hk
                · rename_i v hv
                  exact hexec (fun c e => hnd c e) hw v h (by unfold aOp; rw [hq]; simp [qOp_aQ hv]) hk
                · cases hk
              · rename_i hbw
                simp only [Bool.not_eq_true] at hbw
                rw [hbw] at hw
                exact hskip hw hk
            · rename_i h1 h2
              refine hskip ?_ hk
              rw [hw]
              split
              · rename_i e; exact absurd e h1
              · rename_i b e; exact absurd e (h2 b)
              · rfl
          · unfold kG at hk
            split at hk
            · cases hk
            · rename_i b hb
              simp only [hb] at hw
              split at hk
              · rename_i hbw
                rw [hbw] at hw
                obtain ⟨v, h', hop, hk⟩ := kOp_sound hk
                exact hexec (fun c e => hnd c e) hw v h' hop hk
              · rename_i hbw
                simp only [Bool.not_eq_true] at hbw
                rw [hbw] at hw
                exact hskip hw hk
            · rename_i h1 h2
              refine hskip ?_ hk
              rw [hw]
              split
              · rename_i e; exact absurd e h1
              · rename_i b e; exact absurd e (h2 b)
              · rfl
end Go.Proofs.Ytbcpmbggidemdaa.AI
