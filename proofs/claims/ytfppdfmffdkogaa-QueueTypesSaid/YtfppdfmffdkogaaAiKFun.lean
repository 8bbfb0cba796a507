/- KRun, KDraw, KCode, KSound, KFun of the machine, joined. -/
import Derived.Test.YtfppdfmffdkogaaAiResM
import Derived.Test.YtfppdfmffdkogaaAiLaw
namespace Go.Proofs.Ytfppdfmffdkogaa.AI
open Go
set_option linter.unusedSimpArgs false

variable {P : Program} {gl : List Nat} {call : ACall}

abbrev Ans := Option (AVal × AH)
def kQ (x : Option AVal) (K : AVal → Ans) : Ans := match x with
  | some v => K v
  | none => none
def kM (x : Option APlan) (h : AH) (K : AVal → AH → Ans) : Ans := match x with
  | some p => K (p.2 h.n) (h.push p.1)
  | none => none
def kE (x : Option (AVal × AH)) (K : AVal → AH → Ans) : Ans := match x with
  | some (v, h) => K v h
  | none => none
def kIf (c : AVal) (A B : Ans) : Ans := match c with
  | .bool true => A
  | .bool false => B
  | _ => none
/-- What is wanted only where g says so. -/
def kGq (g : AVal) (want : Bool) (A : (AVal → Ans) → Ans) (K : AVal → Ans) : Ans := match g with
  | .any => none
  | .bool b => if b == want then A K else K (.tuple [])
  | _ => K (.tuple [])
def kG (g : AVal) (want : Bool) (h : AH) (A : (AVal → AH → Ans) → Ans) (K : AVal → AH → Ans) : Ans := match g with
  | .any => none
  | .bool b => if b == want then A K else K (.tuple []) h
  | _ => K (.tuple []) h
def kChk (c : Bool) (K : Ans) : Ans := match c with
  | true => K
  | false => none
def kSame (x : Option AVal) (v : AVal) : Bool := match x with
  | some v' => AVal.same v' v
  | none => false
def gOn (g : AVal) (want : Bool) : Bool := match g with
  | .bool b => b == want
  | _ => false

/-- The register of a guard. -/
def gVal (ops : Array Oper) (t : List AVal) (j : Nat) : AVal := (((ops[j]?).bind (·.dst)).bind (t[·]?)).getD (.tuple [])
theorem aWanted_gVal {ops : Array Oper} {t : List AVal} {o : Oper} {j : Nat} {want : Bool} (hg : o.guard = some (j, want)) :
    aWanted ops t o = match gVal ops t j with | .any => none | .bool b => some (b == want) | _ => some false := by
  unfold aWanted gVal
  rw [hg]
  simp only
  cases ((ops[j]?).bind (·.dst)).bind (t[·]?) with
  | none => rfl
  | some v => cases v <;> rfl

def kOp (P : Program) (gl : List Nat) (call : ACall) (op : Op) (t : List AVal) (h : AH) (K : AVal → AH → Ans) : Ans :=
  match kindOf P op with
  | .quiet => kQ (qOp P (aEval gl t) op h) fun v => K v h
  | .make => kM (mOp P (aEval gl t) op) h K
  | .eff => kE (eOp P call (aEval gl t) op h) K
theorem kOp_sound {op : Op} {t : List AVal} {h : AH} {K : AVal → AH → Ans} {r : AVal × AH} (hk : kOp P gl call op t h K = some r) :
    ∃ v h', aOp P call (aEval gl t) op h = some (v, h') ∧ K v h' = some r := by
  unfold kOp at hk
  unfold aOp
  split at hk
  · rename_i hkd
    rw [hkd]
    unfold kQ at hk
    split at hk
    · rename_i v hv
      exact ⟨v, h, by simp [qOp_aQ hv], hk⟩
    · cases hk
  · rename_i hkd
    rw [hkd]
    unfold kM at hk
    split at hk
    · rename_i p hp
      exact ⟨_, _, by simp [mOp_aM hp], hk⟩
    · cases hk
  · rename_i hkd
    rw [hkd]
    unfold kE at hk
    split at hk
    · rename_i v h' hv
      exact ⟨v, h', eOp_aE hv, hk⟩
    · cases hk

/-- A register is written; the table is spelt out up to it (the kernel needn't look through what was written before). -/
abbrev kSet : List AVal → Nat → AVal → (List AVal → Ans) → Ans
  | [], _, _, K => K []
  | _ :: l, 0, v, K => K (v :: l)
  | x :: l, n + 1, v, K => kSet l n v fun l' => K (x :: l')
theorem kSet_eq : ∀ (t : List AVal) (n : Nat) (v : AVal) (K : List AVal → Ans), kSet t n v K = K (t.set n v)
  | [], _, _, _ => rfl
  | _ :: _, 0, _, _ => rfl
  | x :: l, n + 1, v, K => by simp only [kSet, kSet_eq l n v, List.set_cons_succ]
abbrev kPut (t : List AVal) (dst : Option Nat) (v : AVal) (K : List AVal → Ans) : Ans := match dst with
  | some d => kSet t d v K
  | none => K t
theorem kPut_eq (t : List AVal) (dst : Option Nat) (v : AVal) (K : List AVal → Ans) : kPut t dst v K = K (aPut t dst v) := by
  cases dst with
  | none => rfl
  | some d => exact kSet_eq t d v K
def kRun (P : Program) (gl : List Nat) (call : ACall) (ops : Array Oper) : List Nat → List AVal → List ADef → AH → (List AVal → List ADef → AH → Ans) → Ans
  | [], t, d, h, K => K t d h
  | i :: rest, t, d, h, K =>
    match ops[i]? with
    | none => none
    | some o =>
      match o.guard with
      | none => match o.op with
        | .defer c => match aDefer (aEval gl t) c with
          | some x => kPut t o.dst (.tuple []) fun t' => kRun P gl call ops rest t' (x :: d) h K
          | none => none
        | op => kOp P gl call op t h fun v h' => kPut t o.dst v fun t' => kRun P gl call ops rest t' d h' K
      | some (j, want) => match o.op with
        | .defer _ => none
        | op => match kindOf P op with
          | .quiet => kGq (gVal ops t j) want (fun k => kQ (qOp P (aEval gl t) op h) k) fun v => kPut t o.dst v fun t' => kRun P gl call ops rest t' d h K
          | _ => kG (gVal ops t j) want h (fun k => kOp P gl call op t h k) fun v h' => kPut t o.dst v fun t' => kRun P gl call ops rest t' d h' K

/-- The registers that are written. -/
def opsDefs (ops : Array Oper) : List Nat := ops.toList.filterMap (·.dst)
/-- The same, but for these. -/
def Agree (D : List Nat) (t t' : List AVal) : Prop := t'.length = t.length ∧ ∀ i, i ∉ D → t'[i]? = t[i]?
theorem Agree.refl (D : List Nat) (t : List AVal) : Agree D t t := ⟨rfl, fun _ _ => rfl⟩
theorem Agree.trans {D : List Nat} {a b c : List AVal} (h : Agree D a b) (k : Agree D b c) : Agree D a c := ⟨k.1.trans h.1, fun i hi => (k.2 i hi).trans (h.2 i hi)⟩
theorem Agree.mono {D D' : List Nat} {a b : List AVal} (h : Agree D a b) (hs : ∀ i ∈ D, i ∈ D') : Agree D' a b := ⟨h.1, fun i hi => h.2 i fun hm => hi (hs i hm)⟩
theorem agree_put {ops : Array Oper} {i : Nat} {o : Oper} (ho : ops[i]? = some o) (t : List AVal) (v : AVal) : Agree (opsDefs ops) t (aPut t o.dst v) := by
  unfold aPut
  split
  · rename_i d hd
    refine ⟨by simp, fun j hj => ?_⟩
    have : d ∈ opsDefs ops := by
      unfold opsDefs
      rw [List.mem_filterMap]
      refine ⟨o, ?_, hd⟩
      have := Array.mem_of_getElem? ho
      simpa using this
    rw [List.getElem?_set]
    rw [if_neg (fun e : d = j => hj (by rw [← e]; exact this))]
  · exact Agree.refl _ _

theorem kRun_sound {ops : Array Oper} {r : AVal × AH} : ∀ (l : List Nat) (t : List AVal) (d : List ADef) (h : AH) (K : List AVal → List ADef → AH → Ans), kRun P gl call ops l t d h K = some r →
    ∃ s', aRun P gl call ops l ⟨t, d, h⟩ = some s' ∧ K s'.t s'.d s'.h = some r ∧ Agree (opsDefs ops) t s'.t
  | [], t, d, h, K, hk => ⟨⟨t, d, h⟩, rfl, hk, Agree.refl _ _⟩
  | i :: rest, t, d, h, K, hk => by
      simp only [kRun, kPut_eq] at hk
      split at hk
      · cases hk
      rename_i o ho
      have done : ∀ (v : AVal) (d' : List ADef) (h' : AH), kRun P gl call ops rest (aPut t o.dst v) d' h' K = some r →
          ∃ s', aRun P gl call ops rest ⟨aPut t o.dst v, d', h'⟩ = some s' ∧ K s'.t s'.d s'.h = some r ∧ Agree (opsDefs ops) t s'.t := by
        intro v d' h' hk
        obtain ⟨s', h1, h2, h3⟩ := kRun_sound rest _ d' h' K hk
        exact ⟨s', h1, h2, (agree_put ho t v).trans h3⟩
      have hskip : aWanted ops t o = some false → kRun P gl call ops rest (aPut t o.dst (.tuple [])) d h K = some r → ∃ s', aRun P gl call ops (i :: rest) ⟨t, d, h⟩ = some s' ∧ K s'.t s'.d s'.h = some r ∧ Agree (opsDefs ops) t s'.t := by
        intro hw hk
        simp only [aRun, ho, hw]
        exact done _ _ _ hk
      have hexec : (∀ c, o.op ≠ .defer c) → aWanted ops t o = some true → ∀ v h', aOp P call (aEval gl t) o.op h = some (v, h') → kRun P gl call ops rest (aPut t o.dst v) d h' K = some r →
          ∃ s', aRun P gl call ops (i :: rest) ⟨t, d, h⟩ = some s' ∧ K s'.t s'.d s'.h = some r ∧ Agree (opsDefs ops) t s'.t := by
        intro hnd hw v h' hop hk
        simp only [aRun, ho, hw]
        revert hop
        cases hh : o.op <;> intro hop <;> first | exact absurd hh (hnd _) | (simp only [hop]; exact done _ _ _ hk)
      split at hk
      · rename_i hg
        have hw : aWanted ops t o = some true := by unfold aWanted; rw [hg]
        split at hk
        · rename_i c hop
          split at hk
          · rename_i x hd
            simp only [aRun, ho, hw, hop, hd]
            exact done _ _ _ hk
          · cases hk
        · rename_i hnd
          obtain ⟨v, h', hop, hk⟩ := kOp_sound hk
          exact hexec (fun c e => hnd c e) hw v h' hop hk
      · rename_i j want hg
        have hw := aWanted_gVal (ops := ops) (t := t) hg
        split at hk
        · cases hk
        · rename_i hnd
          split at hk
          · rename_i hq
            unfold kGq at hk
            split at hk
            · cases hk
            · rename_i b hb
              simp only [hb] at hw
              split at hk
              · rename_i hbw
                rw [hbw] at hw
                unfold kQ at hk
                split at hk
                · rename_i v hv
                  exact hexec (fun c e => hnd c e) hw v h (by unfold aOp; rw [hq]; simp [qOp_aQ hv]) hk
                · cases hk
              · rename_i hbw
                simp only [Bool.not_eq_true] at hbw
                rw [hbw] at hw
                exact hskip hw hk
            · rename_i h1 h2
              refine hskip ?_ hk
              rw [hw]
              split
              · rename_i e; exact absurd e h1
              · rename_i b e; exact absurd e (h2 b)
              · rfl
          · unfold kG at hk
            split at hk
            · cases hk
            · rename_i b hb
              simp only [hb] at hw
              split at hk
              · rename_i hbw
                rw [hbw] at hw
                obtain ⟨v, h', hop, hk⟩ := kOp_sound hk
                exact hexec (fun c e => hnd c e) hw v h' hop hk
              · rename_i hbw
                simp only [Bool.not_eq_true] at hbw
                rw [hbw] at hw
                exact hskip hw hk
            · rename_i h1 h2
              refine hskip ?_ hk
              rw [hw]
              split
              · rename_i e; exact absurd e h1
              · rename_i b e; exact absurd e (h2 b)
              · rfl
end Go.Proofs.Ytfppdfmffdkogaa.AI
namespace Go.Proofs.Ytfppdfmffdkogaa.AI
open Go
set_option linter.unusedSimpArgs false

variable {P : Program} {gl : List Nat} {call : ACall}

/-- Does it not look at the heap, at these types? -/
def hless (P : Program) (op : Op) : Bool := heapless op || match op with
  | .call { callee := .builtin .len, argTypes, .. } => match argTypes.toList with
    | t :: _ => match P.underlying t with
      | some (.map _ _) => false
      | _ => true
    | _ => false
  | .slice t _ _ _ _ => match P.underlying t with
    | some (.slice _) | some .string => true
    | _ => false
  | .convert s d _ => match P.underlying s, P.underlying d with
    | some _, some (.int _) => true
    | _, _ => false
  | _ => false

theorem heapless_eq {ρ : AEnv} {op : Op} (hl : heapless op = true) (h h' : AH) : aQ P ρ op h = aQ P ρ op h' := by
  unfold heapless at hl
  split at hl <;> first | rfl | (cases hl; done) | skip
  all_goals (unfold aQ; simp only; split <;> first | rfl | simp_all)

theorem hless_eq {ρ : AEnv} {op : Op} (hl : hless P op = true) (h h' : AH) : aQ P ρ op h = aQ P ρ op h' := by
  unfold hless at hl
  rw [Bool.or_eq_true] at hl
  rcases hl with hl | hl
  · exact heapless_eq hl h h'
  · split at hl
    · rename_i args argTypes
      split at hl
      · rename_i t r ht
        unfold aQ
        simp only
        split <;> try rfl
        · unfold aLen
          simp only [ht]
          split at hl
          · cases hl
          · rename_i hne
            split <;> first | rfl | (rename_i hm _; exact absurd hm (hne _ _))
        · rename_i hb _; cases hb
      · cases hl
    · unfold aQ aSlice
      simp only
      split at hl
      · rename_i x _ _ _ _ _ hu; simp only [hu]; cases ρ x <;> rfl
      · rename_i x _ _ _ _ hu; simp only [hu]; cases ρ x <;> rfl
      · cases hl
    · rename_i s d x
      split at hl
      · rename_i dd k hs hd
        unfold aQ aConvert
        simp only [hs, hd]
        cases ρ x <;> rfl
      · cases hl
    · cases hl

structure KRec where
  r : QRec
  need : Bool
  dirty : Bool
  hl : Bool
def rsOf (ks : List KRec) : List QRec := (ks.filter (·.need)).map (·.r)
def rchk (P : Program) (gl : List Nat) (h : AH) (r : QRec) : Bool := kSame (qOp P (aEval gl r.t) r.op h) r.v
def kChks (P : Program) (gl : List Nat) (h : AH) (A : Ans) : List KRec → Ans
  | [] => A
  | k :: l => match k.dirty && !k.hl with
    | true => kChk (!k.need || rchk P gl h k.r) (kChks P gl h A l)
    | false => kChks P gl h A l
def soil (ks : List KRec) : List KRec := ks.map fun k => { k with dirty := true }
def drop1 (tab : List Nat) (i : Nat) (on : Bool) (ks : List KRec) : List KRec := ks.map fun k => match isAnc tab k.r.i i with
  | true => { k with need := k.need && !on }
  | false => k

/-- What is known of the records. -/
def KInv (P : Program) (gl : List Nat) (h : AH) (ks : List KRec) : Prop :=
  ∀ k ∈ ks, k.need = true → (k.hl = true → ∀ h', aQ P (aEval gl k.r.t) k.r.op h' = some k.r.v) ∧ (k.dirty = false → aQ P (aEval gl k.r.t) k.r.op h = some k.r.v)

theorem kChks_sound {h : AH} {A : Ans} {r : AVal × AH} : ∀ {ks : List KRec}, KInv P gl h ks → kChks P gl h A ks = some r → A = some r ∧ okAt P gl h (rsOf ks) = true
  | [], _, hk => ⟨hk, rfl⟩
  | k :: l, hi, hk => by
      have hi' : KInv P gl h l := fun x hx => hi x (by simp [hx])
      have h0 := hi k (by simp)
      have fin : kChks P gl h A l = some r → (k.need = true → ∃ v, aQ P (aEval gl k.r.t) k.r.op h = some v ∧ AVal.same v k.r.v = true) → A = some r ∧ okAt P gl h (rsOf (k :: l)) = true := by
        intro hk hq
        obtain ⟨h1, h2⟩ := kChks_sound hi' hk
        refine ⟨h1, ?_⟩
        unfold rsOf
        rw [List.filter_cons]
        split
        · rename_i hn
          obtain ⟨v, hv, hs⟩ := hq hn
          simp only [List.map_cons, okAt, List.all_cons, hv, hs, Bool.true_and]
          exact h2
        · exact h2
      simp only [kChks] at hk
      split at hk
      · unfold kChk at hk
        split at hk
        · rename_i hc
          refine fin hk fun hn => ?_
          simp only [hn, Bool.not_true, Bool.false_or] at hc
          unfold rchk kSame at hc
          split at hc
          · rename_i v hv
            exact ⟨v, qOp_aQ hv, hc⟩
          · cases hc
        · cases hk
      · rename_i hd
        refine fin hk fun hn => ⟨k.r.v, ?_, AVal.same_refl _⟩
        simp only [Bool.and_eq_false_iff, Bool.not_eq_false'] at hd
        rcases hd with hd | hd
        · exact (h0 hn).2 hd
        · exact (h0 hn).1 hd h

theorem rsOf_soil (ks : List KRec) : rsOf (soil ks) = rsOf ks := by
  induction ks with
  | nil => rfl
  | cons k l ih =>
    unfold rsOf soil at *
    simp only [List.map_cons, List.filter_cons]
    split <;> simp_all
theorem KInv.soil {h h' : AH} {ks : List KRec} (hi : KInv P gl h ks) : KInv P gl h' (soil ks) := by
  intro k hk hn
  unfold AI.soil at hk
  rw [List.mem_map] at hk
  obtain ⟨k0, hk0, rfl⟩ := hk
  exact ⟨fun h => (hi k0 hk0 hn).1 h, fun h => by cases h⟩
theorem rsOf_drop1 (tab : List Nat) (i : Nat) (ks : List KRec) : rsOf (drop1 tab i true ks) = (rsOf ks).filter fun r => !isAnc tab r.i i := by
  induction ks with
  | nil => rfl
  | cons k l ih =>
    unfold rsOf drop1 at *
    simp only [List.map_cons]
    cases ha : isAnc tab k.r.i i <;> cases hn : k.need <;> simp_all [List.filter_cons]
theorem rsOf_drop0 (tab : List Nat) (i : Nat) (ks : List KRec) : rsOf (drop1 tab i false ks) = rsOf ks := by
  induction ks with
  | nil => rfl
  | cons k l ih =>
    unfold rsOf drop1 at *
    simp only [List.map_cons]
    cases ha : isAnc tab k.r.i i <;> cases hn : k.need <;> simp_all [List.filter_cons]
theorem KInv.drop1 {h : AH} {ks : List KRec} (tab : List Nat) (i : Nat) (on : Bool) (hi : KInv P gl h ks) : KInv P gl h (drop1 tab i on ks) := by
  intro k hk hn
  unfold AI.drop1 at hk
  rw [List.mem_map] at hk
  obtain ⟨k0, hk0, rfl⟩ := hk
  cases ha : isAnc tab k0.r.i i
  · simp only [ha] at hn ⊢
    exact hi k0 hk0 hn
  · simp only [ha, Bool.and_eq_true] at hn ⊢
    exact hi k0 hk0 hn.1

def kDrawGo (P : Program) (gl : List Nat) (call : ACall) (ops : Array Oper) (tab : List Nat) : List Nat → List AVal → AH → List KRec → (List AVal → AH → Ans) → Ans
  | [], t, h, ks, K => kChks P gl h (K t h) ks
  | i :: rest, t, h, ks, K =>
    match ops[i]? with
    | none => none
    | some o =>
      match o.guard with
      | none => match kindOf P o.op with
        | .quiet => kQ (qOp P (aEval gl t) o.op h) fun v => kPut t o.dst v fun t' => kDrawGo P gl call ops tab rest t' h (⟨⟨i, o.op, t, v⟩, !heapless o.op, false, hless P o.op⟩ :: ks) K
        | .make => kM (mOp P (aEval gl t) o.op) h fun v h' => kPut t o.dst v fun t' => kDrawGo P gl call ops tab rest t' h' (soil ks) K
        | .eff => kChks P gl h (kE (eOp P call (aEval gl t) o.op h) fun v h' => kPut t o.dst v fun t' => kDrawGo P gl call ops tab rest t' h' (drop1 tab i true (soil ks)) K) ks
      | some (j, want) => match kindOf P o.op with
        | .quiet => kGq (gVal ops t j) want (fun k => kQ (qOp P (aEval gl t) o.op h) k) fun v =>
            kPut t o.dst v fun t' => kDrawGo P gl call ops tab rest t' h (⟨⟨i, o.op, t, v⟩, !heapless o.op && gOn (gVal ops t j) want, false, hless P o.op⟩ :: ks) K
        | .make => kG (gVal ops t j) want h (fun k => kM (mOp P (aEval gl t) o.op) h k) fun v h' => kPut t o.dst v fun t' => kDrawGo P gl call ops tab rest t' h' (soil ks) K
        | .eff => kG (gVal ops t j) want h (fun k => kChks P gl h (kE (eOp P call (aEval gl t) o.op h) k) ks) fun v h' =>
            kPut t o.dst v fun t' => kDrawGo P gl call ops tab rest t' h' (drop1 tab i (gOn (gVal ops t j) want) (soil ks)) K

theorem rsOf_cons (r : QRec) (n d l : Bool) (ks : List KRec) : rsOf (⟨r, n, d, l⟩ :: ks) = if n then r :: rsOf ks else rsOf ks := by
  unfold rsOf
  rw [List.filter_cons]
  cases n <;> simp
theorem KInv.cons {h : AH} {ks : List KRec} (hi : KInv P gl h ks) {i : Nat} {op : Op} {t : List AVal} {v : AVal} {n : Bool} (hq : n = true → aQ P (aEval gl t) op h = some v) : KInv P gl h (⟨⟨i, op, t, v⟩, n, false, hless P op⟩ :: ks) := by
  intro k hk hn
  simp only [List.mem_cons] at hk
  rcases hk with rfl | hk
  · exact ⟨fun hl h' => (hless_eq hl h' h).trans (hq hn), fun _ => hq hn⟩
  · exact hi k hk hn

theorem kDrawGo_sound {ops : Array Oper} {tab : List Nat} {r : AVal × AH} {K : List AVal → AH → Ans} : ∀ (l : List Nat) (t : List AVal) (h : AH) (ks : List KRec), KInv P gl h ks → kDrawGo P gl call ops tab l t h ks K = some r →
    ∃ t' h', aDrawGo P gl call ops tab l t h (rsOf ks) = some (t', h') ∧ K t' h' = some r ∧ Agree (opsDefs ops) t t'
  | [], t, h, ks, hi, hk => by
      simp only [kDrawGo, kPut_eq] at hk
      obtain ⟨h1, h2⟩ := kChks_sound hi hk
      exact ⟨t, h, by simp only [aDrawGo, h2, if_true], h1, Agree.refl _ _⟩
  | i :: rest, t, h, ks, hi, hk => by
      simp only [kDrawGo, kPut_eq] at hk
      split at hk
      · cases hk
      rename_i o ho
      have done : ∀ (v : AVal) (h' : AH) (ks' : List KRec), KInv P gl h' ks' → kDrawGo P gl call ops tab rest (aPut t o.dst v) h' ks' K = some r →
          ∃ t2 h2, aDrawGo P gl call ops tab rest (aPut t o.dst v) h' (rsOf ks') = some (t2, h2) ∧ K t2 h2 = some r ∧ Agree (opsDefs ops) t t2 := by
        intro v h' ks' hi' hk
        obtain ⟨t2, h2, e1, e2, e3⟩ := kDrawGo_sound rest _ h' ks' hi' hk
        exact ⟨t2, h2, e1, e2, (agree_put ho t v).trans e3⟩
      have hskip : aWanted ops t o = some false → ∀ ks', KInv P gl h ks' → rsOf ks' = rsOf ks → kDrawGo P gl call ops tab rest (aPut t o.dst (.tuple [])) h ks' K = some r →
          ∃ t2 h2, aDrawGo P gl call ops tab (i :: rest) t h (rsOf ks) = some (t2, h2) ∧ K t2 h2 = some r ∧ Agree (opsDefs ops) t t2 := by
        intro hw ks' hi' e hk
        simp only [aDrawGo, ho, hw]
        rw [← e]
        exact done _ _ _ hi' hk
      have hquiet : aWanted ops t o = some true → kindOf P o.op = .quiet → ∀ v, qOp P (aEval gl t) o.op h = some v → ∀ n, (n = !heapless o.op) →
          kDrawGo P gl call ops tab rest (aPut t o.dst v) h (⟨⟨i, o.op, t, v⟩, n, false, hless P o.op⟩ :: ks) K = some r →
          ∃ t2 h2, aDrawGo P gl call ops tab (i :: rest) t h (rsOf ks) = some (t2, h2) ∧ K t2 h2 = some r ∧ Agree (opsDefs ops) t t2 := by
        intro hw hkd v hv n hn hk
        simp only [aDrawGo, ho, hw, hkd, qOp_aQ hv]
        obtain ⟨t2, h2, e1, e2, e3⟩ := done _ _ _ (hi.cons fun _ => qOp_aQ hv) hk
        refine ⟨t2, h2, ?_, e2, e3⟩
        rw [rsOf_cons] at e1
        subst hn
        cases hh : heapless o.op <;> simp [hh] at e1 ⊢ <;> exact e1
      have hmake : aWanted ops t o = some true → kindOf P o.op = .make → ∀ p, mOp P (aEval gl t) o.op = some p → kDrawGo P gl call ops tab rest (aPut t o.dst (p.2 h.n)) (h.push p.1) (soil ks) K = some r →
          ∃ t2 h2, aDrawGo P gl call ops tab (i :: rest) t h (rsOf ks) = some (t2, h2) ∧ K t2 h2 = some r ∧ Agree (opsDefs ops) t t2 := by
        intro hw hkd p hp hk
        simp only [aDrawGo, ho, hw, hkd, mOp_aM hp]
        obtain ⟨t2, h2, e1, e2, e3⟩ := done _ _ _ hi.soil hk
        rw [rsOf_soil] at e1
        exact ⟨t2, h2, e1, e2, e3⟩
      have heff : aWanted ops t o = some true → kindOf P o.op = .eff → ∀ v h', eOp P call (aEval gl t) o.op h = some (v, h') → okAt P gl h (rsOf ks) = true →
          kDrawGo P gl call ops tab rest (aPut t o.dst v) h' (drop1 tab i true (soil ks)) K = some r →
          ∃ t2 h2, aDrawGo P gl call ops tab (i :: rest) t h (rsOf ks) = some (t2, h2) ∧ K t2 h2 = some r ∧ Agree (opsDefs ops) t t2 := by
        intro hw hkd v h' hv hok hk
        simp only [aDrawGo, ho, hw, hkd, hok, if_true, eOp_aE hv]
        obtain ⟨t2, h2, e1, e2, e3⟩ := done _ _ _ ((hi.soil (h' := h')).drop1 tab i true) hk
        rw [rsOf_drop1, rsOf_soil] at e1
        exact ⟨t2, h2, e1, e2, e3⟩
      split at hk
      · rename_i hg
        have hw : aWanted ops t o = some true := by unfold aWanted; rw [hg]
        split at hk
        · rename_i hkd
          unfold kQ at hk
          split at hk
          · rename_i v hv
            exact hquiet hw hkd v hv _ rfl hk
          · cases hk
        · rename_i hkd
          unfold kM at hk
          split at hk
          · rename_i p hp
            exact hmake hw hkd p hp hk
          · cases hk
        · rename_i hkd
          obtain ⟨hk, hok⟩ := kChks_sound hi hk
          unfold kE at hk
          split at hk
          · rename_i v h' hv
            exact heff hw hkd v h' hv hok hk
          · cases hk
      · rename_i j want hg
        have hw := aWanted_gVal (ops := ops) (t := t) hg
        split at hk
        · rename_i hkd
          unfold kGq at hk
          split at hk
          · cases hk
          · rename_i b hb
            simp only [hb] at hw
            split at hk
            · rename_i hbw
              rw [hbw] at hw
              unfold kQ at hk
              split at hk
              · rename_i v hv
                exact hquiet hw hkd v hv _ (by simp [hb, gOn, hbw]) hk
              · cases hk
            · rename_i hbw
              simp only [Bool.not_eq_true] at hbw
              rw [hbw] at hw
              refine hskip hw _ (hi.cons fun hn => ?_) ?_ hk
              · simp [hb, gOn, hbw] at hn
              · simp [rsOf_cons, hb, gOn, hbw]
          · rename_i h1 h2
            have hoff : gOn (gVal ops t j) want = false := by
              unfold gOn
              split
              · rename_i b e; exact absurd e (h2 b)
              · rfl
            refine hskip ?_ _ (hi.cons fun hn => ?_) ?_ hk
            · rw [hw]
              split
              · rename_i e; exact absurd e h1
              · rename_i b e; exact absurd e (h2 b)
              · rfl
            · simp [hoff] at hn
            · simp [rsOf_cons, hoff]
        · rename_i hkd
          unfold kG at hk
          split at hk
          · cases hk
          · rename_i b hb
            simp only [hb] at hw
            split at hk
            · rename_i hbw
              rw [hbw] at hw
              unfold kM at hk
              split at hk
              · rename_i p hp
                exact hmake hw hkd p hp hk
              · cases hk
            · rename_i hbw
              simp only [Bool.not_eq_true] at hbw
              rw [hbw] at hw
              exact hskip hw _ hi.soil (rsOf_soil _) hk
          · rename_i h1 h2
            refine hskip ?_ _ hi.soil (rsOf_soil _) hk
            rw [hw]
            split
            · rename_i e; exact absurd e h1
            · rename_i b e; exact absurd e (h2 b)
            · rfl
        · rename_i hkd
          unfold kG at hk
          split at hk
          · cases hk
          · rename_i b hb
            simp only [hb] at hw
            split at hk
            · rename_i hbw
              rw [hbw] at hw
              obtain ⟨hk, hok⟩ := kChks_sound hi hk
              unfold kE at hk
              split at hk
              · rename_i v h' hv
                simp only [gOn, hb, hbw] at hk
                exact heff hw hkd v h' hv hok hk
              · cases hk
            · rename_i hbw
              simp only [Bool.not_eq_true] at hbw
              rw [hbw] at hw
              simp only [gOn, hb, hbw] at hk
              exact hskip hw _ (hi.soil.drop1 tab i false) (by rw [rsOf_drop0, rsOf_soil]) hk
          · rename_i h1 h2
            have hoff : gOn (gVal ops t j) want = false := by
              unfold gOn
              split
              · rename_i b e; exact absurd e (h2 b)
              · rfl
            rw [hoff] at hk
            refine hskip ?_ _ (hi.soil.drop1 tab i false) (by rw [rsOf_drop0, rsOf_soil]) hk
            rw [hw]
            split
            · rename_i e; exact absurd e h1
            · rename_i b e; exact absurd e (h2 b)
            · rfl
end Go.Proofs.Ytfppdfmffdkogaa.AI
namespace Go.Proofs.Ytfppdfmffdkogaa.AI
open Go
set_option linter.unusedSimpArgs false

variable {P : Program} {gl : List Nat} {call : ACall}

/-- Numbers as a mask of bits. -/
def maskOf (l : List Nat) : Nat := l.foldr (fun i m => m ||| (1 <<< i)) 0
theorem maskOf_mem {i : Nat} : ∀ {l : List Nat}, i ∈ l → (maskOf l).testBit i = true
  | j :: l, h => by
      simp only [maskOf, List.foldr_cons, Nat.testBit_or, Bool.or_eq_true]
      rcases List.mem_cons.1 h with rfl | h
      · right; simp [Nat.testBit_shiftLeft]
      · left; exact maskOf_mem h
def AgreeM (M : Nat) (t t' : List AVal) : Prop := t'.length = t.length ∧ ∀ i, M.testBit i = false → t'[i]? = t[i]?
theorem AgreeM.refl (M : Nat) (t : List AVal) : AgreeM M t t := ⟨rfl, fun _ _ => rfl⟩
theorem AgreeM.trans {M : Nat} {a b c : List AVal} (h : AgreeM M a b) (k : AgreeM M b c) : AgreeM M a c := ⟨k.1.trans h.1, fun i hi => (k.2 i hi).trans (h.2 i hi)⟩
theorem AgreeM.left {M N : Nat} {a b : List AVal} (h : AgreeM M a b) : AgreeM (M ||| N) a b := ⟨h.1, fun i hi => h.2 i (by simp [Nat.testBit_or] at hi; exact hi.1)⟩
theorem AgreeM.right {M N : Nat} {a b : List AVal} (h : AgreeM N a b) : AgreeM (M ||| N) a b := ⟨h.1, fun i hi => h.2 i (by simp [Nat.testBit_or] at hi; exact hi.2)⟩
theorem Agree.mask {D : List Nat} {a b : List AVal} (h : Agree D a b) : AgreeM (maskOf D) a b :=
  ⟨h.1, fun i hi => h.2 i fun hm => by rw [maskOf_mem hm] at hi; cases hi⟩

/-- The registers that a statement writes. -/
def codeMask : Code → Nat
  | .region _ ops _ => maskOf (opsDefs ops)
  | .seq a b => codeMask a ||| codeMask b
  | .cond _ a b => codeMask a ||| codeMask b
  | .block _ a => codeMask a
  | .loop a => codeMask a
  | _ => 0
def noDefer : Code → Bool
  | .region _ ops _ => ops.toList.all fun o => match o.op with | .defer _ => false | _ => true
  | .seq a b => noDefer a && noDefer b
  | .cond _ a b => noDefer a && noDefer b
  | .block _ a => noDefer a
  | .loop a => noDefer a
  | _ => true
def exitsTo (id : Nat) : Code → Nat
  | .seq a b => exitsTo id a + exitsTo id b
  | .cond _ a b => exitsTo id a + exitsTo id b
  | .block _ a => exitsTo id a
  | .loop a => exitsTo id a
  | .exit j => match j == id with
    | true => 1
    | false => 0
  | _ => 0
/-- Does it come to its end? -/
def ends : Code → Bool
  | .skip => true
  | .region _ _ _ => true
  | .seq a b => ends a && ends b
  | .cond _ a b => ends a || ends b
  | .block id a => ends a || !(exitsTo id a == 0)
  | _ => false

def bitOff (m : Nat) (d : Option Nat) : Nat := match d with
  | some d => match m.testBit d with
    | true => m ^^^ (1 <<< d)
    | false => m
  | none => m
def lvOps (ops : Array Oper) (L : Nat) : Nat := ops.toList.foldr (fun o m => bitOff m o.dst ||| maskOf (slots ops o)) L
def useOf : Operand → Nat
  | .tmp i => 1 <<< i
  | _ => 0
def lookX (id : Nat) : List (Nat × Nat) → Nat
  | [] => 0
  | (i, m) :: l => match i == id with
    | true => m
    | false => lookX id l
/-- The registers that are looked at later on. (It need not be right: what it leaves out is taken for unknown.) -/
def lv : Code → Nat → List (Nat × Nat) → Nat → Nat
  | .skip, L, _, _ => L
  | .region _ ops _, L, _, _ => lvOps ops L
  | .seq a b, L, X, R => lv a (lv b L X R) X R
  | .cond c a b, L, X, R => useOf c ||| lv a L X R ||| lv b L X R
  | .block id a, L, X, R => lv a L ((id, L) :: X) R
  | .loop a, _, X, R => lv a (lv a (lv a 0 X R) X R) X R
  | .exit id, _, X, _ => lookX id X
  | .ret, _, _, R => R
  | _, _, _, _ => 0

def getMany (t : List AVal) (ms : List Nat) : List AVal := ms.map fun i => t.getD i (.tuple [])
def gd (vs : List AVal) (j : Nat) : AVal := vs.getD j (.tuple [])
def posOf (i : Nat) : List Nat → Nat → Option Nat
  | [], _ => none
  | m :: l, j => match m == i with
    | true => some j
    | false => posOf i l (j + 1)
def mixAt (D : Nat) (ms : List Nat) (vs : List AVal) (i : Nat) (x : AVal) : AVal := match posOf i ms 0 with
  | some j => gd vs j
  | none => match D.testBit i with
    | true => .any
    | false => x
/-- The registers of 'ms' out of 'vs'; others of 'D': unknown. -/
def mix (D : Nat) (ms : List Nat) (vs : List AVal) : Nat → List AVal → List AVal
  | _, [] => []
  | i, x :: l => mixAt D ms vs i x :: mix D ms vs (i + 1) l
def msOf (D L : Nat) (t : List AVal) : List Nat := (List.range t.length).filter fun i => (D &&& L).testBit i

theorem posOf_get {i : Nat} : ∀ {l : List Nat} {k j : Nat}, posOf i l k = some j → k ≤ j ∧ l[j - k]? = some i
  | [], _, _, h => by simp [posOf] at h
  | m :: l, k, j, h => by
      simp only [posOf] at h
      split at h
      · rename_i hm
        simp only [Option.some.injEq] at h
        subst h
        simp at hm
        simp [hm]
      · obtain ⟨h1, h2⟩ := posOf_get h
        refine ⟨by omega, ?_⟩
        rw [show j - k = (j - (k + 1)) + 1 by omega]
        simpa using h2
theorem mix_get (D : Nat) (ms : List Nat) (vs : List AVal) : ∀ (t : List AVal) (k i : Nat), (mix D ms vs k t)[i]? = t[i]?.map (mixAt D ms vs (k + i))
  | [], k, i => by simp [mix]
  | x :: l, k, 0 => by simp [mix]
  | x :: l, k, i + 1 => by simp [mix, mix_get D ms vs l (k + 1) i, Nat.add_assoc, Nat.add_comm 1 i]
theorem mix_length (D : Nat) (ms : List Nat) (vs : List AVal) : ∀ (t : List AVal) (k : Nat), (mix D ms vs k t).length = t.length
  | [], _ => rfl
  | _ :: l, k => by simp [mix, mix_length D ms vs l]
theorem VRs.at {μ : Mu} {a : List AVal} {v : List Value} (h : VRs μ a v) {i : Nat} {x : AVal} {y : Value} (hx : a[i]? = some x) (hy : v[i]? = some y) : VR μ x y := by
  obtain ⟨y', h1, h2⟩ := h.get hx
  rw [hy] at h1
  simp only [Option.some.injEq] at h1
  rw [h1]; exact h2

theorem mix_good {μ : Mu} {D : Nat} {ms : List Nat} {t t' : List AVal} {v : List Value} (h : VRs μ t' v) (ha : AgreeM D t t') : VRs μ (mix D ms (getMany t' ms) 0 t) v := by
  have hl := h.length
  refine VRs.of_get (by rw [mix_length]; rw [← hl, ha.1]) fun i x y hx hy => ?_
  rw [mix_get, Nat.zero_add] at hx
  simp only [Option.map_eq_some_iff] at hx
  obtain ⟨x0, hx0, rfl⟩ := hx
  unfold mixAt
  have hi : i < t.length := (List.getElem?_eq_some_iff.1 hx0).1
  have hi' : i < t'.length := by rw [ha.1]; exact hi
  split
  · rename_i j hj
    obtain ⟨_, h2⟩ := posOf_get hj
    have hm : (getMany t' ms)[j]? = some (t'.getD i (.tuple [])) := by
      unfold getMany
      rw [List.getElem?_map]
      have : ms[j]? = some i := by simpa using h2
      rw [this]; rfl
    have ht' : t'[i]? = some (t'.getD i (.tuple [])) := by simp [hi']
    unfold gd
    rw [List.getD_eq_getElem?_getD, hm]
    exact h.at ht' hy
  · split
    · exact .any y
    · rename_i hD
      exact h.at ((ha.2 i hD).trans hx0) hy
theorem mix_agree (D : Nat) (ms : List Nat) (vs : List AVal) (hms : ∀ i ∈ ms, D.testBit i = true) (t : List AVal) : AgreeM D t (mix D ms vs 0 t) := by
  refine ⟨mix_length _ _ _ _ _, fun i hi => ?_⟩
  rw [mix_get, Nat.zero_add]
  cases hx : t[i]? with
  | none => rfl
  | some x =>
    simp only [Option.map_some, Option.some.injEq]
    unfold mixAt
    split
    · rename_i j hj
      obtain ⟨_, h2⟩ := posOf_get hj
      have := hms i (List.mem_of_getElem? h2)
      rw [hi] at this; cases this
    · rw [hi]
theorem msOf_mem (D L : Nat) (t : List AVal) : ∀ i ∈ msOf D L t, D.testBit i = true := by
  intro i hi
  unfold msOf at hi
  rw [List.mem_filter] at hi
  have := hi.2
  rw [Nat.testBit_and, Bool.and_eq_true] at this
  exact this.1

/-- What is there behind two ways. -/
def kJ (J : List AVal → AH → Ans) (B : (List AVal → AH → Ans) → Ans) : Ans := B J
def kLoop (B : (List AVal → AH → Ans) → List AVal → AH → Ans) : Nat → List AVal → AH → Ans
  | 0, _, _ => none
  | n + 1, vs, h => B (kLoop B n) vs h

abbrev KN := List AVal → List ADef → AH → Ans
def kCode (P : Program) (gl : List Nat) (call : ACall) : Code → Nat → List (Nat × Nat) → Nat → List AVal → List ADef → AH → KN → (Nat → KN) → KN → Ans
  | .skip, _, _, _, t, d, h, kn, _, _ => kn t d h
  | .region _ ops false, _, _, _, t, d, h, kn, _, _ => kRun P gl call ops (List.range ops.size) t d h kn
  | .region _ ops true, _, _, _, t, d, h, kn, _, _ => kDrawGo P gl call ops (ancTab ops) (asap P ops) t h [] fun t' h' => kn t' d h'
  | .seq a b, L, X, R, t, d, h, kn, kx, kr => kCode P gl call a (lv b L X R) X R t d h (fun t d h => kCode P gl call b L X R t d h kn kx kr) kx kr
  | .cond c a b, L, X, R, t, d, h, kn, kx, kr =>
    match ends a && ends b && noDefer a && noDefer b with
    | true => kJ (fun vs h => kn (mix (codeMask a ||| codeMask b) (msOf (codeMask a ||| codeMask b) L t) vs 0 t) d h) fun j =>
        kIf (aEval gl t c) (kCode P gl call a L X R t d h (fun t' _ h' => j (getMany t' (msOf (codeMask a ||| codeMask b) L t)) h') kx kr)
          (kCode P gl call b L X R t d h (fun t' _ h' => j (getMany t' (msOf (codeMask a ||| codeMask b) L t)) h') kx kr)
    | false => kIf (aEval gl t c) (kCode P gl call a L X R t d h kn kx kr) (kCode P gl call b L X R t d h kn kx kr)
  | .block id a, L, X, R, t, d, h, kn, kx, kr =>
    match (match ends a with | true => !(exitsTo id a == 0) | false => !(exitsTo id a == 0) && !(exitsTo id a == 1)) && noDefer a with
    | true => kJ (fun vs h => kn (mix (codeMask a) (msOf (codeMask a) L t) vs 0 t) d h) fun j =>
        kCode P gl call a L ((id, L) :: X) R t d h (fun t' _ h' => j (getMany t' (msOf (codeMask a) L t)) h')
          (fun i t' d' h' => match i == id with | true => j (getMany t' (msOf (codeMask a) L t)) h' | false => kx i t' d' h') kr
    | false => kCode P gl call a L ((id, L) :: X) R t d h kn (fun i t' d' h' => match i == id with | true => kn t' d' h' | false => kx i t' d' h') kr
  | .loop a, _, X, R, t, d, h, _, kx, kr =>
    match noDefer a with
    | true => kLoop (fun next vs h => kCode P gl call a (lv (.loop a) 0 X R) X R (mix (codeMask a) (msOf (codeMask a) (lv (.loop a) 0 X R) t) vs 0 t) d h
          (fun t' _ h' => next (getMany t' (msOf (codeMask a) (lv (.loop a) 0 X R) t)) h') kx kr) rounds (getMany t (msOf (codeMask a) (lv (.loop a) 0 X R) t)) h
    | false => none
  | .exit id, _, _, _, t, d, h, _, kx, _ => kx id t d h
  | .ret, _, _, _, t, d, h, _, _, kr => kr t d h
  | _, _, _, _, _, _, _, _, _, _ => none
end Go.Proofs.Ytfppdfmffdkogaa.AI
namespace Go.Proofs.Ytfppdfmffdkogaa.AI
open Go
set_option linter.unusedSimpArgs false

variable {P : Program} {gl : List Nat} {call : ACall}

theorem aDefer_not {op : Op} (h : (match op with | .defer _ => false | _ => true) = true) : ∀ c, op ≠ .defer c := by
  rintro c rfl; simp at h

theorem kRun_nodefer {ops : Array Oper} (hn : ∀ (i : Nat) o, ops[i]? = some o → ∀ c, o.op ≠ .defer c) : ∀ (l : List Nat) (s s' : St), aRun P gl call ops l s = some s' → s'.d = s.d
  | [], s, s', h => by simp only [aRun, Option.some.injEq] at h; rw [← h]
  | i :: rest, s, s', h => by
      simp only [aRun] at h
      split at h
      · cases h
      rename_i o ho
      split at h
      · cases h
      · have := kRun_nodefer hn rest _ _ h; exact this
      · split at h
        · rename_i c e; exact absurd e (hn i o ho c)
        · split at h
          · have := kRun_nodefer hn rest _ _ h; exact this
          · cases h

theorem kCode_wp (hcall : CallSound P gl call) (hmix : P.follows .mixedOrders = true) {r : AVal × AH} {μ0 : Mu} {h0 : AH} {w0 : World} :
    ∀ (c : Code), regsOk (drawOk P) c = true → ∀ (Q : Exit → Act → World → Prop) (L : Nat) (X : List (Nat × Nat)) (R : Nat) (t : List AVal) (d : List ADef) (h : AH) (kn : KN) (kx : Nat → KN) (kr : KN), kCode P gl call c L X R t d h kn kx kr = some r →
      ∀ (μ : Mu) (a : Act) (w : World), SR gl μ ⟨t, d, h⟩ a w → Ext μ0 h0 w0 μ h w →
      (∀ t' d' h' μ' a' w', kn t' d' h' = some r → SR gl μ' ⟨t', d', h'⟩ a' w' → Ext μ0 h0 w0 μ' h' w' → AgreeM (codeMask c) t t' → (noDefer c = true → d' = d) → Q .normal a' w') →
      (∀ i t' d' h' μ' a' w', kx i t' d' h' = some r → SR gl μ' ⟨t', d', h'⟩ a' w' → Ext μ0 h0 w0 μ' h' w' → AgreeM (codeMask c) t t' → (noDefer c = true → d' = d) → Q (.exit i) a' w') →
      (∀ t' d' h' μ' a' w', kr t' d' h' = some r → SR gl μ' ⟨t', d', h'⟩ a' w' → Ext μ0 h0 w0 μ' h' w' → Q .ret a' w') → c.wp P Q a w := by
  intro c
  induction c with
  | skip =>
    intro _ Q L X R t d h kn kx kr hk μ a w hs he hn hx hr
    simp only [kCode] at hk
    exact wp_skip (hn t d h μ a w hk hs he (AgreeM.refl _ _) (fun _ => rfl))
  | region id ops dr =>
    intro hok Q L X R t d h kn kx kr hk μ a w hs he hn hx hr
    cases dr with
    | false =>
      simp only [kCode] at hk
      obtain ⟨s', h1, h2, h3⟩ := kRun_sound _ _ _ _ _ hk
      refine wp_region (aRun_wp hcall _ μ _ s' a w hs h1 fun a' w' μ' hs' he' => ?_)
      refine hn s'.t s'.d s'.h μ' a' w' h2 hs' (he.trans he') h3.mask fun hnd => ?_
      refine kRun_nodefer (fun i o ho => ?_) _ ⟨t, d, h⟩ s' h1
      simp only [noDefer, List.all_eq_true] at hnd
      exact aDefer_not (hnd o (by have := Array.mem_of_getElem? ho; simpa using this))
    | true =>
      simp only [kCode] at hk
      obtain ⟨t', h', h1, h2, h3⟩ := kDrawGo_sound _ _ _ [] (fun k hk => by cases hk) hk
      have hd := aDraw_sound (gl := gl) hcall hmix ops ⟨t, d, h⟩ ⟨t', d, h'⟩ (by simpa [regsOk] using hok) (by
        unfold aDraw
        have : rsOf [] = [] := rfl
        rw [this] at h1
        rw [h1]; rfl) μ id a w hs
      refine wp_mono hd ?_
      rintro e a' w' ⟨hxx, μ', hs', he'⟩
      cases e <;> simp only [ExitR] at hxx
      exact hn t' d h' μ' a' w' h2 hs' (he.trans he') h3.mask fun _ => rfl
  | seq c1 c2 ih1 ih2 =>
    intro hok Q L X R t d h kn kx kr hk μ a w hs he hn hx hr
    simp only [regsOk, Bool.and_eq_true] at hok
    simp only [kCode] at hk
    refine wp_seq (ih1 hok.1 _ _ X R t d h _ kx kr hk μ a w hs he ?_ ?_ ?_)
    · intro t' d' h' μ' a' w' hk' hs' he' hag hd
      refine ih2 hok.2 Q L X R t' d' h' kn kx kr hk' μ' a' w' hs' he' ?_ ?_ ?_
      · intro t2 d2 h2 μ2 a2 w2 hk2 hs2 he2 hag2 hd2
        refine hn t2 d2 h2 μ2 a2 w2 hk2 hs2 he2 (hag.left.trans hag2.right) fun hnd => ?_
        simp only [noDefer, Bool.and_eq_true] at hnd
        rw [hd2 hnd.2, hd hnd.1]
      · intro i t2 d2 h2 μ2 a2 w2 hk2 hs2 he2 hag2 hd2
        refine hx i t2 d2 h2 μ2 a2 w2 hk2 hs2 he2 (hag.left.trans hag2.right) fun hnd => ?_
        simp only [noDefer, Bool.and_eq_true] at hnd
        rw [hd2 hnd.2, hd hnd.1]
      · exact hr
    · intro i t' d' h' μ' a' w' hk' hs' he' hag hd
      refine hx i t' d' h' μ' a' w' hk' hs' he' hag.left fun hnd => ?_
      simp only [noDefer, Bool.and_eq_true] at hnd
      exact hd hnd.1
    · exact hr
  | cond c a1 b1 ih1 ih2 =>
    intro hok Q L X R t d h kn kx kr hk μ a w hs he hn hx hr
    simp only [regsOk, Bool.and_eq_true] at hok
    simp only [kCode] at hk
    have hv := aEval_good hs.g hs.t c
    have hx1 : ∀ i t' d' h' μ' a' w', kx i t' d' h' = some r → SR gl μ' ⟨t', d', h'⟩ a' w' → Ext μ0 h0 w0 μ' h' w' → AgreeM (codeMask a1) t t' → (noDefer a1 = true → d' = d) → Q (.exit i) a' w' :=
      fun i t' d' h' μ' a' w' k1 k2 k3 k4 k5 => hx i t' d' h' μ' a' w' k1 k2 k3 k4.left fun hnd => by simp only [noDefer, Bool.and_eq_true] at hnd; exact k5 hnd.1
    have hx2 : ∀ i t' d' h' μ' a' w', kx i t' d' h' = some r → SR gl μ' ⟨t', d', h'⟩ a' w' → Ext μ0 h0 w0 μ' h' w' → AgreeM (codeMask b1) t t' → (noDefer b1 = true → d' = d) → Q (.exit i) a' w' :=
      fun i t' d' h' μ' a' w' k1 k2 k3 k4 k5 => hx i t' d' h' μ' a' w' k1 k2 k3 k4.right fun hnd => by simp only [noDefer, Bool.and_eq_true] at hnd; exact k5 hnd.2
    split at hk
    · rename_i hj
      simp only [Bool.and_eq_true] at hj
      unfold kJ kIf at hk
      have go : ∀ t' d' h' μ' a' w', kn (mix (codeMask a1 ||| codeMask b1) (msOf (codeMask a1 ||| codeMask b1) L t) (getMany t' (msOf (codeMask a1 ||| codeMask b1) L t)) 0 t) d h' = some r → SR gl μ' ⟨t', d', h'⟩ a' w' → Ext μ0 h0 w0 μ' h' w' →
          AgreeM (codeMask a1 ||| codeMask b1) t t' → d' = d → Q .normal a' w' := by
        intro t' d' h' μ' a' w' k1 k2 k3 k4 k5
        subst k5
        exact hn _ _ _ μ' a' w' k1 ⟨mix_good k2.t k4, k2.d, k2.r, k2.g⟩ k3 (mix_agree _ _ _ (msOf_mem _ _ _) _) fun _ => rfl
      split at hk
      · rename_i ht
        rw [ht] at hv
        exact wp_cond_true hv.bool_inv (ih1 hok.1 Q L X R t d h _ kx kr hk μ a w hs he (fun t' d' h' μ' a' w' k1 k2 k3 k4 k5 => go t' d' h' μ' a' w' k1 k2 k3 k4.left (k5 hj.1.2)) hx1 hr)
      · rename_i ht
        rw [ht] at hv
        exact wp_cond_false hv.bool_inv (ih2 hok.2 Q L X R t d h _ kx kr hk μ a w hs he (fun t' d' h' μ' a' w' k1 k2 k3 k4 k5 => go t' d' h' μ' a' w' k1 k2 k3 k4.right (k5 hj.2)) hx2 hr)
      · cases hk
    · unfold kIf at hk
      split at hk
      · rename_i ht
        rw [ht] at hv
        exact wp_cond_true hv.bool_inv (ih1 hok.1 Q L X R t d h _ kx kr hk μ a w hs he (fun t' d' h' μ' a' w' k1 k2 k3 k4 k5 => hn t' d' h' μ' a' w' k1 k2 k3 k4.left fun hnd => by
          simp only [noDefer, Bool.and_eq_true] at hnd; exact k5 hnd.1) hx1 hr)
      · rename_i ht
        rw [ht] at hv
        exact wp_cond_false hv.bool_inv (ih2 hok.2 Q L X R t d h _ kx kr hk μ a w hs he (fun t' d' h' μ' a' w' k1 k2 k3 k4 k5 => hn t' d' h' μ' a' w' k1 k2 k3 k4.right fun hnd => by
          simp only [noDefer, Bool.and_eq_true] at hnd; exact k5 hnd.2) hx2 hr)
      · cases hk
  | block id c ih =>
    intro hok Q L X R t d h kn kx kr hk μ a w hs he hn hx hr
    have ih := ih (by simpa [regsOk] using hok)
    simp only [kCode] at hk
    refine wp_block ?_
    split at hk
    · rename_i hj
      simp only [Bool.and_eq_true] at hj
      unfold kJ at hk
      have go : ∀ t' d' h' μ' a' w', kn (mix (codeMask c) (msOf (codeMask c) L t) (getMany t' (msOf (codeMask c) L t)) 0 t) d h' = some r → SR gl μ' ⟨t', d', h'⟩ a' w' → Ext μ0 h0 w0 μ' h' w' →
          AgreeM (codeMask c) t t' → d' = d → Q .normal a' w' := by
        intro t' d' h' μ' a' w' k1 k2 k3 k4 k5
        subst k5
        exact hn _ _ _ μ' a' w' k1 ⟨mix_good k2.t k4, k2.d, k2.r, k2.g⟩ k3 (mix_agree _ _ _ (msOf_mem _ _ _) _) fun _ => rfl
      refine ih _ L _ R t d h _ _ kr hk μ a w hs he ?_ ?_ ?_
      · intro t' d' h' μ' a' w' k1 k2 k3 k4 k5
        exact go t' d' h' μ' a' w' k1 k2 k3 k4 (k5 hj.2)
      · intro i t' d' h' μ' a' w' k1 k2 k3 k4 k5
        simp only [Exit.inBlock]
        split at k1
        · rename_i hi
          rw [if_pos (by simpa using hi)]
          exact go t' d' h' μ' a' w' k1 k2 k3 k4 (k5 hj.2)
        · rename_i hi
          rw [if_neg (by simpa using hi)]
          exact hx i t' d' h' μ' a' w' k1 k2 k3 k4 k5
      · exact hr
    · refine ih _ L _ R t d h _ _ kr hk μ a w hs he ?_ ?_ ?_
      · intro t' d' h' μ' a' w' k1 k2 k3 k4 k5
        exact hn t' d' h' μ' a' w' k1 k2 k3 k4 k5
      · intro i t' d' h' μ' a' w' k1 k2 k3 k4 k5
        simp only [Exit.inBlock]
        split at k1
        · rename_i hi
          rw [if_pos (by simpa using hi)]
          exact hn t' d' h' μ' a' w' k1 k2 k3 k4 k5
        · rename_i hi
          rw [if_neg (by simpa using hi)]
          exact hx i t' d' h' μ' a' w' k1 k2 k3 k4 k5
      · exact hr
  | loop c ih =>
    intro hok Q L X R t d h kn kx kr hk μ a w hs he hn hx hr
    have ih := ih (by simpa [regsOk] using hok)
    simp only [kCode] at hk
    split at hk
    · rename_i hnd
      generalize hLh : lv (.loop c) 0 X R = Lh at hk
      have key : ∀ (n : Nat) (vs : List AVal) (h : AH) (μ : Mu) (a : Act) (w : World),
          kLoop (fun next vs h => kCode P gl call c Lh X R (mix (codeMask c) (msOf (codeMask c) Lh t) vs 0 t) d h (fun t' _ h' => next (getMany t' (msOf (codeMask c) Lh t)) h') kx kr) n vs h = some r →
          SR gl μ ⟨mix (codeMask c) (msOf (codeMask c) Lh t) vs 0 t, d, h⟩ a w → Ext μ0 h0 w0 μ h w → Code.rounds P c Q n a w := by
        intro n
        induction n with
        | zero => intro vs h μ a w hk; simp [kLoop] at hk
        | succ n ihn =>
          intro vs h μ a w hk hs he
          rw [rounds_succ]
          simp only [kLoop] at hk
          refine ih _ Lh X R _ d h _ kx kr hk μ a w hs he ?_ ?_ ?_
          · intro t' d' h' μ' a' w' k1 k2 k3 k4 k5
            have hd := k5 hnd
            subst hd
            exact ihn _ h' μ' a' w' k1 ⟨mix_good k2.t ((mix_agree _ _ _ (msOf_mem _ _ _) _).trans k4), k2.d, k2.r, k2.g⟩ k3
          · intro i t' d' h' μ' a' w' k1 k2 k3 k4 k5
            exact hx i t' d' h' μ' a' w' k1 k2 k3 ((mix_agree _ _ _ (msOf_mem _ _ _) _).trans k4) k5
          · exact hr
      exact wp_loop_rounds _ (key _ _ h μ a w hk ⟨mix_good hs.t (AgreeM.refl _ _), hs.d, hs.r, hs.g⟩ he)
    · cases hk
  | exit id =>
    intro _ Q L X R t d h kn kx kr hk μ a w hs he hn hx hr
    simp only [kCode] at hk
    exact wp_exit (hx id t d h μ a w hk hs he (AgreeM.refl _ _) (fun _ => rfl))
  | ret =>
    intro _ Q L X R t d h kn kx kr hk μ a w hs he hn hx hr
    simp only [kCode] at hk
    exact wp_ret (hr t d h μ a w hk hs he)
  | _ => intro _ Q L X R t d h kn kx kr hk; simp [kCode] at hk
end Go.Proofs.Ytfppdfmffdkogaa.AI
namespace Go.Proofs.Ytfppdfmffdkogaa.AI
open Go Go.RowKit
set_option linter.unusedSimpArgs false

variable {P : Program} {gl : List Nat} {call : ACall}

def kLeave (call : ACall) : List ADef → AH → (AH → Ans) → Ans
  | [], h, K => K h
  | (g, args) :: ds, h, K => kE (call g args h) fun _ h' => kLeave call ds h' K
def kLoadT (P : Program) (ty : TypeId) (a : AVal) (h : AH) : Option AVal := match aggT P ty, szT P ty with
  | some true, some n => rLoadA n a h
  | some false, some _ => rLoad a h
  | _, _ => none
def kRes (P : Program) (t : List AVal) (h : AH) : List ResultVar → (List AVal → Ans) → Ans
  | [], K => K []
  | .tmp i :: l, K => kRes P t h l fun vs => K (t.getD i (.tuple []) :: vs)
  | .cell i ty :: l, K => kQ (kLoadT P ty (t.getD i (.tuple [])) h) fun v => kRes P t h l fun vs => K (v :: vs)
def kFin (P : Program) (callD : ACall) (fn : Func) : KN := fun t d h => kLeave callD d h fun h' => kRes P t h' fn.results.toList fun vs => some (oneOf vs, h')
def resMask : List ResultVar → Nat
  | [] => 0
  | .tmp i :: l => (1 <<< i) ||| resMask l
  | .cell i _ :: l => (1 <<< i) ||| resMask l
def kFunc (P : Program) (gl : List Nat) (call callD : ACall) (f : FuncId) (args : List AVal) (h : AH) : Ans :=
  match P.funcs[f]? with
  | none => none
  | some fn => match fn.body with
    | none => none
    | some c => kCode P gl call c (resMask fn.results.toList) [] (resMask fn.results.toList) (args ++ List.replicate (fn.ntmps - args.length) (.tuple [])) [] h (kFin P callD fn) (fun _ _ _ _ => none) (kFin P callD fn)
def kFuncD (P : Program) (gl : List Nat) (call : ACall) (f : FuncId) (args : List AVal) (h : AH) : Ans := kFunc P gl call (fun _ _ _ => none) f args h

theorem kLoadT_aLoad {ty : TypeId} {a v : AVal} {h : AH} (hq : kLoadT P ty a h = some v) : aLoad P ty a h = some v := by
  unfold kLoadT at hq
  unfold aLoad partT
  split at hq
  · rename_i n h1 h2; simp only [h1, h2]; exact hq
  · rename_i n h1 h2; simp only [h1, h2]; exact hq
  · cases hq
theorem kRes_sound {t : List AVal} {h : AH} {r : AVal × AH} : ∀ {l : List ResultVar} {K : List AVal → Ans}, kRes P t h l K = some r → ∃ vs, aRes P t h l = some vs ∧ K vs = some r
  | [], K, hk => ⟨[], rfl, hk⟩
  | .tmp i :: l, K, hk => by
      simp only [kRes] at hk
      obtain ⟨vs, h1, h2⟩ := kRes_sound hk
      exact ⟨_, by simp [aRes, h1], h2⟩
  | .cell i ty :: l, K, hk => by
      simp only [kRes] at hk
      unfold kQ at hk
      split at hk
      · rename_i v hv
        obtain ⟨vs, h1, h2⟩ := kRes_sound hk
        exact ⟨_, by simp only [aRes, kLoadT_aLoad hv, h1, Option.bind_some, Option.map_some], h2⟩
      · cases hk
theorem kLeave_sound {callD : ACall} {r : AVal × AH} : ∀ {ds : List ADef} {h : AH} {K : AH → Ans}, kLeave callD ds h K = some r → ∃ h', aLeave callD ds h = some h' ∧ K h' = some r
  | [], h, K, hk => ⟨h, rfl, hk⟩
  | (g, args) :: ds, h, K, hk => by
      simp only [kLeave] at hk
      unfold kE at hk
      split at hk
      · rename_i v h1 hc
        obtain ⟨h2, e1, e2⟩ := kLeave_sound hk
        exact ⟨h2, by simp only [aLeave, hc]; exact e1, e2⟩
      · cases hk
theorem kFin_sound {callD : ACall} {fn : Func} {t : List AVal} {d : List ADef} {h : AH} {r : AVal × AH} (hk : kFin P callD fn t d h = some r) :
    ((aLeave callD d h).bind fun h' => (aResults P fn t h').map fun v => (v, h')) = some r := by
  unfold kFin at hk
  obtain ⟨h', h1, h2⟩ := kLeave_sound hk
  obtain ⟨vs, h3, h4⟩ := kRes_sound h2
  simp only [h1, Option.bind_some, aResults, h3, Option.map_some]
  exact h4

theorem kFunc_calls (hcall : CallSound P gl call) {callD : ACall} (hcd : CallDSound P gl callD) (hP : ProgOk P) : CallSound P gl (kFunc P gl call callD) := by
  intro f args h r h' hb
  unfold kFunc at hb
  split at hb
  · cases hb
  rename_i fn hf
  split at hb
  · cases hb
  rename_i c hc
  refine .inl ⟨⟨fn, hf, by rw [hc]; rfl, hP.names f fn hf⟩, ?_⟩
  intro μ w cargs hr hg ha
  have sr : SR gl μ ⟨args ++ List.replicate (fn.ntmps - args.length) (.tuple []), [], h⟩ { tmps := cargs ++ Array.replicate (fn.ntmps - cargs.size) undef, defers := [] } w := ⟨start_tmps ha, .nil, hr, hg⟩
  refine calls_of_wp_defers hf hc ?_
  have fin : ∀ (t : List AVal) (d : List ADef) (h2 : AH) (μ' : Mu) (a' : Act) (w' : World), kFin P callD fn t d h2 = some (r, h') → SR gl μ' ⟨t, d, h2⟩ a' w' → Ext μ h w μ' h2 w' →
      Leaves P fn a'.tmps (CallPost μ h w r h') a'.defers .returning w' := by
    intro t d h2 μ' a' w' hk hs he
    have hl := kFin_sound hk
    simp only [Option.bind_eq_some_iff, Option.map_eq_some_iff, Prod.mk.injEq] at hl
    obtain ⟨h3, hl, v, hv, rfl, rfl⟩ := hl
    refine aLeave_good hcd d a'.defers μ' h2 h3 w' hs.d hs.r hs.g hl fun μ2 w2 r2 g2 l2 e2 => ?_
    obtain ⟨v', hrun, hvr⟩ := aResults_good (P := P) r2 (hs.t.mono l2) hv
    exact ⟨v', hrun, μ2, v', rfl, hvr, r2, he.trans e2⟩
  exact kCode_wp hcall hP.mix c (hP.regs f fn c hf hc) _ _ _ _ _ _ _ _ _ _ hb μ _ w sr (Ext.refl _ _ _)
    (fun t' d' h' μ' a' w' k1 k2 k3 _ _ => fin t' d' h' μ' a' w' k1 k2 k3) (fun i t' d' h' μ' a' w' k1 => by cases k1) (fun t' d' h' μ' a' w' k1 k2 k3 => fin t' d' h' μ' a' w' k1 k2 k3)

theorem kFuncD_calls (hcall : CallSound P gl call) (hP : ProgOk P) : CallDSound P gl (kFuncD P gl call) := by
  intro f args h r h' hb
  unfold kFuncD kFunc at hb
  split at hb
  · cases hb
  rename_i fn hf
  split at hb
  · cases hb
  rename_i c hc
  refine ⟨⟨fn, hf, by rw [hc]; rfl, hP.names f fn hf⟩, ?_⟩
  intro μ w cargs u hr hg ha
  have sr : SR gl μ ⟨args ++ List.replicate (fn.ntmps - args.length) (.tuple []), [], h⟩ { tmps := cargs ++ Array.replicate (fn.ntmps - cargs.size) undef, defers := [] } w := ⟨start_tmps ha, .nil, hr, hg⟩
  refine callsD_of_wp hf hc ?_
  have fin : ∀ (t : List AVal) (d : List ADef) (h2 : AH) (μ' : Mu) (a' : Act) (w' : World), kFin P (fun _ _ _ => none) fn t d h2 = some (r, h') → SR gl μ' ⟨t, d, h2⟩ a' w' → Ext μ h w μ' h2 w' →
      a'.defers = [] ∧ ∃ v, (results fn a'.tmps).run P w' = .ok v w' ∧ CallPost μ h w r h' (.returned v) w' := by
    intro t d h2 μ' a' w' hk hs he
    have hl := kFin_sound hk
    simp only [Option.bind_eq_some_iff, Option.map_eq_some_iff, Prod.mk.injEq] at hl
    obtain ⟨h3, hl, v, hv, rfl, rfl⟩ := hl
    have hd := hs.d
    cases d with
    | cons d ds => simp [aLeave] at hl
    | nil =>
      simp only [aLeave, Option.some.injEq] at hl
      subst hl
      generalize hde : a'.defers = ds at hd
      cases hd
      obtain ⟨v', hrun, hvr⟩ := aResults_good (P := P) hs.r hs.t hv
      exact ⟨rfl, v', hrun, μ', v', rfl, hvr, hs.r, he⟩
  exact kCode_wp hcall hP.mix c (hP.regs f fn c hf hc) _ _ _ _ _ _ _ _ _ _ hb μ _ w sr (Ext.refl _ _ _)
    (fun t' d' h' μ' a' w' k1 k2 k3 _ _ => fin t' d' h' μ' a' w' k1 k2 k3) (fun i t' d' h' μ' a' w' k1 => by cases k1) (fun t' d' h' μ' a' w' k1 k2 k3 => fin t' d' h' μ' a' w' k1 k2 k3)

/-- Calls to a depth. -/
def kcall (P : Program) (gl : List Nat) (ov : AOver) : Nat → ACall
  | 0, _, _, _ => none
  | n + 1, f, args, h =>
    match ov f with
    | some g => g args h
    | none => kFunc P gl (kcall P gl ov n) (kFuncD P gl (kcall P gl ov n)) f args h
/-- What stands in for a function's text says what holds. -/
def OvSound (P : Program) (gl : List Nat) (ov : AOver) : Prop := ∀ f g, ov f = some g → CallSound P gl (fun f' args h => if f' = f then g args h else none)
theorem kcall_sound (hP : ProgOk P) {ov : AOver} (hov : OvSound P gl ov) : ∀ n, CallSound P gl (kcall P gl ov n)
  | 0 => fun f args h r h' hc => by simp [kcall] at hc
  | n + 1 => fun f args h r h' hc => by
      have ih := kcall_sound hP hov n
      simp only [kcall] at hc
      split at hc
      · rename_i g hg
        exact hov f g hg f args h r h' (by simpa using hc)
      · exact kFunc_calls ih (kFuncD_calls ih hP) hP f args h r h' hc

/-- What a law's text comes to: true, and nothing that was there has turned. -/
theorem law_kcalls (hP : ProgOk P) {F : Nat} (hen : entersB P F = true) {ov : AOver} (hov : OvSound P [] ov) {H : Type}
    {enc : TypeId × Value → H} {W : World} {n : Nat} {base : Nat} {ts : List TypeId} {args : Array Value} {ds : List (DataW H)} {p : List MemPlace}
    (hok : ∀ (j : Nat) (t : TypeId) (v : Value), ts[j]? = some t → args.toList[j]? = some v → Value.okWide P W .any base t v)
    (hA : DataW.TrodAll enc P W 0 (fun _ => true) true ts args.toList ds p)
    {as : List AVal} {h0 h' : AH} (ha : absA P ts ds AH.empty = some (as, h0)) (hc : kcall P [] ov n F as h0 = some (.bool true, h')) :
    Calls P F args W fun e W' => e = .returned (.bool true) ∧ Below W.heap.size W W' := by
  obtain ⟨μ, v, s, _⟩ := absA_good ts args.toList ds p _ _ _ _ base hok hA ha (es_empty W)
  have hs := (kcall_sound hP hov n).enter (enters_of hen) hc
  refine (hs μ W args s.r (fun g hg => by cases hg) v).mono fun e W' ⟨μ', v', he, hv, _, hx⟩ => ?_
  cases hv
  refine ⟨he, hx.os, hx.tape, hx.output, hx.size, fun k hk => hx.keep k hk ?_⟩
  rintro ⟨i, m, b, h1, h2, h3, h4⟩
  rw [s.ro i b h3] at h4
  cases h4

/-- A function without arguments that answers with a bool, asked where nothing is known: so it answers anywhere, and may stand as said. -/
theorem closed_sound {call : ACall} (hcall : CallSound P [] call) {f : FuncId} (hen : entersB P f = true) {b : Bool} {h1 : AH} (hc : call f [] AH.empty = some (.bool b, h1)) :
    CallSound P [] (fun f' args h => if f' = f then (match args with | [] => some (.bool b, h) | _ => none) else none) := by
  intro f' args h r h' hq
  simp only at hq
  split at hq
  · rename_i e
    subst e
    split at hq
    · simp only [Option.some.injEq, Prod.mk.injEq] at hq
      obtain ⟨rfl, rfl⟩ := hq
      have hs := hcall.enter (enters_of hen) hc
      refine .inl ⟨enters_of hen, fun μ w cargs hr hg ha => ?_⟩
      refine (hs (fun _ => none) w cargs (es_empty w).r (fun g hg => by cases hg) ?_).mono ?_
      · cases hca : cargs.toList with
        | nil => exact .nil
        | cons x l => rw [hca] at ha; cases ha
      rintro e w' ⟨μ', v', he, hv, hr', hx⟩
      cases hv
      have hkeep : ∀ cb, cb < w.heap.size → w'.heap[cb]? = w.heap[cb]? := fun cb hcb => hx.keep cb hcb (by
        rintro ⟨i, m, b, h1, _⟩
        cases h1)
      refine ⟨μ, .bool b, he, .bool b, ⟨hr.dom, fun i m hm => Nat.lt_of_lt_of_le (hr.hi i m hm) hx.size, hr.has, fun i m bb hm hb hd => ?_, hr.excl, hr.par⟩,
        ⟨Nat.le_refl _, fun _ _ => rfl, fun _ _ _ => rfl, hx.os, hx.tape, hx.output, hx.size, fun cb hcb _ => hkeep cb hcb, fun _ _ h => h⟩⟩
      exact (hr.lies i m bb hm hb hd).mono (Mu.le_refl _) (hkeep _ (hr.hi i m hm))
    · cases hq
  · cases hq
end Go.Proofs.Ytfppdfmffdkogaa.AI
