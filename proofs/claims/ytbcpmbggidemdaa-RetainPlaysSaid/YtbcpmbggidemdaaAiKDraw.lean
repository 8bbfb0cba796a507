/- The machine once more, what comes next handed on: regions that draw. -/
import Derived.Test.YtbcpmbggidemdaaAiKRun
namespace Go.Proofs.Ytbcpmbggidemdaa.AI
open Go
set_option linter.unusedSimpArgs false

variable {P : Program} {gl : List Nat} {call : ACall}

/-- Does it not look at the heap, at these types? -/
def hless (P : Program) (op : Op) : Bool := heapless op || match op with
  | .call { callee := .builtin .len, argTypes, .. } => match argTypes.toList with
    | t :: _ => match P.underlying t with
      | some (.map _ _) => false
      | _ => true
    | _ => false
  | .slice t _ _ _ _ => match P.underlying t with
    | some (.slice _) | some .string => true
    | _ => false
  | .convert s d _ => match P.underlying s, P.underlying d with
    | some _, some (.int _) => true
    | _, _ => false
  | _ => false

theorem heapless_eq {ρ : AEnv} {op : Op} (hl : heapless op = true) (h h' : AH) : aQ P ρ op h = aQ P ρ op h' := by
  unfold heapless at hl
  split at hl <;> first | rfl | (cases hl; done) | skip
  all_goals (unfold aQ; simp only; split <;> first | rfl | simp_all)

theorem hless_eq {ρ : AEnv} {op : Op} (hl : hless P op = true) (h h' : AH) : aQ P ρ op h = aQ P ρ op h' := by
  unfold hless at hl
  rw [Bool.or_eq_true] at hl
  rcases hl with hl | hl
  · exact heapless_eq hl h h'
  · split at hl
    · rename_i args argTypes
      split at hl
      · rename_i t r ht
        unfold aQ
        simp only
        split <;> try rfl
        · unfold aLen
          simp only [ht]
          split at hl
          · cases hl
          · rename_i hne
            split <;> first | rfl | (rename_i hm _; exact absurd hm (hne _ _))
        · rename_i hb _; cases hb
      · cases hl
    · unfold aQ aSlice
      simp only
      split at hl
      · rename_i x _ _ _ _ _ hu; simp only [hu]; cases ρ x <;> rfl
      · rename_i x _ _ _ _ hu; simp only [hu]; cases ρ x <;> rfl
      · cases hl
    · rename_i s d x
      split at hl
      · rename_i dd k hs hd
        unfold aQ aConvert
        simp only [hs, hd]
        cases ρ x <;> rfl
      · cases hl
    · cases hl

structure KRec where
  r : QRec
  need : Bool
  dirty : Bool
  hl : Bool
def rsOf (ks : List KRec) : List QRec := (ks.filter (·.need)).map (·.r)
def rchk (P : Program) (gl : List Nat) (h : AH) (r : QRec) : Bool := kSame (qOp P (aEval gl r.t) r.op h) r.v
def kChks (P : Program) (gl : List Nat) (h : AH) (A : Ans) : List KRec → Ans
  | [] => A
  | k :: l => match k.dirty && !k.hl with
    | true => kChk (!k.need || rchk P gl h k.r) (kChks P gl h A l)
    | false => kChks P gl h A l
def soil (ks : List KRec) : List KRec := ks.map fun k => { k with dirty := true }
def drop1 (tab : List Nat) (i : Nat) (on : Bool) (ks : List KRec) : List KRec := ks.map fun k => match isAnc tab k.r.i i with
  | true => { k with need := k.need && !on }
  | false => k

/-- What is known of the records. -/
def KInv (P : Program) (gl : List Nat) (h : AH) (ks : List KRec) : Prop :=
  ∀ k ∈ ks, k.need = true → (k.hl = true → ∀ h', aQ P (aEval gl k.r.t) k.r.op h' = some k.r.v) ∧ (k.dirty = false → aQ P (aEval gl k.r.t) k.r.op h = some k.r.v)

theorem kChks_sound {h : AH} {A : Ans} {r : AVal × AH} : ∀ {ks : List KRec}, KInv P gl h ks → kChks P gl h A ks = some r → A = some r ∧ okAt P gl h (rsOf ks) = true
  | [], _, hk => ⟨hk, rfl⟩
  | k :: l, hi, hk => by
      have hi' : KInv P gl h l := fun x hx => hi x (by simp [hx])
      have h0 := hi k (by simp)
      have fin : kChks P gl h A l = some r → (k.need = true → ∃ v, aQ P (aEval gl k.r.t) k.r.op h = some v ∧ AVal.same v k.r.v = true) → A = some r ∧ okAt P gl h (rsOf (k :: l)) = true := by
        intro hk hq
        obtain ⟨h1, h2⟩ := kChks_sound hi' hk
        refine ⟨h1, ?_⟩
        unfold rsOf
        rw [List.filter_cons]
        split
        · rename_i hn
          obtain ⟨v, hv, hs⟩ := hq hn
          simp only [List.map_cons, okAt, List.all_cons, hv, hs, Bool.true_and]
          exact h2
        · exact h2
      simp only [kChks] at hk
      split at hk
      · unfold kChk at hk
        split at hk
        · rename_i hc
          refine fin hk fun hn => ?_
          simp only [hn, Bool.not_true, Bool.false_or] at hc
          unfold rchk kSame at hc
          split at hc
          · rename_i v hv
            exact ⟨v, qOp_aQ hv, hc⟩
          · cases hc
        · cases hk
      · rename_i hd
        refine fin hk fun hn => ⟨k.r.v, ?_, AVal.same_refl _⟩
        simp only [Bool.and_eq_false_iff, Bool.not_eq_false'] at hd
        rcases hd with hd | hd
        · exact (h0 hn).2 hd
        · exact (h0 hn).1 hd h

theorem rsOf_soil (ks : List KRec) : rsOf (soil ks) = rsOf ks := by
  induction ks with
  | nil => rfl
  | cons k l ih =>
    unfold rsOf soil at *
    simp only [List.map_cons, List.filter_cons]
    split <;> simp_all
theorem KInv.soil {h h' : AH} {ks : List KRec} (hi : KInv P gl h ks) : KInv P gl h' (soil ks) := by
  intro k hk hn
  unfold AI.soil at hk
  rw [List.mem_map] at hk
  obtain ⟨k0, hk0, rfl⟩ := hk
  exact ⟨fun h => (hi k0 hk0 hn).1 h, fun h => by cases h⟩
theorem rsOf_drop1 (tab : List Nat) (i : Nat) (ks : List KRec) : rsOf (drop1 tab i true ks) = (rsOf ks).filter fun r => !isAnc tab r.i i := by
  induction ks with
  | nil => rfl
  | cons k l ih =>
    unfold rsOf drop1 at *
    simp only [List.map_cons]
    cases ha : isAnc tab k.r.i i <;> cases hn : k.need <;> simp_all [List.filter_cons]
theorem rsOf_drop0 (tab : List Nat) (i : Nat) (ks : List KRec) : rsOf (drop1 tab i false ks) = rsOf ks := by
  induction ks with
  | nil => rfl
  | cons k l ih =>
    unfold rsOf drop1 at *
    simp only [List.map_cons]
    cases ha : isAnc tab k.r.i i <;> cases hn : k.need <;> simp_all [List.filter_cons]
theorem KInv.drop1 {h : AH} {ks : List KRec} (tab : List Nat) (i : Nat) (on : Bool) (hi : KInv P gl h ks) : KInv P gl h (drop1 tab i on ks) := by
  intro k hk hn
  unfold AI.drop1 at hk
  rw [List.mem_map] at hk
  obtain ⟨k0, hk0, rfl⟩ := hk
  cases ha : isAnc tab k0.r.i i
  · simp only [ha] at hn ⊢
    exact hi k0 hk0 hn
  · simp only [ha, Bool.and_eq_true] at hn ⊢
    exact hi k0 hk0 hn.1

def kDrawGo (P : Program) (gl : List Nat) (call : ACall) (ops : Array Oper) (tab : List Nat) : List Nat → List AVal → AH → List KRec → (List AVal → AH → Ans) → Ans
  | [], t, h, ks, K => kChks P gl h (K t h) ks
  | i :: rest, t, h, ks, K =>
    match ops[i]? with
    | none => none
    | some o =>
      match o.guard with
      | none => match kindOf P o.op with
        | .quiet => kQ (qOp P (aEval gl t) o.op h) fun v => kPut t o.dst v fun t' => kDrawGo P gl call ops tab rest t' h (⟨⟨i, o.op, t, v⟩, !heapless o.op, false, hless P o.op⟩ :: ks) K
        | .make => kM (mOp P (aEval gl t) o.op) h fun v h' => kPut t o.dst v fun t' => kDrawGo P gl call ops tab rest t' h' (soil ks) K
        | .eff => kChks P gl h (kE (eOp P call (aEval gl t) o.op h) fun v h' => kPut t o.dst v fun t' => kDrawGo P gl call ops tab rest t' h' (drop1 tab i true (soil ks)) K) ks
      | some (j, want) => match kindOf P o.op with
        | .quiet => kGq (gVal ops t j) want (fun k => kQ (qOp P (aEval gl t) o.op h) k) fun v =>
            kPut t o.dst v fun t' => kDrawGo P gl call ops tab rest t' h (⟨⟨i, o.op, t, v⟩, !heapless o.op && gOn (gVal ops t j) want, false, hless P o.op⟩ :: ks) K
        | .make => kG (gVal ops t j) want h (fun k => kM (mOp P (aEval gl t) o.op) h k) fun v h' => kPut t o.dst v fun t' => kDrawGo P gl call ops tab rest t' h' (soil ks) K
        | .eff => kG (gVal ops t j) want h (fun k => kChks P gl h (kE (eOp P call (aEval gl t) o.op h) k) ks) fun v h' =>
            kPut t o.dst v fun t' => kDrawGo P gl call ops tab rest t' h' (drop1 tab i (gOn (gVal ops t j) want) (soil ks)) K

theorem rsOf_cons (r : QRec) (n d l : Bool) (ks : List KRec) : rsOf (⟨r, n, d, l⟩ :: ks) = if n then r :: rsOf ks else rsOf ks := by
  unfold rsOf
  rw [List.filter_cons]
  cases n <;> simp
theorem KInv.cons {h : AH} {ks : List KRec} (hi : KInv P gl h ks) {i : Nat} {op : Op} {t : List AVal} {v : AVal} {n : Bool} (hq : n = true → aQ P (aEval gl t) op h = some v) : KInv P gl h (⟨⟨i, op, t, v⟩, n, false, hless P op⟩ :: ks) := by
  intro k hk hn
  simp only [List.mem_cons] at hk
  rcases hk with rfl | hk
  · exact ⟨fun hl h' => (hless_eq hl h' h).trans (hq hn), fun _ => hq hn⟩
  · exact hi k hk hn

theorem kDrawGo_sound {ops : Array Oper} {tab : List Nat} {r : AVal × AH} {K : List AVal → AH → Ans} : ∀ (l : List Nat) (t : List AVal) (h : AH) (ks : List KRec), KInv P gl h ks → kDrawGo P gl call ops tab l t h ks K = some r →
    ∃ t' h', aDrawGo P gl call ops tab l t h (rsOf ks) = some (t', h') ∧ K t' h' = some r ∧ Agree (opsDefs ops) t t'
  | [], t, h, ks, hi, hk => by
      simp only [kDrawGo, kPut_eq] at hk
      obtain ⟨h1, h2⟩ := kChks_sound hi hk
      exact ⟨t, h, by simp only [aDrawGo, h2, if_true], h1, Agree.refl _ _⟩
  | i :: rest, t, h, ks, hi, hk => by
      simp only [kDrawGo, kPut_eq] at hk
      split at hk
      · cases hk
      rename_i o ho
      have done : ∀ (v : AVal) (h' : AH) (ks' : List KRec), KInv P gl h' ks' → kDrawGo P gl call ops tab rest (aPut t o.dst v) h' ks' K = some r →
          ∃ t2 h2, aDrawGo P gl call ops tab rest (aPut t o.dst v) h' (rsOf ks') = some (t2, h2) ∧ K t2 h2 = some r ∧ Agree (opsDefs ops) t t2 := by
        intro v h' ks' hi' hk
        obtain ⟨t2, h2, e1, e2, e3⟩ := kDrawGo_sound rest _ h' ks' hi' hk
        exact ⟨t2, h2, e1, e2, (agree_put ho t v).trans e3⟩
      have hskip : aWanted ops t o = some false → ∀ ks', KInv P gl h ks' → rsOf ks' = rsOf ks → kDrawGo P gl call ops tab rest (aPut t o.dst (.tuple [])) h ks' K = some r →
          ∃ t2 h2, aDrawGo P gl call ops tab (i :: rest) t h (rsOf ks) = some (t2, h2) ∧ K t2 h2 = some r ∧ Agree (opsDefs ops) t t2 := by
        intro hw ks' hi' e hk
        simp only [aDrawGo, ho, hw]
        rw [← e]
        exact done _ _ _ hi' hk
      have hquiet : aWanted ops t o = some true → kindOf P o.op = .quiet → ∀ v, qOp P (aEval gl t) o.op h = some v → ∀ n, (n = !heapless o.op) →
          kDrawGo P gl call ops tab rest (aPut t o.dst v) h (⟨⟨i, o.op, t, v⟩, n, false, hless P o.op⟩ :: ks) K = some r →
          ∃ t2 h2, aDrawGo P gl call ops tab (i :: rest) t h (rsOf ks) = some (t2, h2) ∧ K t2 h2 = some r ∧ Agree (opsDefs ops) t t2 := by
        intro hw hkd v hv n hn hk
        simp only [aDrawGo, ho, hw, hkd, qOp_aQ hv]
        obtain ⟨t2, h2, e1, e2, e3⟩ := done _ _ _ (hi.cons fun _ => qOp_aQ hv) hk
        refine ⟨t2, h2, ?_, e2, e3⟩
        rw [rsOf_cons] at e1
        subst hn
        cases hh : heapless o.op <;> simp [hh] at e1 ⊢ <;> exact e1
      have hmake : aWanted ops t o = some true → kindOf P o.op = .make → ∀ p, mOp P (aEval gl t) o.op = some p → kDrawGo P gl call ops tab rest (aPut t o.dst (p.2 h.n)) (h.push p.1) (soil ks) K = some r →
          ∃ t2 h2, aDrawGo P gl call ops tab (i :: rest) t h (rsOf ks) = some (t2, h2) ∧ K t2 h2 = some r ∧ Agree (opsDefs ops) t t2 := by
        intro hw hkd p hp hk
        simp only [aDrawGo, ho, hw, hkd, mOp_aM hp]
        obtain ⟨t2, h2, e1, e2, e3⟩ := done _ _ _ hi.soil hk
        rw [rsOf_soil] at e1
        exact ⟨t2, h2, e1, e2, e3⟩
      have heff : aWanted ops t o = some true → kindOf P o.op = .eff → ∀ v h', eOp P call (aEval gl t) o.op h = some (v, h') → okAt P gl h (rsOf ks) = true →
          kDrawGo P gl call ops tab rest (aPut t o.dst v) h' (drop1 tab i true (soil ks)) K = some r →
          ∃ t2 h2, aDrawGo P gl call ops tab (i :: rest) t h (rsOf ks) = some (t2, h2) ∧ K t2 h2 = some r ∧ Agree (opsDefs ops) t t2 := by
        intro hw hkd v h' hv hok hk
        simp only [aDrawGo, ho, hw, hkd, hok, if_true, eOp_aE hv]
        obtain ⟨t2, h2, e1, e2, e3⟩ := done _ _ _ ((hi.soil (h' := h')).drop1 tab i true) hk
        rw [rsOf_drop1, rsOf_soil] at e1
        exact ⟨t2, h2, e1, e2, e3⟩
      split at hk
      · rename_i hg
        have hw : aWanted ops t o = some true := by unfold aWanted; rw [hg]
        split at hk
        · rename_i hkd
          unfold kQ at hk
          split at hk
          · rename_i v hv
            exact hquiet hw hkd v hv _ rfl hk
          · cases hk
        · rename_i hkd
          unfold kM at hk
          split at hk
          · rename_i p hp
            exact hmake hw hkd p hp hk
          · cases hk
        · rename_i hkd
          obtain ⟨hk, hok⟩ := kChks_sound hi hk
          unfold kE at hk
          split at hk
          · rename_i v h' hv
            exact heff hw hkd v h' hv hok hk
          · cases hk
      · rename_i j want hg
        have hw := aWanted_gVal (ops := ops) (t := t) hg
        split at hk
        · rename_i hkd
          unfold kGq at hk
          split at hk
          · cases hk
          · rename_i b hb
            simp only [hb] at hw
            split at hk
            · rename_i hbw
              rw [hbw] at hw
              unfold kQ at hk
              split at hk
              · rename_i v hv
                exact hquiet hw hkd v hv _ (by simp [hb, gOn, hbw]) hk
              · cases hk
            · rename_i hbw
              simp only [Bool.not_eq_true] at hbw
              rw [hbw] at hw
              refine hskip hw _ (hi.cons fun hn => ?_) ?_ hk
              · simp [hb, gOn, hbw] at hn
              · simp [rsOf_cons, hb, gOn, hbw]
          · rename_i h1 h2
            have hoff : gOn (gVal ops t j) want = false := by
              unfold gOn
              split
              · rename_i b e; exact absurd e (h2 b)
              · rfl
            refine hskip ?_ _ (hi.cons fun hn => ?_) ?_ hk
            · rw [hw]
              split
              · rename_i e; exact absurd e h1
              · rename_i b e; exact absurd e (h2 b)
              · rfl
            · simp [hoff] at hn
            · simp [rsOf_cons, hoff]
        · rename_i hkd
          unfold kG at hk
          split at hk
          · cases hk
          · rename_i b hb
            simp only [hb] at hw
            split at hk
            · rename_i hbw
              rw [hbw] at hw
              unfold kM at hk
              split at hk
              · rename_i p hp
                exact hmake hw hkd p hp hk
              · cases hk
            · rename_i hbw
              simp only [Bool.not_eq_true] at hbw
              rw [hbw] at hw
              exact hskip hw _ hi.soil (rsOf_soil _) hk
          · rename_i h1 h2
            refine hskip ?_ _ hi.soil (rsOf_soil _) hk
            rw [hw]
            split
            · rename_i e; exact absurd e h1
            · rename_i b e; exact absurd e (h2 b)
            · rfl
        · rename_i hkd
          unfold kG at hk
          split at hk
          · cases hk
          · rename_i b hb
            simp only [hb] at hw
            split at hk
            · rename_i hbw
              rw [hbw] at hw
              obtain ⟨hk, hok⟩ := kChks_sound hi hk
              unfold kE at hk
              split at hk
              · rename_i v h' hv
                simp only [gOn, hb, hbw] at hk
                exact heff hw hkd v h' hv hok hk
              · cases hk
            · rename_i hbw
              simp only [Bool.not_eq_true] at hbw
              rw [hbw] at hw
              simp only [gOn, hb, hbw] at hk
              exact hskip hw _ (hi.soil.drop1 tab i false) (by rw [rsOf_drop0, rsOf_soil]) hk
          · rename_i h1 h2
            have hoff : gOn (gVal ops t j) want = false := by
              unfold gOn
              split
              · rename_i b e; exact absurd e (h2 b)
              · rfl
            rw [hoff] at hk
            refine hskip ?_ _ (hi.soil.drop1 tab i false) (by rw [rsOf_drop0, rsOf_soil]) hk
            rw [hw]
            split
            · rename_i e; exact absurd e h1
            · rename_i b e; exact absurd e (h2 b)
            · rfl
end Go.Proofs.Ytbcpmbggidemdaa.AI
