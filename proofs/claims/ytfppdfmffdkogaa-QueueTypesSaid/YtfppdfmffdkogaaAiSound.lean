/- What the abstract machine says of an operation, a row of operations, holds of the model. -/
import Derived.Test.YtfppdfmffdkogaaAiExec
namespace Go.Proofs.Ytfppdfmffdkogaa.AI
open Go
set_option linter.unusedSimpArgs false

variable {P : Program} {μ : Mu} {h : AH} {w : World}

/-- The operands read alike. -/
def EnvR (μ : Mu) (ρ : AEnv) (σ : Operand → Value) : Prop := ∀ x, VR μ (ρ x) (σ x)
theorem EnvR.list {ρ : AEnv} {σ : Operand → Value} (e : EnvR μ ρ σ) : ∀ l : List Operand, VRs μ (l.map ρ) (l.map σ)
  | [] => .nil
  | x :: l => .cons (e x) (e.list l)
theorem EnvR.arr {ρ : AEnv} {σ : Operand → Value} (e : EnvR μ ρ σ) (a : Array Operand) : VRs μ (a.toList.map ρ) (a.map σ).toList := by
  rw [Array.toList_map]; exact e.list _
theorem EnvR.opt {ρ : AEnv} {σ : Operand → Value} (e : EnvR μ ρ σ) : ∀ x : Option Operand, OVR μ (x.map ρ) (x.map σ)
  | none => .none
  | some x => .some (e x)
theorem EnvR.parts {ρ : AEnv} {σ : Operand → Value} (e : EnvR μ ρ σ) (ps : Array (Nat × Operand)) :
    VRs μ ((aParts ρ ps).map (·.2)) ((ps.map fun (i, x) => (i, σ x)).toList.map (·.2)) ∧ (aParts ρ ps).map (·.1) = (ps.map fun (i, x) => (i, σ x)).toList.map (·.1) := by
  unfold aParts
  rw [Array.toList_map]
  generalize ps.toList = l
  constructor
  · induction l with
    | nil => exact .nil
    | cons p l ih => exact .cons (e p.2) ih
  · induction l with
    | nil => rfl
    | cons p l ih => simp [ih]

theorem one_arg {ρ : AEnv} {σ : Operand → Value} (e : EnvR μ ρ σ) {a : Array Operand} {x : AVal} (h : a.toList.map ρ = [x]) : ∃ v, a.map σ = #[v] ∧ VR μ x v := by
  have hr := e.arr a
  rw [h] at hr
  cases hl : (a.map σ).toList with
  | nil => rw [hl] at hr; cases hr
  | cons v r =>
    rw [hl] at hr
    cases hr with
    | cons hv hn =>
      cases hn
      exact ⟨v, by apply Array.ext'; rw [hl], hv⟩
theorem two_args {ρ : AEnv} {σ : Operand → Value} (e : EnvR μ ρ σ) {a : Array Operand} {x y : AVal} (h : a.toList.map ρ = [x, y]) : ∃ v u, a.map σ = #[v, u] ∧ VR μ x v ∧ VR μ y u := by
  have hr := e.arr a
  rw [h] at hr
  cases hl : (a.map σ).toList with
  | nil => rw [hl] at hr; cases hr
  | cons v r =>
    rw [hl] at hr
    cases hr with
    | cons hv hn =>
      cases hn with
      | cons hu hn =>
        cases hn
        exact ⟨v, _, by apply Array.ext'; rw [hl], hv, hu⟩

theorem v_run {s : Sem Value} {v : Value} {w' : World} (h : s.run P w = .ok v w') : (do pure (Next.value (← s)) : Sem Next).run P w = .ok (.value v) w' := by
  simp [h]

/-- A quiet operation. -/
theorem aQ_good (r : Rel μ h w) {ρ : AEnv} {σ : Operand → Value} (e : EnvR μ ρ σ) {o : Oper} {v : AVal} (hq : aQ P ρ o.op h = some v) :
    ∃ v', (execOp σ o).run P w = .ok (.value v') w ∧ VR μ v v' := by
  have lift : ∀ {s : Sem Value}, Good P μ w s v → (execOp σ o = do pure (Next.value (← s))) → ∃ v', (execOp σ o).run P w = .ok (.value v') w ∧ VR μ v v' := by
    rintro s ⟨v', hr, hv⟩ he
    exact ⟨v', by rw [he]; exact v_run hr, hv⟩
  obtain ⟨dst, op, ty, pos, after, guard⟩ := o
  simp only at hq
  unfold aQ at hq
  split at hq
  case h_1 x => simp only [Option.some.injEq] at hq; subst hq; exact ⟨σ x, by simp [execOp], e x⟩
  case h_2 x => simp only [Option.some.injEq] at hq; subst hq; exact ⟨σ x, by simp [execOp], e x⟩
  case h_3 c a b =>
    split at hq
    · rename_i t ht
      simp only [Option.some.injEq] at hq
      subst hq
      have hc := e c
      rw [ht] at hc
      have hc' := hc.bool_inv
      refine ⟨if t then σ a else σ b, by simp [execOp, hc', asBool], ?_⟩
      cases t
      · exact e b
      · exact e a
    · cases hq
  case h_4 t ps => exact lift (aBuild_good hq (e.parts ps).1 (e.parts ps).2) rfl
  case h_5 t a => exact lift (aLoad_good r hq (e a)) rfl
  case h_6 x =>
    obtain ⟨rfl, a, ha⟩ := aNilCheck_good hq (e x)
    exact ⟨σ x, by simp [execOp, ha], e x⟩
  case h_7 op t x y _ => exact lift (aBin_good hq (e x) (e y)) rfl
  case h_8 op t x => exact lift (aUn_good hq (e x)) rfl
  case h_9 s d x =>
    split at hq
    · cases hq
    · rename_i hd
      simp only [Option.map_eq_some_iff, Prod.exists, exists_and_right, exists_eq_right] at hq
      obtain ⟨h', hc⟩ := hq
      exact lift (aConvertQ_good r (fun e he => hd e he) hc (e x)) rfl
  case h_10 t x => exact lift (aMakeIface_good hq (e x)) rfl
  case h_11 fn a b =>
    simp only [Option.some.injEq] at hq
    subst hq
    exact ⟨.func fn (a.map σ) (b.map σ), by simp [execOp, Instr.makeFunc], .func fn (e.arr a) (e.arr b)⟩
  case h_12 t x lo hi mx => exact lift (aSlice_good r hq (e x) (e.opt lo) (e.opt hi) (e.opt mx)) rfl
  case h_13 s x f => exact lift (aField_good hq (e x)) rfl
  case h_14 t x f => exact lift (aFieldV_good hq (e x)) rfl
  case h_15 t x i => exact lift (aIndexAddr_good hq (e x) (e i)) rfl
  case h_16 t x i => exact lift (aIndexV_good hq (e x) (e i)) rfl
  case h_17 x i => exact lift (aExtract_good hq (e x)) rfl
  case h_18 b args ats =>
    split at hq
    · rename_i x hx
      obtain ⟨xv, hxe, hxv⟩ := one_arg e hx
      obtain ⟨v', hr, hv⟩ := aLen_good (ty := ty) (w := w) r hq hxv
      exact ⟨v', by simp [execOp, resolve, invoke, builtin, hxe, hr], hv⟩
    · rename_i x hx
      obtain ⟨xv, hxe, hxv⟩ := one_arg e hx
      obtain ⟨v', hr, hv⟩ := aCap_good (ty := ty) (w := w) r hq hxv
      exact ⟨v', by simp [execOp, resolve, invoke, builtin, hxe, hr], hv⟩
    · obtain ⟨v', hr, hv⟩ := aMax_good (P := P) (w := w) hq (e.arr args) ats ty
      exact ⟨v', by simp [execOp, resolve, invoke, builtin, hr], hv⟩
    · obtain ⟨v', hr, hv⟩ := aMin_good (P := P) (w := w) hq (e.arr args) ats ty
      exact ⟨v', by simp [execOp, resolve, invoke, builtin, hr], hv⟩
    · cases hq
  case h_19 t x k ok => exact lift (aLookup_good r hq (e x) (e k)) rfl
  case h_20 => cases hq

/-- An operation that makes memory. -/
theorem aM_good {ρ : AEnv} {σ : Operand → Value} (e : EnvR μ ρ σ) {o : Oper} {p : APlan} (hm : aM P ρ o.op = some p) :
    ∃ s : Sem Value, execOp σ o = (do pure (Next.value (← s))) ∧ PlanGood P μ w s p := by
  obtain ⟨dst, op, ty, pos, after, guard⟩ := o
  simp only at hm
  unfold aM at hm
  split at hm
  · exact ⟨_, rfl, pAlloc_good hm⟩
  · rename_i t x; exact ⟨_, rfl, pBox_good hm (e x)⟩
  · rename_i t n ps; exact ⟨_, rfl, pBuildSlice_good hm (e.parts ps).1 (e.parts ps).2⟩
  · rename_i t
    simp only [Option.some.injEq] at hm
    subst hm
    exact ⟨_, rfl, pMap_good t⟩
  · rename_i t l c; exact ⟨_, rfl, pMakeSlice_good hm (e l) (e c)⟩
  · rename_i s d x; exact ⟨_, rfl, pConvert_good hm (e x)⟩
  · cases hm

/-- The globals that are laid. -/
def GOK (gl : List Nat) (μ : Mu) : Prop := ∀ g ∈ gl, ∃ m, μ g = some m ∧ m.cb = g ∧ m.base = 0
theorem GOK.mono {gl : List Nat} {μ μ' : Mu} (g : GOK gl μ) (hle : μ.le μ') : GOK gl μ' := fun i hi => let ⟨m, h1, h2⟩ := g i hi; ⟨m, hle _ _ h1, h2⟩

theorem aEval_good {gl : List Nat} (g : GOK gl μ) {t : List AVal} {a : Act} (ht : VRs μ t a.tmps.toList) : EnvR μ (aEval gl t) a.eval := by
  intro x
  cases x with
  | tmp i =>
    simp only [aEval, Act.eval]
    cases hx : t[i]? with
    | some v =>
      obtain ⟨y, hy, hv⟩ := ht.get hx
      have hy' : a.tmps[i]? = some y := by simpa using hy
      simp only [List.getD_eq_getElem?_getD, hx, Option.getD_some, Array.getD_eq_getD_getElem?, hy']
      exact hv
    | none =>
      have hl := ht.length
      have h1 : t.length ≤ i := by simpa using hx
      have hy' : a.tmps[i]? = none := by
        rw [Array.getElem?_eq_none]; simp at hl; omega
      simp only [List.getD_eq_getElem?_getD, hx, Option.getD_none, Array.getD_eq_getD_getElem?, hy']
      exact .tuple .nil
  | const v => exact VR.ofConst v
  | global i =>
    simp only [aEval, Act.eval]
    split
    · rename_i hg
      obtain ⟨m, hm, hcb, hb⟩ := g i hg
      have := VR.ptr (μ := μ) (off := 0) hm
      rw [hcb, hb] at this
      simpa using this
    · exact .any _
  | func f => exact .func _ .nil .nil

theorem aPut_good {t : List AVal} {a : Act} (ht : VRs μ t a.tmps.toList) (dst : Option Tmp) {v : AVal} {v' : Value} (hv : VR μ v v') : VRs μ (aPut t dst v) (a.put dst v').tmps.toList := by
  cases dst with
  | none => exact ht
  | some d =>
    simp only [aPut, Act.put, Array.toList_setIfInBounds]
    exact ht.set d hv

/-- What a call comes to. -/
def CallPost (μ : Mu) (h : AH) (w : World) (r : AVal) (h' : AH) (e : Ending) (w' : World) : Prop :=
  ∃ μ' v', e = .returned v' ∧ VR μ' r v' ∧ Rel μ' h' w' ∧ Ext μ h w μ' h' w'
/-- The function has a text that may be entered. -/
def Enters (P : Program) (f : FuncId) : Prop := ∃ fn, P.funcs[f]? = some fn ∧ fn.body.isSome = true ∧ (fn.name == "runtime.NumGoroutine") = false
/-- What 'call' says holds: a text is entered, or the model answers in place. -/
def CallSound (P : Program) (gl : List Nat) (call : ACall) : Prop :=
  ∀ f args h r h', call f args h = some (r, h') →
    (Enters P f ∧ ∀ (μ : Mu) (w : World) (cargs : Array Value), Rel μ h w → GOK gl μ → VRs μ args cargs.toList → Calls P f cargs w (CallPost μ h w r h')) ∨
    ∀ (μ : Mu) (w : World) (cargs : Array Value), Rel μ h w → GOK gl μ → VRs μ args cargs.toList → ∃ v' w', (callFunc f cargs).run P w = .ok (.value v') w' ∧ CallPost μ h w r h' (.returned v') w'

theorem callFunc_run {f : FuncId} (he : Enters P f) (args : Array Value) : (callFunc f args).run P w = .ok (.enter f args) w := by
  obtain ⟨fn, hf, hb, hn⟩ := he
  have : fn.body.isNone = false := by cases h : fn.body <;> simp_all
  simp only [callFunc, Sem.run_bind, run_program, Result.andThen_ok, hf, hn, Bool.false_eq_true, if_false, this]
  rfl
def entersB (P : Program) (f : FuncId) : Bool := match P.funcs[f]? with
  | some fn => fn.body.isSome && !(fn.name == "runtime.NumGoroutine")
  | none => false
theorem enters_of {f : FuncId} (h : entersB P f = true) : Enters P f := by
  unfold entersB at h
  split at h
  · rename_i fn e
    simp only [Bool.and_eq_true, Bool.not_eq_true'] at h
    exact ⟨fn, e, h.1, h.2⟩
  · cases h
theorem CallSound.enter {gl : List Nat} {call : ACall} (hs : CallSound P gl call) {f : FuncId} (hen : Enters P f) {args : List AVal} {h : AH} {r : AVal} {h' : AH} (hc : call f args h = some (r, h')) (μ : Mu) (w : World) (cargs : Array Value) (a : Rel μ h w) (b : GOK gl μ) (c : VRs μ args cargs.toList) :
    Calls P f cargs w (CallPost μ h w r h') := by
  rcases hs _ _ _ _ _ hc with ⟨_, k⟩ | k
  · exact k μ w cargs a b c
  · obtain ⟨v', w', e, _⟩ := k μ w cargs a b c
    rw [callFunc_run hen] at e
    cases e

/-- Any operation: the walk goes on behind it. -/
theorem aOp_wp {gl : List Nat} {call : ACall} (hcall : CallSound P gl call) (r : Rel μ h w) (g : GOK gl μ) {ρ : AEnv} {o : Oper} {a : Act} (e : EnvR μ ρ a.eval) {v : AVal} {h' : AH} (ho : aOp P call ρ o.op h = some (v, h'))
    {K : Act → World → Prop} {Q : Exit → Act → World → Prop}
    (hK : ∀ v' w' μ', VR μ' v v' → Rel μ' h' w' → Ext μ h w μ' h' w' → K (a.put o.dst v') w') : o.wp P a w K Q := by
  unfold Oper.wp
  unfold aOp at ho
  split at ho
  · simp only [Option.map_eq_some_iff, Prod.mk.injEq] at ho
    obtain ⟨v0, hq, rfl, rfl⟩ := ho
    obtain ⟨v', hr, hv⟩ := aQ_good r e hq
    rw [hr, Oper.upon_value]
    exact hK v' w μ hv r (Ext.refl _ _ _)
  · simp only [Option.map_eq_some_iff, Prod.mk.injEq] at ho
    obtain ⟨p, hm, rfl, rfl⟩ := ho
    obtain ⟨s, hs, hg⟩ := aM_good (w := w) e hm
    obtain ⟨v', w', μ', hr, hv, hrel, hext⟩ := hg.goodH r
    rw [hs, v_run hr, Oper.upon_value]
    exact hK v' w' μ' hv hrel hext
  · rename_i hk
    clear hk
    obtain ⟨dst, op, ty, pos, after, guard⟩ := o
    simp only at ho hK ⊢
    unfold aE at ho
    split at ho
    · rename_i t x y
      simp only [Option.map_eq_some_iff, Prod.mk.injEq] at ho
      obtain ⟨h1, hs, rfl, rfl⟩ := ho
      obtain ⟨w', hr, hrel, hext⟩ := aStore_good (P := P) r hs (e x) (e y)
      have : (execOp a.eval ⟨dst, .store t x y, ty, pos, after, guard⟩).run P w = .ok .skip w' := by simp [execOp, hr]
      rw [this, Oper.upon_skip]
      exact hK undef w' μ (.tuple .nil) hrel hext
    · rename_i b args ats
      split at ho
      · rename_i s x hx
        obtain ⟨sv, xv, hxe, hs, hxv⟩ := two_args e hx
        obtain ⟨v', w', μ', hr, hv, hrel, hext⟩ := aAppend_good (ty := ty) r ho hs hxv
        have : (execOp a.eval ⟨dst, .call ⟨.builtin .append, args, ats⟩, ty, pos, after, guard⟩).run P w = .ok (.value v') w' := by simp [execOp, resolve, invoke, builtin, hxe, hr]
        rw [this, Oper.upon_value]
        exact hK v' w' μ' hv hrel hext
      · rename_i d x hx
        obtain ⟨dv, xv, hxe, hd, hxv⟩ := two_args e hx
        obtain ⟨v', w', μ', hr, hv, hrel, hext⟩ := aCopy_good (ty := ty) r ho hd hxv
        have : (execOp a.eval ⟨dst, .call ⟨.builtin .copy, args, ats⟩, ty, pos, after, guard⟩).run P w = .ok (.value v') w' := by simp [execOp, resolve, invoke, builtin, hxe, hr]
        rw [this, Oper.upon_value]
        exact hK v' w' μ' hv hrel hext
      · cases ho
    · rename_i f args ats
      split at ho
      · rename_i q first cap hf
        have hcs := hcall _ _ _ _ _ ho
        have hfv := e f
        rw [hf] at hfv
        generalize hfe : a.eval f = fv at hfv
        cases hfv with
        | func _ ha hb =>
          rename_i a' b'
          have hargs : VRs μ (first ++ args.toList.map ρ ++ cap) (a' ++ args.map a.eval ++ b').toList := by
            simp only [Array.toList_append]
            exact (ha.append (e.arr args)).append hb
          have hx : (execOp a.eval ⟨dst, .call ⟨.value f, args, ats⟩, ty, pos, after, guard⟩).run P w = (callFunc q (a' ++ args.map a.eval ++ b')).run P w := by
            simp only [execOp, resolve, hfe, Deferred.ofValue, Sem.run_bind, Sem.run_pure, Result.andThen_ok, invoke]
          rcases hcs with ⟨hen, hcalls⟩ | hin
          · rw [hx, callFunc_run hen, Oper.upon_enter]
            refine (hcalls μ w _ r g hargs).mono ?_
            rintro en w' ⟨μ', v', rfl, hv, hrel, hext⟩
            exact hK v' w' μ' hv hrel hext
          · obtain ⟨v', w', e1, μ', v2, e2, hv, hrel, hext⟩ := hin μ w _ r g hargs
            cases e2
            rw [hx, e1, Oper.upon_value]
            exact hK v' w' μ' hv hrel hext
      · cases ho
    · rename_i src dst0 x
      obtain ⟨v', w', μ', hr, hv, hrel, hext⟩ := aConvB_good (P := P) r ho (e x)
      have : (execOp a.eval ⟨dst, .convert src dst0 x, ty, pos, after, guard⟩).run P w = .ok (.value v') w' := by simp [execOp, hr]
      rw [this, Oper.upon_value]
      exact hK v' w' μ' hv hrel hext
    · rename_i t m k x
      simp only [Option.map_eq_some_iff, Prod.mk.injEq] at ho
      obtain ⟨h1, hs, rfl, rfl⟩ := ho
      obtain ⟨w', hr, hrel, hext⟩ := aMapSet_good (P := P) r hs (e m) (e k) (e x)
      have : (execOp a.eval ⟨dst, .mapUpdate t m k x, ty, pos, after, guard⟩).run P w = .ok .skip w' := by simp [execOp, hr]
      rw [this, Oper.upon_skip]
      exact hK undef w' μ (.tuple .nil) hrel hext
    · rename_i t m k x
      simp only [Option.map_eq_some_iff, Prod.mk.injEq] at ho
      obtain ⟨h1, hs, rfl, rfl⟩ := ho
      obtain ⟨w', hr, hrel, hext⟩ := aMapSet_good (P := P) r hs (e m) (e k) (e x)
      have : (execOp a.eval ⟨dst, .insert t m k x, ty, pos, after, guard⟩).run P w = .ok .skip w' := by simp [execOp, hr]
      rw [this, Oper.upon_skip]
      exact hK undef w' μ (.tuple .nil) hrel hext
    · rename_i t m k
      obtain ⟨v', w', hr, hv, hrel, hext⟩ := aMapEnt_good (P := P) r ho (e m) (e k)
      have : (execOp a.eval ⟨dst, .mapEntry t m k, ty, pos, after, guard⟩).run P w = .ok (.value v') w' := by simp [execOp, hr]
      rw [this, Oper.upon_value]
      exact hK v' w' μ hv hrel hext
    · rename_i t m st x
      simp only [Option.map_eq_some_iff, Prod.mk.injEq] at ho
      obtain ⟨h1, hs, rfl, rfl⟩ := ho
      obtain ⟨w', hr, hrel, hext⟩ := rEntSet_good (P := P) r hs t (e m) (e st) (e x)
      have : (execOp a.eval ⟨dst, .entryStore t m st x, ty, pos, after, guard⟩).run P w = .ok .skip w' := by simp [execOp, hr]
      rw [this, Oper.upon_skip]
      exact hK undef w' μ (.tuple .nil) hrel hext
    · rename_i rc name args ats
      unfold rInv at ho
      split at ho
      · rename_i t v0 hf
        split at ho
        · rename_i q hq
          have hcs := hcall _ _ _ _ _ ho
          have hfv := e rc
          rw [hf] at hfv
          generalize hfe : a.eval rc = fv at hfv
          cases hfv with
          | iface _ hv0 =>
            rename_i v0'
            have hargs : VRs μ (v0 :: args.toList.map ρ) (#[v0'] ++ args.map a.eval).toList := by
              simp only [Array.toList_append]
              exact .cons hv0 (e.arr args)
            have hx : (execOp a.eval ⟨dst, .call ⟨.invoke rc name, args, ats⟩, ty, pos, after, guard⟩).run P w = (callFunc q (#[v0'] ++ args.map a.eval)).run P w := by
              have hm := aMeth_good (w := w) hq v0'
              have hex : (#[a.eval rc] ++ args.map a.eval).extract 1 (#[a.eval rc] ++ args.map a.eval).size = args.map a.eval := by
                apply Array.ext'
                simp [Array.toList_extract, List.extract_eq_take_drop]
                exact List.take_of_length_le (by simp)
              have h0 : (#[a.eval rc] ++ args.map a.eval)[0]? = some (a.eval rc) := by rw [Array.getElem?_append_left (by simp)]; rfl
              simp only [execOp, resolve, Sem.run_bind, Sem.run_pure, Result.andThen_ok, invoke]
              rw [h0]
              simp only [hex]
              rw [hfe]
              simp only [callMethod, Sem.run_bind, run_program, Result.andThen_ok, hm]
            rcases hcs with ⟨hen, hcalls⟩ | hin
            · rw [hx, callFunc_run hen, Oper.upon_enter]
              refine (hcalls μ w _ r g hargs).mono ?_
              rintro en w' ⟨μ', v', rfl, hv, hrel, hext⟩
              exact hK v' w' μ' hv hrel hext
            · obtain ⟨v', w', e1, μ', v2, e2, hv, hrel, hext⟩ := hin μ w _ r g hargs
              cases e2
              rw [hx, e1, Oper.upon_value]
              exact hK v' w' μ' hv hrel hext
        · cases ho
      · cases ho
    · cases ho
end Go.Proofs.Ytfppdfmffdkogaa.AI
