/- Rows of operations, statements, functions. -/
import Derived.Test.YtfppdfmffdkogaaAiSound
import Derived.LoopN
namespace Go.Proofs.Ytfppdfmffdkogaa.AI
open Go
set_option linter.unusedSimpArgs false

variable {P : Program} {μ : Mu} {h : AH} {w : World} {gl : List Nat} {call : ACall}

def DefR (μ : Mu) (d : ADef) (c : Deferred) : Prop := ∃ cap : Array Value, c.target = .fn (.func d.1) cap ∧ VRs μ d.2 (c.args ++ cap).toList
inductive DefsR (μ : Mu) : List ADef → List Deferred → Prop
  | nil : DefsR μ [] []
  | cons {d : ADef} {c : Deferred} {ds : List ADef} {cs : List Deferred} (h : DefR μ d c) (hl : DefsR μ ds cs) : DefsR μ (d :: ds) (c :: cs)
theorem DefsR.mono {μ' : Mu} (hle : μ.le μ') : ∀ {ds : List ADef} {cs : List Deferred}, DefsR μ ds cs → DefsR μ' ds cs
  | _, _, .nil => .nil
  | _, _, .cons ⟨cap, h1, h2⟩ hl => .cons ⟨cap, h1, h2.mono hle⟩ (hl.mono hle)

structure SR (gl : List Nat) (μ : Mu) (s : St) (a : Act) (w : World) : Prop where
  t : VRs μ s.t a.tmps.toList
  d : DefsR μ s.d a.defers
  r : Rel μ s.h w
  g : GOK gl μ

theorem aWanted_good {t : List AVal} {tm : Array Value} (ht : VRs μ t tm.toList) {ops : Array Oper} {o : Oper} {b : Bool} (hw : aWanted ops t o = some b) : Region.wanted o (yielded ops tm) = b := by
  unfold aWanted at hw
  unfold Region.wanted
  cases hg : o.guard with
  | none => rw [hg] at hw; simpa using hw
  | some p =>
    obtain ⟨j, want⟩ := p
    rw [hg] at hw
    simp only at hw ⊢
    unfold yielded
    cases hd : (ops[j]?).bind (·.dst) with
    | none => rw [hd] at hw; simp at hw ⊢; exact hw
    | some d =>
      rw [hd] at hw
      simp only [Option.bind_some] at hw ⊢
      cases hv : t[d]? with
      | none =>
        have hl := ht.length
        have h1 : t.length ≤ d := by simpa using hv
        have : tm[d]? = none := by rw [Array.getElem?_eq_none]; simp at hl; omega
        rw [hv] at hw
        rw [this]
        simp at hw ⊢; exact hw
      | some x =>
        obtain ⟨y, hy, hr⟩ := ht.get hv
        have hy' : tm[d]? = some y := by simpa using hy
        rw [hv] at hw
        rw [hy']
        cases hr <;> simp_all

theorem aRun_wp (hcall : CallSound P gl call) {ops : Array Oper} {Q : Exit → Act → World → Prop} : ∀ (l : List Nat) (μ : Mu) (s s' : St) (a : Act) (w : World), SR gl μ s a w → aRun P gl call ops l s = some s' →
    (∀ a' w' μ', SR gl μ' s' a' w' → Ext μ s.h w μ' s'.h w' → Q .normal a' w') → wpOps P ops Q l a w
  | [], μ, s, s', a, w, hs, hr, hQ => by
      simp only [aRun, Option.some.injEq] at hr
      subst hr
      exact hQ a w μ hs (Ext.refl _ _ _)
  | i :: rest, μ, s, s', a, w, hs, hr, hQ => by
      simp only [aRun] at hr
      simp only [wpOps]
      split at hr
      · cases hr
      rename_i o ho
      rw [ho]
      simp only
      split at hr
      · cases hr
      · rename_i hw
        rw [aWanted_good hs.t hw]
        simp only [Bool.false_eq_true, if_false]
        refine aRun_wp hcall rest μ { s with t := aPut s.t o.dst (.tuple []) } s' _ w ⟨aPut_good hs.t _ (.tuple .nil), ?_, hs.r, hs.g⟩ hr hQ
        cases o.dst <;> exact hs.d
      · rename_i hw
        rw [aWanted_good hs.t hw]
        simp only [if_true]
        refine .inl ?_
        have env := aEval_good hs.g hs.t
        split at hr
        · rename_i c hop
          split at hr
          · rename_i d hd
            unfold aDefer at hd
            split at hd
            · rename_i f hcf
              split at hd
              · rename_i q first cap hf
                simp only [Option.some.injEq] at hd
                subst hd
                have hfv := env f
                rw [hf] at hfv
                generalize hfe : a.eval f = fv at hfv
                cases hfv with
                | func _ ha hb =>
                  rename_i a' b'
                  unfold Oper.wp
                  have : (execOp a.eval o).run P w = .ok (.defer { target := .fn (.func q) b', args := a' ++ c.args.map a.eval }) w := by
                    unfold execOp
                    rw [hop]
                    simp [resolve, hcf, hfe, Deferred.ofValue]
                  rw [this, Oper.upon_defer]
                  refine aRun_wp hcall rest μ { s with t := aPut s.t o.dst (.tuple []), d := (q, first ++ c.args.toList.map (aEval gl s.t) ++ cap) :: s.d } s' _ w
                    ⟨aPut_good (a := { a with defers := _ :: a.defers }) hs.t _ (.tuple .nil), ?_, hs.r, hs.g⟩ hr hQ
                  have hdr : DefsR μ ((q, first ++ c.args.toList.map (aEval gl s.t) ++ cap) :: s.d) ({ target := .fn (.func q) b', args := a' ++ c.args.map a.eval } :: a.defers) := by
                    refine .cons ⟨b', rfl, ?_⟩ hs.d
                    simp only [Array.toList_append]
                    exact (ha.append (env.arr c.args)).append hb
                  cases o.dst <;> exact hdr
              · cases hd
            · cases hd
          · cases hr
        · split at hr
          · rename_i v h' hop
            refine aOp_wp hcall hs.r hs.g env hop fun v' w' μ' hv hrel hext => ?_
            have hle := hext.le hs.r
            refine aRun_wp hcall rest μ' { s with t := aPut s.t o.dst v, h := h' } s' _ w' ⟨aPut_good (hs.t.mono hle) _ hv, ?_, hrel, hs.g.mono hle⟩ hr
              (fun a2 w2 μ2 hs2 he2 => hQ a2 w2 μ2 hs2 (hext.trans he2))
            cases o.dst <;> exact hs.d.mono hle
          · cases hr

def ExitR : AExit → Exit → Prop
  | .normal, .normal => True
  | .exit i, .exit j => i = j
  | .ret, .ret => True
  | _, _ => False

/-- What a statement comes to. -/
def CodePost (gl : List Nat) (μ : Mu) (h : AH) (w : World) (x : AExit) (s' : St) (e : Exit) (a' : Act) (w' : World) : Prop :=
  ExitR x e ∧ ∃ μ', SR gl μ' s' a' w' ∧ Ext μ h w μ' s'.h w'

/-- The regions of a statement that draw their order meet 'ok'. -/
def regsOk (ok : Array Oper → Bool) : Code → Bool
  | .region _ ops true => ok ops
  | .seq a b => regsOk ok a && regsOk ok b
  | .cond _ a b => regsOk ok a && regsOk ok b
  | .block _ a => regsOk ok a
  | .loop a => regsOk ok a
  | _ => true
/-- What is asked of the regions that draw their order. -/
def DrawSound (P : Program) (gl : List Nat) (ok : Array Oper → Bool) (draw : Array Oper → St → Option St) : Prop :=
  ∀ ops s s', ok ops = true → draw ops s = some s' → ∀ (μ : Mu) (id : Nat) (a : Act) (w : World), SR gl μ s a w → (Code.region id ops true).wp P (CodePost gl μ s.h w .normal s') a w

theorem CodePost.trans {μ1 : Mu} {h1 : AH} {w1 : World} {x : AExit} {s' : St} (hext : Ext μ h w μ1 h1 w1) {e : Exit} {a' : Act} {w' : World} (p : CodePost gl μ1 h1 w1 x s' e a' w') : CodePost gl μ h w x s' e a' w' :=
  let ⟨hx, μ', hs, he⟩ := p
  ⟨hx, μ', hs, hext.trans he⟩

theorem aLoop_rounds {step : St → Option (AExit × St)} {c : Code} (hstep : ∀ s x s', step s = some (x, s') → ∀ (μ : Mu) (a : Act) (w : World), SR gl μ s a w → c.wp P (CodePost gl μ s.h w x s') a w)
    {μ0 : Mu} {h0 : AH} {w0 : World} {x : AExit} {s' : St} :
    ∀ (k : Nat) (s : St), aLoop step k s = some (x, s') → ∀ (μ : Mu) (a : Act) (w : World), SR gl μ s a w → Ext μ0 h0 w0 μ s.h w → Code.rounds P c (CodePost gl μ0 h0 w0 x s') k a w
  | 0, s, hl, _, _, _, _, _ => by simp [aLoop] at hl
  | k + 1, s, hl, μ, a, w, hs, he => by
      rw [rounds_succ]
      simp only [aLoop] at hl
      split at hl
      · rename_i s1 h1
        refine wp_mono (hstep s _ _ h1 μ a w hs) ?_
        rintro e a' w' ⟨hx, μ', hs', he'⟩
        cases e <;> simp only [ExitR] at hx
        exact aLoop_rounds hstep k s1 hl μ' a' w' hs' (he.trans he')
      · rename_i h1
        refine wp_mono (hstep s x s' hl μ a w hs) ?_
        intro e a' w' p
        have hne : x ≠ .normal := by rintro rfl; exact h1 s' hl
        have hx := p.1
        cases e
        case normal => cases x <;> simp only [ExitR] at hx; exact absurd rfl hne
        all_goals exact CodePost.trans he p

theorem aCode_wp (hcall : CallSound P gl call) {ok : Array Oper → Bool} {draw : Array Oper → St → Option St} (hdraw : DrawSound P gl ok draw) : ∀ (c : Code), regsOk ok c = true → ∀ (s : St) (x : AExit) (s' : St), aCode P gl call draw c s = some (x, s') →
    ∀ (μ : Mu) (a : Act) (w : World), SR gl μ s a w → c.wp P (CodePost gl μ s.h w x s') a w := by
  intro c
  induction c with
  | skip =>
    intro hok s x s' hc μ a w hs
    simp only [aCode, Option.some.injEq, Prod.mk.injEq] at hc
    obtain ⟨rfl, rfl⟩ := hc
    exact wp_skip ⟨trivial, μ, hs, Ext.refl _ _ _⟩
  | region id ops d =>
    intro hok s x s' hc μ a w hs
    cases d with
    | false =>
      simp only [aCode, Option.map_eq_some_iff, Prod.mk.injEq] at hc
      obtain ⟨s1, hr, rfl, rfl⟩ := hc
      exact wp_region (aRun_wp hcall _ μ s s1 a w hs hr fun a' w' μ' hs' he => ⟨trivial, μ', hs', he⟩)
    | true =>
      simp only [aCode, Option.map_eq_some_iff, Prod.mk.injEq] at hc
      obtain ⟨s1, hr, rfl, rfl⟩ := hc
      exact hdraw ops s s1 (by simpa [regsOk] using hok) hr μ id a w hs
  | seq c1 c2 ih1 ih2 =>
    intro hok s x s' hc μ a w hs
    simp only [regsOk, Bool.and_eq_true] at hok
    simp only [aCode] at hc
    refine wp_seq ?_
    split at hc
    · rename_i s1 h1
      refine wp_mono (ih1 hok.1 s _ _ h1 μ a w hs) ?_
      rintro e a' w' ⟨hx, μ', hs', he'⟩
      cases e <;> simp only [ExitR] at hx
      exact wp_mono (ih2 hok.2 s1 x s' hc μ' a' w' hs') fun e a w p => CodePost.trans he' p
    · rename_i h1
      refine wp_mono (ih1 hok.1 s x s' hc μ a w hs) ?_
      intro e a' w' p
      have hne : x ≠ .normal := by rintro rfl; exact h1 s' hc
      have hx := p.1
      cases e
      case normal => cases x <;> simp only [ExitR] at hx; exact absurd rfl hne
      all_goals exact p
  | cond c a1 b1 ih1 ih2 =>
    intro hok s x s' hc μ a w hs
    simp only [regsOk, Bool.and_eq_true] at hok
    simp only [aCode] at hc
    have hv := aEval_good hs.g hs.t c
    split at hc
    · rename_i ht
      rw [ht] at hv
      exact wp_cond_true hv.bool_inv (ih1 hok.1 s x s' hc μ a w hs)
    · rename_i ht
      rw [ht] at hv
      exact wp_cond_false hv.bool_inv (ih2 hok.2 s x s' hc μ a w hs)
    · cases hc
  | block id c ih =>
    intro hok s x s' hc μ a w hs
    have ih := ih (by simpa [regsOk] using hok)
    simp only [aCode] at hc
    refine wp_block ?_
    split at hc
    · rename_i j s1 h1
      refine wp_mono (ih s _ _ h1 μ a w hs) ?_
      rintro e a' w' ⟨hx, μ', hs', he'⟩
      cases e <;> simp only [ExitR] at hx
      subst hx
      simp only [Exit.inBlock]
      split at hc
      · rename_i hj
        simp only [Option.some.injEq, Prod.mk.injEq] at hc
        obtain ⟨rfl, rfl⟩ := hc
        rw [if_pos hj]
        exact ⟨trivial, μ', hs', he'⟩
      · rename_i hj
        simp only [Option.some.injEq, Prod.mk.injEq] at hc
        obtain ⟨rfl, rfl⟩ := hc
        rw [if_neg hj]
        exact ⟨rfl, μ', hs', he'⟩
    · rename_i h1
      refine wp_mono (ih s x s' hc μ a w hs) ?_
      intro e a' w' p
      have hx := p.1
      cases e
      case exit j =>
        cases x <;> simp only [ExitR] at hx
        exact absurd hc (h1 _ _)
      all_goals exact p
  | loop c ih =>
    intro hok s x s' hc μ a w hs
    have ih := ih (by simpa [regsOk] using hok)
    simp only [aCode] at hc
    exact wp_loop_rounds _ (aLoop_rounds (fun s x s' h => ih s x s' h) _ s hc μ a w hs (Ext.refl _ _ _))
  | exit id =>
    intro hok s x s' hc μ a w hs
    simp only [aCode, Option.some.injEq, Prod.mk.injEq] at hc
    obtain ⟨rfl, rfl⟩ := hc
    exact wp_exit ⟨rfl, μ, hs, Ext.refl _ _ _⟩
  | ret =>
    intro hok s x s' hc μ a w hs
    simp only [aCode, Option.some.injEq, Prod.mk.injEq] at hc
    obtain ⟨rfl, rfl⟩ := hc
    exact wp_ret ⟨trivial, μ, hs, Ext.refl _ _ _⟩
  | _ => intro hok s x s' hc; simp [aCode] at hc

theorem tmp_good {t : List AVal} {tm : Array Value} (ht : VRs μ t tm.toList) (i : Nat) : VR μ (t.getD i (.tuple [])) (tm.getD i undef) := by
  cases hx : t[i]? with
  | some v =>
    obtain ⟨y, hy, hv⟩ := ht.get hx
    have hy' : tm[i]? = some y := by simpa using hy
    simp only [List.getD_eq_getElem?_getD, hx, Option.getD_some, Array.getD_eq_getD_getElem?, hy']
    exact hv
  | none =>
    have hll := ht.length
    have h1 : t.length ≤ i := by simpa using hx
    have hy' : tm[i]? = none := by rw [Array.getElem?_eq_none]; simp at hll; omega
    simp only [List.getD_eq_getElem?_getD, hx, Option.getD_none, Array.getD_eq_getD_getElem?, hy']
    exact .tuple .nil

theorem aRes_good (r : Rel μ h w) {t : List AVal} {tm : Array Value} (ht : VRs μ t tm.toList) {g : ResultVar → Sem Value} (hg : ∀ i, g (.tmp i) = pure (tm.getD i undef))
    (hc : ∀ i ty, g (.cell i ty) = do loadVar ty (← asAddr (tm.getD i undef))) : ∀ {l : List ResultVar} {vs : List AVal}, aRes P t h l = some vs → ∃ vs', (l.mapM g).run P w = .ok vs' w ∧ VRs μ vs vs'
  | [], vs, e => by
      simp only [aRes, Option.some.injEq] at e
      subst e
      exact ⟨[], by simp, .nil⟩
  | .tmp i :: l, vs, e => by
      simp only [aRes, Option.map_eq_some_iff] at e
      obtain ⟨r', hr, rfl⟩ := e
      obtain ⟨vs', h1, h2⟩ := aRes_good r ht hg hc hr
      exact ⟨_ :: vs', by simp only [List.mapM_cons, Sem.run_bind, hg, Sem.run_pure, Result.andThen_ok, h1], .cons (tmp_good ht i) h2⟩
  | .cell i ty :: l, vs, e => by
      simp only [aRes, Option.bind_eq_some_iff, Option.map_eq_some_iff] at e
      obtain ⟨v, hv, r', hr, rfl⟩ := e
      obtain ⟨vs', h1, h2⟩ := aRes_good r ht hg hc hr
      have hi := tmp_good ht i
      obtain ⟨v', hrun, hvr⟩ := aLoad_good (P := P) (w := w) r hv hi
      refine ⟨v' :: vs', ?_, .cons hvr h2⟩
      have hasA : ((asAddr (tm.getD i undef)).run P w).andThen (fun a w' => (loadVar ty a).run P w') = .ok v' w := by
        unfold aLoad at hv
        split at hv
        · rename_i q off hq
          rw [hq] at hi
          generalize tm.getD i undef = tv at hi hrun ⊢
          cases hi
          simp only [Instr.loadAt, Instr.sureAddr, Sem.run_bind, Sem.run_pure, Result.andThen_ok] at hrun
          simp only [asAddr, Sem.run_pure, Result.andThen_ok]
          exact hrun
        · cases hv
      simp only [List.mapM_cons, Sem.run_bind, hc, hasA, Sem.run_pure, Result.andThen_ok, h1]

theorem results_eq (fn : Func) (tm : Array Value) : ∃ g : ResultVar → Sem Value, (∀ i, g (.tmp i) = pure (tm.getD i undef)) ∧ (∀ i ty, g (.cell i ty) = do loadVar ty (← asAddr (tm.getD i undef))) ∧
    results fn tm = (do let vs ← fn.results.mapM g; pure (if h : vs.size = 1 then vs[0] else .tuple vs)) := by
  refine ⟨_, ?_, ?_, rfl⟩
  · intro i; rfl
  · intro i ty; rfl
theorem aResults_good (r : Rel μ h w) {fn : Func} {t : List AVal} {tm : Array Value} (ht : VRs μ t tm.toList) {v : AVal} (hr : aResults P fn t h = some v) : ∃ v', (results fn tm).run P w = .ok v' w ∧ VR μ v v' := by
  unfold aResults at hr
  simp only [Option.map_eq_some_iff] at hr
  obtain ⟨vs, hvs, rfl⟩ := hr
  obtain ⟨g, hg, hc, he⟩ := results_eq fn tm
  rw [he, Array.mapM_eq_mapM_toList]
  simp only [Sem.run_bind, Sem.run_map]
  obtain ⟨vs', h1, h2⟩ := aRes_good r ht hg hc hvs
  refine ⟨if h : vs'.toArray.size = 1 then vs'.toArray[0] else .tuple vs'.toArray, ?_, ?_⟩
  · rw [h1]; rfl
  · match vs, vs', h2 with
    | [], [], _ => simpa [oneOf] using VR.tuple (a' := #[]) .nil
    | [x], [y], .cons h _ => simpa [oneOf] using h
    | x :: y :: l, x' :: y' :: l', h => simp [oneOf]; exact .tuple (by simpa using h)

/-- What 'call' says of deferred functions holds. -/
def CallDSound (P : Program) (gl : List Nat) (call : ACall) : Prop :=
  ∀ f args h r h', call f args h = some (r, h') → Enters P f ∧ ∀ (μ : Mu) (w : World) (cargs : Array Value) (u : FrameMode), Rel μ h w → GOK gl μ → VRs μ args cargs.toList →
    CallsD P f cargs u w fun e u' w' => u' = u ∧ CallPost μ h w r h' e w'

theorem aLeave_good {callD : ACall} (hcd : CallDSound P gl callD) {fn : Func} {tm : Array Value} {R : Ending → World → Prop} : ∀ (ds : List ADef) (cs : List Deferred) (μ : Mu) (h h' : AH) (w : World), DefsR μ ds cs → Rel μ h w → GOK gl μ →
    aLeave callD ds h = some h' → (∀ μ' w', Rel μ' h' w' → GOK gl μ' → μ.le μ' → Ext μ h w μ' h' w' → ∃ v, (results fn tm).run P w' = .ok v w' ∧ R (.returned v) w') → Leaves P fn tm R cs .returning w
  | [], [], μ, h, h', w, _, r, g, hl, hR => by
      simp only [aLeave, Option.some.injEq] at hl
      subst hl
      exact hR μ w r g (Mu.le_refl _) (Ext.refl _ _ _)
  | d :: ds, [], _, _, _, _, hd, _, _, _, _ => by cases hd
  | [], c :: cs, _, _, _, _, hd, _, _, _, _ => by cases hd
  | (q, args) :: ds, c :: cs, μ, h, h', w, hd, r, g, hl, hR => by
      cases hd with
      | cons hc hds =>
        obtain ⟨cap, ht, hargs⟩ := hc
        obtain ⟨tg, dargs⟩ := c
        simp only at ht hargs
        subst ht
        simp only [aLeave] at hl
        split at hl
        · rename_i v h1 hcall
          obtain ⟨hen, hcalls⟩ := hcd _ _ _ _ _ hcall
          refine leaves_cons (f := q) (args := dargs ++ cap) (by simp) (by simp only [invoke]; exact callFunc_run hen _) ?_
          refine CallsD.mono (hcalls μ w (dargs ++ cap) .returning r g hargs) ?_
          rintro e u' w' ⟨rfl, μ', v', rfl, hv, hrel, hext⟩
          simp only
          have hle := hext.le r
          exact aLeave_good hcd ds cs μ' h1 h' w' (hds.mono hle) hrel (g.mono hle) hl fun μ2 w2 r2 g2 l2 e2 => hR μ2 w2 r2 g2 (Mu.le_trans hle l2) (hext.trans e2)
        · cases hl

theorem start_tmps {fn : Func} {args : List AVal} {cargs : Array Value} (ha : VRs μ args cargs.toList) :
    VRs μ (args ++ List.replicate (fn.ntmps - args.length) (.tuple [])) (cargs ++ Array.replicate (fn.ntmps - cargs.size) undef).toList := by
  have hl := ha.length
  simp only [Array.toList_append, Array.toList_replicate]
  rw [show fn.ntmps - cargs.size = fn.ntmps - args.length by simp at hl; omega]
  exact ha.append (VRs.replicate _ (.tuple .nil))

theorem aBody_calls (hcall : CallSound P gl call) {callD : ACall} (hcd : CallDSound P gl callD) {ok : Array Oper → Bool} {draw : Array Oper → St → Option St} (hdraw : DrawSound P gl ok draw) (hok : ∀ (f : FuncId) (fn : Func) (c : Code), P.funcs[f]? = some fn → fn.body = some c → regsOk ok c = true) (hng : ∀ (f : FuncId) (fn : Func), P.funcs[f]? = some fn → (fn.name == "runtime.NumGoroutine") = false) :
    CallSound P gl (aBody P gl call callD draw) := by
  intro f args h r h' hb
  unfold aBody at hb
  split at hb
  · cases hb
  rename_i fn hf
  split at hb
  · cases hb
  rename_i c hc
  refine .inl ⟨⟨fn, hf, by rw [hc]; rfl, hng f fn hf⟩, ?_⟩
  intro μ w cargs hr hg ha
  have sr : SR gl μ ⟨args ++ List.replicate (fn.ntmps - args.length) (.tuple []), [], h⟩ { tmps := cargs ++ Array.replicate (fn.ntmps - cargs.size) undef, defers := [] } w := ⟨start_tmps ha, .nil, hr, hg⟩
  refine calls_of_wp_defers hf hc ?_
  have fin : ∀ (s : St) (a' : Act) (w' : World) (μ' : Mu), ((aLeave callD s.d s.h).bind fun h' => (aResults P fn s.t h').map fun v => (v, h')) = some (r, h') → SR gl μ' s a' w' → Ext μ h w μ' s.h w' →
      Leaves P fn a'.tmps (CallPost μ h w r h') a'.defers .returning w' := by
    intro s a' w' μ' hl hs he
    simp only [Option.bind_eq_some_iff, Option.map_eq_some_iff, Prod.mk.injEq] at hl
    obtain ⟨h2, hl, v, hv, rfl, rfl⟩ := hl
    refine aLeave_good hcd s.d a'.defers μ' s.h h2 w' hs.d hs.r hs.g hl fun μ2 w2 r2 g2 l2 e2 => ?_
    obtain ⟨v', hrun, hvr⟩ := aResults_good (P := P) r2 (hs.t.mono l2) hv
    exact ⟨v', hrun, μ2, v', rfl, hvr, r2, he.trans e2⟩
  split at hb
  · rename_i s hs
    refine wp_mono (aCode_wp hcall hdraw c (hok f fn c hf hc) _ _ _ hs μ _ w sr) ?_
    rintro e a' w' ⟨hx, μ', hs', he'⟩
    cases e <;> simp only [ExitR] at hx
    exact fin s a' w' μ' hb hs' he'
  · rename_i s hs
    refine wp_mono (aCode_wp hcall hdraw c (hok f fn c hf hc) _ _ _ hs μ _ w sr) ?_
    rintro e a' w' ⟨hx, μ', hs', he'⟩
    cases e <;> simp only [ExitR] at hx
    exact fin s a' w' μ' hb hs' he'
  · cases hb

theorem aBodyD_calls (hcall : CallSound P gl call) {ok : Array Oper → Bool} {draw : Array Oper → St → Option St} (hdraw : DrawSound P gl ok draw) (hok : ∀ (f : FuncId) (fn : Func) (c : Code), P.funcs[f]? = some fn → fn.body = some c → regsOk ok c = true) (hng : ∀ (f : FuncId) (fn : Func), P.funcs[f]? = some fn → (fn.name == "runtime.NumGoroutine") = false) :
    CallDSound P gl (aBodyD P gl call draw) := by
  intro f args h r h' hb
  unfold aBodyD aBody at hb
  split at hb
  · cases hb
  rename_i fn hf
  split at hb
  · cases hb
  rename_i c hc
  refine ⟨⟨fn, hf, by rw [hc]; rfl, hng f fn hf⟩, ?_⟩
  intro μ w cargs u hr hg ha
  have sr : SR gl μ ⟨args ++ List.replicate (fn.ntmps - args.length) (.tuple []), [], h⟩ { tmps := cargs ++ Array.replicate (fn.ntmps - cargs.size) undef, defers := [] } w := ⟨start_tmps ha, .nil, hr, hg⟩
  refine callsD_of_wp hf hc ?_
  have fin : ∀ (s : St) (a' : Act) (w' : World) (μ' : Mu), ((aLeave (fun _ _ _ => none) s.d s.h).bind fun h' => (aResults P fn s.t h').map fun v => (v, h')) = some (r, h') → SR gl μ' s a' w' → Ext μ h w μ' s.h w' →
      a'.defers = [] ∧ ∃ v, (results fn a'.tmps).run P w' = .ok v w' ∧ CallPost μ h w r h' (.returned v) w' := by
    intro s a' w' μ' hl hs he
    simp only [Option.bind_eq_some_iff, Option.map_eq_some_iff, Prod.mk.injEq] at hl
    obtain ⟨h2, hl, v, hv, rfl, rfl⟩ := hl
    have hd := hs.d
    cases hsd : s.d with
    | cons d ds => rw [hsd] at hl; simp [aLeave] at hl
    | nil =>
      rw [hsd] at hl hd
      simp only [aLeave, Option.some.injEq] at hl
      subst hl
      generalize hde : a'.defers = ds at hd
      cases hd
      obtain ⟨v', hrun, hvr⟩ := aResults_good (P := P) hs.r hs.t hv
      exact ⟨rfl, v', hrun, μ', v', rfl, hvr, hs.r, he⟩
  split at hb
  · rename_i s hs
    refine wp_mono (aCode_wp hcall hdraw c (hok f fn c hf hc) _ _ _ hs μ _ w sr) ?_
    rintro e a' w' ⟨hx, μ', hs', he'⟩
    cases e <;> simp only [ExitR] at hx
    exact fin s a' w' μ' hb hs' he'
  · rename_i s hs
    refine wp_mono (aCode_wp hcall hdraw c (hok f fn c hf hc) _ _ _ hs μ _ w sr) ?_
    rintro e a' w' ⟨hx, μ', hs', he'⟩
    cases e <;> simp only [ExitR] at hx
    exact fin s a' w' μ' hb hs' he'
  · cases hb
end Go.Proofs.Ytfppdfmffdkogaa.AI
