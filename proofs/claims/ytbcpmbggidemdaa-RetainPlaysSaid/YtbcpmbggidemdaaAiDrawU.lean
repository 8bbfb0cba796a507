/- Regions that draw their order: the theorem, and calls to any depth. -/
import Derived.Test.YtbcpmbggidemdaaAiDrawT
namespace Go.Proofs.Ytbcpmbggidemdaa.AI
open Go
set_option linter.unusedSimpArgs false

variable {P : Program} {gl : List Nat} {call : ACall}

theorem PendOK.other {ops : Array Oper} {V : Nat → AVal} {N : Nat → Nat} {M : List Nat} {t0 : List AVal} {h h' : AH} {n0 : Nat} {rs rs' : List QRec} {j : Nat} {pre : List Nat} {μ μ' : Mu}
    (k : PendOK P gl ops V N M t0 h μ n0 rs j pre) (hrs : ∀ r ∈ rs, r.i = j → r ∈ rs') (hμ : j ∈ M → μ (N j) = none → μ' (N j) = none ∧ h'.get (N j) = h.get (N j)) : PendOK P gl ops V N M t0 h' μ' n0 rs' j pre := by
  cases k with
  | skip o ho hw hv => exact .skip o ho hw hv
  | quiet o ho hw hk hr => exact .quiet o ho hw hk (hr.imp id fun h => hrs _ h rfl)
  | make o ho hw hk pl hm hM hv hn h0 hg => exact .make o ho hw hk pl hm hM hv (hμ hM hn).1 h0 ((hμ hM hn).2.trans hg)

theorem okAt_get {h : AH} {rs : List QRec} (hok : okAt P gl h rs = true) {r : QRec} (hr : r ∈ rs) : aQ P (aEval gl r.t) r.op h = some r.v := by
  unfold okAt at hok
  rw [List.all_eq_true] at hok
  have := hok r hr
  split at this
  · rename_i v hv
    rw [hv, AVal.eq_of_same _ _ this]
  · cases this

theorem put_defers {a : Act} {ds : List ADef} {μ : Mu} (h : DefsR μ ds a.defers) (dst : Option Tmp) (v : Value) : DefsR μ ds (a.put dst v).defers := by
  cases dst <;> exact h

theorem draw_any (hcall : CallSound P gl call) {ops : Array Oper} {σ : List Nat} (st : Stat P ops σ) {t0 : List AVal} {fin : List AVal × AH} {ds : List ADef} {Q : Exit → Act → World → Prop} {μ0 : Mu} {h0 : AH} {w0 : World}
    (hQ : ∀ (a : Act) (w : World) (μ : Mu), VRs μ fin.1 a.tmps.toList → DefsR μ ds a.defers → Rel μ fin.2 w → GOK gl μ → Ext μ0 h0 w0 μ fin.2 w → Q .normal a w) :
    ∀ (fuel : Nat) (listed : Array Bool) (p done todo : List Nat) (V : Nat → AVal) (N : Nat → Nat) (M : List Nat) (h : AH) (rs : List QRec) (μ : Mu) (a : Act) (w : World),
      Far P gl call ops σ t0 h0.n fin p done todo V N M h rs μ → AtBound P ops (tA ops V t0 done) todo → Topo (ancTab ops) p → LR ops listed p → (∀ i ∈ p, i ∈ σ) → left σ p = fuel →
      VRs μ (tA ops V t0 p) a.tmps.toList → DefsR μ ds a.defers → Rel μ h w → GOK gl μ → Ext μ0 h0 w0 μ h w → wpAny P .any ops Q fuel listed a w := by
  intro fuel
  induction fuel with
  | zero =>
    intro listed p done todo V N M h rs μ a w F hb tp lr hps hl ht hd hr hg he
    have hfull := left_zero hl
    have hready : Region.ready .any ops listed = [] := by
      cases hx : Region.ready .any ops listed with
      | nil => rfl
      | cons j l =>
        obtain ⟨hj, hjp, _⟩ := lr.ready (j := j) (by rw [hx]; simp)
        exact absurd (hfull j (st.full j hj)) hjp
    refine ⟨hready, ?_⟩
    have hnd : (done.reverse ++ todo).Nodup := F.all ▸ st.nodup
    have htodo : todo = [] := by
      cases todo with
      | nil => rfl
      | cons e rest =>
        exfalso
        have h1 : e ∈ done := F.sub e (hfull e (by rw [F.all]; simp))
        rw [List.nodup_append] at hnd
        exact hnd.2.2 e (by simpa using h1) e (by simp) rfl
    subst htodo
    have hrun := F.run
    simp only [aDrawGo] at hrun
    split at hrun
    · simp only [Option.some.injEq] at hrun
      have hσ : σ = done.reverse := by rw [F.all]; simp
      have hsame := same_all st tp (show Topo (ancTab ops) done by have := st.topo; rw [hσ] at this; simpa using this) (fun i => ⟨fun hi => F.sub i hi, fun hi => hfull i (by rw [hσ]; simpa using hi)⟩) V t0
      refine hQ a w μ ?_ hd ?_ hg ?_
      · rw [← hrun]; simp only; rw [← hsame]; exact ht
      · rw [← hrun]; exact hr
      · rw [← hrun]; exact he
    · cases hrun
  | succ fuel ih =>
    intro listed p done todo V N M h rs μ a w F hb tp lr hps hl ht hd hr hg he
    have hnd : (done.reverse ++ todo).Nodup := F.all ▸ st.nodup
    have hok := bound_ok hb F.run
    constructor
    · intro hnil
      exfalso
      obtain ⟨pre, j, post, hσ, hjp, hall⟩ := left_first (σ := σ) (p := p) (by rw [hl]; omega)
      have hrev : σ.reverse = post.reverse ++ j :: pre.reverse := by rw [hσ]; simp
      obtain ⟨o, ho, hedge⟩ := st.edge _ _ _ hrev
      have := lr.ready_of ho hjp fun e he hb => by
        obtain ⟨h1, h2⟩ := hedge e he hb
        exact ⟨hall _ (by simpa using h1), h2⟩
      rw [hnil] at this
      cases this
    · intro j hj
      obtain ⟨hjn, hjp, o, ho, hedge⟩ := lr.ready hj
      have hanc : ∀ i, isAnc (ancTab ops) i j = true → i ∈ p := by
        intro i hi
        obtain ⟨o', ho', e, hem, heb, hei⟩ := isAnc_spec hi
        rw [ho] at ho'
        simp only [Option.some.injEq] at ho'
        subst ho'
        rcases hei with rfl | ⟨_, hei⟩
        · exact (hedge e hem heb).1
        · exact tp.anc (hedge e hem heb).1 hei
      have hjσ := st.full j hjn
      have tp' : Topo (ancTab ops) (j :: p) := .cons hjp hanc tp
      have lr' := lr.step hjn
      have hps' : ∀ i ∈ j :: p, i ∈ σ := fun i hi => by
        rcases List.mem_cons.1 hi with rfl | hi
        · exact hjσ
        · exact hps i hi
      have hl' : left σ (j :: p) = fuel := by have := left_step st.nodup hjσ hjp; omega
      have htlen : (tA ops V t0 p).length = t0.length := tA_length _ _ _ _
      -- the same operation, in the order that was walked
      have atp : ∀ (x pre : List Nat), σ.reverse = x ++ j :: pre → aWanted ops (tA ops V t0 pre) o = aWanted ops (tA ops V t0 p) o ∧
          (∀ hh, aQ P (aEval gl (tA ops V t0 pre)) o.op hh = aQ P (aEval gl (tA ops V t0 p)) o.op hh) ∧ aM P (aEval gl (tA ops V t0 pre)) o.op = aM P (aEval gl (tA ops V t0 p)) o.op ∧
          (∀ hh, aE P call (aEval gl (tA ops V t0 pre)) o.op hh = aE P call (aEval gl (tA ops V t0 p)) o.op hh) := by
        intro x pre hx
        have hs := same_slots st tp ho hjp hanc hx V t0
        have hev := eval_slots (gl := gl) (o := o) (ops := ops) (fun s hs' => (hs s hs').symm)
        exact ⟨wanted_slots fun s hs' => (hs s hs').symm, fun hh => aQ_congr hev hh, aM_congr hev, fun hh => aE_congr hev hh⟩
      have env := aEval_good hg ht
      -- on, once the operation has yielded V j
      have on : ∀ (h' : AH) (rs' : List QRec) (μ' : Mu) (w' : World) (v' : Value), VR μ' (V j) v' → j ∈ done → Far P gl call ops σ t0 h0.n fin (j :: p) done todo V N M h' rs' μ' → AtBound P ops (tA ops V t0 done) todo → μ.le μ' → Rel μ' h' w' → Ext μ0 h0 w0 μ' h' w' →
          wpAny P .any ops Q fuel (listed.setIfInBounds j true) (a.put o.dst v') w' := by
        intro h' rs' μ' w' v' hv hjd F' hb' hle hr' he'
        refine ih _ (j :: p) done todo V N M h' rs' μ' _ w' F' hb' tp' lr' hps' hl' ?_ (put_defers (hd.mono hle) _ _) hr' (hg.mono hle) he'
        have : tA ops V t0 (j :: p) = aPut (tA ops V t0 p) o.dst (V j) := by simp [tA, dstOf, ho]
        rw [this]
        exact aPut_good (ht.mono hle) _ hv
      unfold wpOp
      rw [ho]
      simp only
      by_cases hjd : j ∈ done
      · obtain ⟨x, pre, hx⟩ := List.append_of_mem hjd
        have hσx : σ.reverse = (todo.reverse ++ x) ++ j :: pre := by rw [F.all]; simp [hx]
        obtain ⟨e1, e2, e3, e4⟩ := atp _ _ hσx
        have F' : ∀ {h' rs' μ'}, (∀ i ∈ M, i ∉ j :: p → μ (N i) = none → μ' (N i) = none ∧ h'.get (N i) = h.get (N i)) → h' = h → rs' = rs → Far P gl call ops σ t0 h0.n fin (j :: p) done todo V N M h' rs' μ' := by
          rintro h' rs' μ' hm rfl rfl
          refine ⟨F.all, F.run, fun i hi => ?_, fun i pre' x' hx' hi => ?_, F.inj, F.lt, F.mdone, F.nle⟩
          · rcases List.mem_cons.1 hi with rfl | hi
            · exact hjd
            · exact F.sub i hi
          · exact (F.pend i pre' x' hx' (fun h => hi (List.mem_cons_of_mem _ h))).other (fun r hr _ => hr) fun hM hn => hm i hM hi hn
        cases F.pend j pre x hx hjp with
        | skip o' ho' hw hv =>
          rw [ho] at ho'
          simp only [Option.some.injEq] at ho'
          subst ho'
          rw [e1] at hw
          rw [aWanted_good ht hw]
          simp only [Bool.false_eq_true, if_false]
          exact on h rs μ w undef (by rw [hv]; exact .tuple .nil) hjd (F' (fun i _ _ hn => ⟨hn, rfl⟩) rfl rfl) hb (Mu.le_refl _) hr he
        | quiet o' ho' hw hk hq =>
          rw [ho] at ho'
          simp only [Option.some.injEq] at ho'
          subst ho'
          rw [e1] at hw
          rw [aWanted_good ht hw]
          simp only [if_true]
          refine .inl ?_
          have hq' : aQ P (aEval gl (tA ops V t0 p)) o.op h = some (V j) := by
            rw [← e2]
            rcases hq with ⟨hl1, h1, hq⟩ | hq
            · rw [aQ_heapless hl1 h h1]; exact hq
            · exact okAt_get hok hq
          obtain ⟨v', hrun, hv⟩ := aQ_good hr env hq'
          unfold Oper.wp
          rw [hrun, Oper.upon_value]
          exact on h rs μ w v' hv hjd (F' (fun i _ _ hn => ⟨hn, rfl⟩) rfl rfl) hb (Mu.le_refl _) hr he
        | make o' ho' hw hk pl hm hM hv hn hn0 hget =>
          rw [ho] at ho'
          simp only [Option.some.injEq] at ho'
          subst ho'
          rw [e1] at hw
          rw [aWanted_good ht hw]
          simp only [if_true]
          refine .inl ?_
          rw [e3] at hm
          obtain ⟨s, hs, hpg⟩ := aM_good (w := w) env hm
          obtain ⟨v', w', μ', hrun, hle, hoth, hvr, hrel, hos, htape, hout, hsz, hkeep, hnew⟩ := ghost_new hr hpg (F.lt j hM) hn hget
          unfold Oper.wp
          rw [hs, v_run hrun, Oper.upon_value]
          refine on h rs μ' w' v' (by rw [hv]; exact hvr) hjd (F' (fun i hiM hi hin => ?_) rfl rfl) hb hle hrel ?_
          · have hij : i ≠ j := fun e => hi (by rw [e]; simp)
            exact ⟨by rw [hoth _ (F.inj i j hiM hM hij)]; exact hin, rfl⟩
          · refine ⟨he.n_le, fun i hi => ?_, fun i hi him => he.ghost i hi him, hos.trans he.os, htape.trans he.tape, hout.trans he.output, Nat.le_trans he.size hsz, fun cb hc hnr => ?_, ?_⟩
            · rw [hoth i (by omega)]; exact he.mu i hi
            · rw [hkeep cb (Nat.lt_of_lt_of_le hc he.size)]; exact he.keep cb hc hnr
            · rintro cb hc ⟨i, m, b, hi, hcb, hg2, hrw⟩
              by_cases hin : i = N j
              · subst hin
                have := hnew m hi
                have := he.size
                omega
              · rw [hoth i hin] at hi
                exact he.rw cb hc ⟨i, m, b, hi, hcb, hg2, hrw⟩
      · -- the next write
        have hjt : j ∈ todo := by
          rw [F.all] at hjσ
          rcases List.mem_append.1 hjσ with h1 | h1
          · exact absurd (by simpa using h1) hjd
          · exact h1
        rcases hb with rfl | ⟨e, rest, oe, rfl, hoe, hke, hwe⟩
        · cases hjt
        have hje : j = e := by
          rcases List.mem_cons.1 hjt with h1 | h1
          · exact h1
          · exfalso
            obtain ⟨y, z, hz⟩ := List.append_of_mem h1
            have hσx : σ.reverse = z.reverse ++ j :: (y.reverse ++ e :: done) := by rw [F.all, hz]; simp
            have := st.eff _ _ _ hσx e (by simp) (by unfold isEff; rw [hoe]; simp [hke])
            have hep := F.sub e (hanc e this)
            rw [List.nodup_append] at hnd
            exact hnd.2.2 e (by simpa using hep) e (by simp) rfl
        subst hje
        rw [ho] at hoe
        simp only [Option.some.injEq] at hoe
        subst hoe
        have hσx : σ.reverse = rest.reverse ++ j :: done := by rw [F.all]; simp
        obtain ⟨e1, e2, e3, e4⟩ := atp _ _ hσx
        rw [e1] at hwe
        rw [aWanted_good ht hwe]
        simp only [if_true]
        refine .inl ?_
        have hrun := F.run
        simp only [aDrawGo, ho, e1, hwe, hke, hok, if_true] at hrun
        split at hrun
        · rename_i v h1 hE
          rw [e4] at hE
          have hop : aOp P call (aEval gl (tA ops V t0 p)) o.op h = some (v, h1) := by simp only [aOp, hke]; exact hE
          refine aOp_wp hcall hr hg env hop fun v' w' μ' hv hrel hext => ?_
          have hle := hext.le hr
          have hV : ∀ k ∈ done, (fun k => if k = j then v else V k) k = V k := fun k hk => by
            have hki : k ≠ j := fun e => hjd (e ▸ hk)
            show (if k = j then v else V k) = V k
            rw [if_neg hki]
          have hVj : (fun k => if k = j then v else V k) j = v := by show (if j = j then v else V j) = v; rw [if_pos rfl]
          generalize (fun k => if k = j then v else V k) = V' at hV hVj
          have htd : tA ops V' t0 (j :: done) = aPut (tA ops V t0 done) o.dst v := by
            simp only [tA, hVj]
            rw [tA_congr hV]
            simp [dstOf, ho]
          have F1 : Far P gl call ops σ t0 h0.n fin (j :: p) (j :: done) rest V' N M h1 (rs.filter fun r => !isAnc (ancTab ops) r.i j) μ' := by
            refine ⟨by rw [F.all]; simp, by rw [htd]; exact hrun, fun i hi => ?_, fun i pre' x' hx' hi => ?_, F.inj, fun i hi => Nat.lt_of_lt_of_le (F.lt i hi) hext.n_le, fun i hi => List.mem_cons_of_mem _ (F.mdone i hi), Nat.le_trans F.nle hext.n_le⟩
            · rcases List.mem_cons.1 hi with rfl | hi
              · simp
              · exact List.mem_cons_of_mem _ (F.sub i hi)
            · cases x' with
              | nil =>
                simp only [List.nil_append, List.cons.injEq] at hx'
                obtain ⟨rfl, _⟩ := hx'
                exact absurd (by simp) hi
              | cons y x' =>
                simp only [List.cons_append, List.cons.injEq] at hx'
                obtain ⟨rfl, hx'⟩ := hx'
                have hip : i ∉ p := fun h => hi (List.mem_cons_of_mem _ h)
                have hid : i ∈ done := by rw [hx']; simp
                have k1 := (F.pend i pre' x' hx' hip).mono (V' := V') (N' := N) (M' := M) (h' := h) (rs' := rs) (fun q hq => hV q (by rw [hx']; simp only [List.mem_append]; exact .inr hq)) rfl (fun _ h => h) (fun _ h => h) (fun _ _ => rfl) F.lt
                refine k1.other (fun q hq hqi => ?_) fun hiM hn => ?_
                · rw [List.mem_filter]
                  refine ⟨hq, ?_⟩
                  cases hx2 : isAnc (ancTab ops) q.i j with
                  | false => rfl
                  | true => exact absurd (hqi ▸ hanc _ hx2) hip
                · have hlt := F.lt i hiM
                  exact ⟨by rw [hext.mu _ hlt]; exact hn, hext.ghost _ hlt hn⟩
          obtain ⟨d', t', V2, N2, M2, h2, rs2, F2, hb2, hV2, hr2, he2⟩ := advance (w := w') (μ0 := μ0) (h0 := h0) (w0 := w0) rest (j :: done) V' N M h1 _ F1 st.nodup (fun i hi => F1.sub i hi) hrel (he.trans hext) (Nat.le_trans he.n_le hext.n_le)
          refine ih _ (j :: p) d' t' V2 N2 M2 h2 rs2 μ' _ w' F2 hb2 tp' lr' hps' hl' ?_ (put_defers (hd.mono hle) _ _) hr2 (hg.mono hle) he2
          have hVp : tA ops V2 t0 (j :: p) = aPut (tA ops V t0 p) o.dst v := by
            simp only [tA]
            rw [hV2 j (by simp), hVj, tA_congr (p := p) (V' := V) fun i hi => by rw [hV2 i (List.mem_cons_of_mem _ (F.sub i hi)), hV i (F.sub i hi)]]
            simp [dstOf, ho]
          rw [hVp]
          exact aPut_good (ht.mono hle) _ hv
        · cases hrun

theorem aDraw_sound (hcall : CallSound P gl call) (hmix : P.follows .mixedOrders = true) : DrawSound P gl (drawOk P) (aDraw P gl call) := by
  intro ops s s' hok hd μ id a w hs
  unfold aDraw at hd
  simp only [Option.map_eq_some_iff, Prod.exists] at hd
  obtain ⟨t, h', hgo, rfl⟩ := hd
  have st := drawOk_stat hok
  refine wp_region_any hmix ?_
  have hr : Rel μ s.h { w with drawn := w.drawn + 1 } := hs.r.drew _
  have he : Ext μ s.h w μ s.h { w with drawn := w.drawn + 1 } := Ext.drew _
  have F0 : Far P gl call ops (asap P ops) s.t s.h.n (t, h') [] [] (asap P ops) (fun _ => .any) (fun _ => 0) [] s.h [] μ :=
    ⟨by simp, hgo, by simp, fun j pre x hx _ => by simp at hx, by simp, by simp, by simp, Nat.le_refl _⟩
  obtain ⟨d', t', V2, N2, M2, h2, rs2, F2, hb2, hV2, hr2, he2⟩ := advance (w := { w with drawn := w.drawn + 1 }) (μ0 := μ) (h0 := s.h) (w0 := w) _ [] _ _ [] s.h [] F0 st.nodup (by simp) hr he (Nat.le_refl _)
  refine draw_any hcall st (ds := s.d) (fin := (t, h')) (μ0 := μ) (h0 := s.h) (w0 := w) ?_ ops.size _ [] d' t' V2 N2 M2 h2 rs2 μ a _ F2 hb2 .nil ⟨by simp, fun i hi => ?_⟩ (by simp) ?_ hs.t hs.d hr2 hs.g he2
  · intro a' w' μ' h1 h2 h3 h4 h5
    exact ⟨trivial, μ', ⟨h1, h2, h3, h4⟩, h5⟩
  · simp [hi]
  · unfold left
    rw [List.filter_eq_self.2 (by simp)]
    exact st.len

/-- Calls that are not walked: what is proved of them by hand. -/
abbrev AOver := FuncId → Option (List AVal → AH → Option (AVal × AH))
def noOver : AOver := fun _ => none
/-- Calls to a depth. -/
def acall (P : Program) (gl : List Nat) (ov : AOver) : Nat → FuncId → List AVal → AH → Option (AVal × AH)
  | 0, _, _, _ => none
  | n + 1, f, args, h =>
    match ov f with
    | some g => g args h
    | none => aBody P gl (acall P gl ov n) (aBodyD P gl (acall P gl ov n) (aDraw P gl (acall P gl ov n))) (aDraw P gl (acall P gl ov n)) f args h

/-- What is asked of a program. -/
structure ProgOk (P : Program) : Prop where
  mix : P.follows .mixedOrders = true
  regs : ∀ (f : FuncId) (fn : Func) (c : Code), P.funcs[f]? = some fn → fn.body = some c → regsOk (drawOk P) c = true
  names : ∀ (f : FuncId) (fn : Func), P.funcs[f]? = some fn → (fn.name == "runtime.NumGoroutine") = false
def progOk (P : Program) : Bool := P.follows .mixedOrders && P.funcs.toList.all fun fn => !(fn.name == "runtime.NumGoroutine") && (match fn.body with | some c => regsOk (drawOk P) c | none => true)
theorem progOk_spec (h : progOk P = true) : ProgOk P := by
  unfold progOk at h
  simp only [Bool.and_eq_true, List.all_eq_true, Bool.not_eq_true'] at h
  obtain ⟨h1, h2⟩ := h
  have hm : ∀ (f : FuncId) (fn : Func), P.funcs[f]? = some fn → fn ∈ P.funcs.toList := fun f fn hf => by
    have := Array.mem_of_getElem? hf
    simpa using this
  refine ⟨h1, fun f fn c hf hc => ?_, fun f fn hf => (h2 fn (hm f fn hf)).1⟩
  have := (h2 fn (hm f fn hf)).2
  rw [hc] at this
  exact this

/-- What the abstract machine says of a call holds of the model. -/
theorem acall_sound (hP : ProgOk P) {ov : AOver} (hov : ∀ f g, ov f = some g → CallSound P gl (fun f' args h => if f' = f then g args h else none)) : ∀ n, CallSound P gl (acall P gl ov n)
  | 0 => fun f args h r h' hc => by simp [acall] at hc
  | n + 1 => fun f args h r h' hc => by
      have ih := acall_sound hP hov n
      simp only [acall] at hc
      split at hc
      · rename_i g hg
        exact hov f g hg f args h r h' (by simpa using hc)
      · have hd := aDraw_sound ih hP.mix
        exact aBody_calls ih (aBodyD_calls ih hd hP.regs hP.names) hd hP.regs hP.names f args h r h' hc
end Go.Proofs.Ytbcpmbggidemdaa.AI
