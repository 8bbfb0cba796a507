/- Regions that draw their order: what is walked in one order holds of every order. -/
import Derived.Test.YtbcpmbggidemdaaAiDraw
namespace Go.Proofs.Ytbcpmbggidemdaa.AI
open Go
set_option linter.unusedSimpArgs false

variable {P : Program} {μ : Mu} {h : AH} {w : World} {gl : List Nat} {call : ACall}

theorem map_env {ρ ρ' : AEnv} {l : List Operand} (h : ∀ x ∈ l, ρ x = ρ' x) : l.map ρ = l.map ρ' := List.map_congr_left h
theorem parts_env {ρ ρ' : AEnv} {ps : Array (Nat × Operand)} (h : ∀ x ∈ (ps.toList.map (·.2)).toArray, ρ x = ρ' x) : aParts ρ ps = aParts ρ' ps := by
  unfold aParts
  refine List.map_congr_left fun p hp => ?_
  rw [h p.2 (by simpa using ⟨p.1, by simpa using hp⟩)]

theorem aQ_congr {ρ ρ' : AEnv} {op : Op} (h : ∀ x ∈ op.operands, ρ x = ρ' x) (hp : AH) : aQ P ρ op hp = aQ P ρ' op hp := by
  unfold aQ
  split <;> simp only [Op.operands, Call.operands] at h
  case h_1 x => rw [h x (by simp)]
  case h_2 x => rw [h x (by simp)]
  case h_3 c a b => rw [h c (by simp), h a (by simp), h b (by simp)]
  case h_4 t ps => rw [parts_env h]
  case h_5 t a => rw [h a (by simp)]
  case h_6 x => rw [h x (by simp)]
  case h_7 op t x y _ => rw [h x (by simp), h y (by simp)]
  case h_8 op t x => rw [h x (by simp)]
  case h_9 s d x => rw [h x (by simp)]
  case h_10 t x => rw [h x (by simp)]
  case h_11 fn a b => rw [map_env fun x hx => h x (by simp at hx ⊢; exact .inl hx), map_env fun x hx => h x (by simp at hx ⊢; exact .inr hx)]
  case h_12 t x lo hi mx =>
    have h1 : lo.map ρ = lo.map ρ' := by cases lo <;> simp_all
    have h2 : hi.map ρ = hi.map ρ' := by cases hi <;> simp_all
    have h3 : mx.map ρ = mx.map ρ' := by cases mx <;> simp_all
    rw [h x (by simp), h1, h2, h3]
  case h_13 s x f => rw [h x (by simp)]
  case h_14 t x f => rw [h x (by simp)]
  case h_15 t x i => rw [h x (by simp), h i (by simp)]
  case h_16 t x i => rw [h x (by simp), h i (by simp)]
  case h_17 x i => rw [h x (by simp)]
  case h_18 b args ats => rw [map_env fun x hx => h x (by simpa using hx)]
  case h_19 => rfl
theorem aM_congr {ρ ρ' : AEnv} {op : Op} (h : ∀ x ∈ op.operands, ρ x = ρ' x) : aM P ρ op = aM P ρ' op := by
  unfold aM
  split <;> simp only [Op.operands] at h
  · rfl
  · rename_i e x; rw [h x (by simp)]
  · rw [parts_env h]
  · rfl
  · rename_i t l c; rw [h l (by simp), h c (by simp)]
  · rename_i s d x; rw [h x (by simp)]
  · rfl
theorem aE_congr {ρ ρ' : AEnv} {op : Op} (h : ∀ x ∈ op.operands, ρ x = ρ' x) (hp : AH) : aE P call ρ op hp = aE P call ρ' op hp := by
  unfold aE
  split <;> simp only [Op.operands, Call.operands] at h
  · rename_i t a x; rw [h a (by simp), h x (by simp)]
  · rw [map_env fun x hx => h x (by simpa using hx)]
  · rename_i f args ats
    rw [h f (by simp), map_env fun x hx => h x (by simp at hx ⊢; exact .inr hx)]
  · rename_i s d x; rw [h x (by simp)]
  · rfl
theorem aQ_heapless {ρ : AEnv} {op : Op} (hl : heapless op = true) (h1 h2 : AH) : aQ P ρ op h1 = aQ P ρ op h2 := by
  unfold heapless at hl
  split at hl <;> first | rfl | (cases hl; done) | skip

theorem eval_slots {ops : Array Oper} {o : Oper} {t t' : List AVal} (h : ∀ s ∈ slots ops o, t[s]? = t'[s]?) : ∀ x ∈ o.op.operands, aEval gl t x = aEval gl t' x := by
  intro x hx
  cases x with
  | tmp s =>
    have : s ∈ slots ops o := by
      unfold slots Oper.looksAt
      refine List.mem_append.2 (.inl ?_)
      rw [List.mem_filterMap]
      exact ⟨.tmp s, by simpa using hx, rfl⟩
    simp only [aEval, List.getD_eq_getElem?_getD, h s this]
  | const v => rfl
  | global g => rfl
  | func f => rfl
theorem wanted_slots {ops : Array Oper} {o : Oper} {t t' : List AVal} (h : ∀ s ∈ slots ops o, t[s]? = t'[s]?) : aWanted ops t o = aWanted ops t' o := by
  unfold aWanted
  cases hg : o.guard with
  | none => rfl
  | some p =>
    obtain ⟨j, want⟩ := p
    simp only
    cases hd : (ops[j]?).bind (·.dst) with
    | none => rfl
    | some d =>
      have : d ∈ slots ops o := by
        unfold slots Oper.looksAt
        refine List.mem_append.2 (.inr ?_)
        rw [hg]
        simp [hd]
      simp only [Option.bind_some, h d this]

/-- A block that the abstract heap has already gets its place. -/
theorem ghost_new (r : Rel μ h w) {s : Sem Value} {p : APlan} (g : PlanGood P μ w s p) {i : Nat} (hi : i < h.n) (hm : μ i = none) (hg : h.get i = some p.1) :
    ∃ v' w' μ', s.run P w = .ok v' w' ∧ μ.le μ' ∧ (∀ j, j ≠ i → μ' j = μ j) ∧ VR μ' (p.2 i) v' ∧ Rel μ' h w' ∧ w'.os = w.os ∧ w'.tape = w.tape ∧ w'.output = w.output ∧ w.heap.size ≤ w'.heap.size ∧
      (∀ cb, cb < w.heap.size → w'.heap[cb]? = w.heap[cb]?) ∧ (∀ m, μ' i = some m → w.heap.size ≤ m.cb) := by
  obtain ⟨h1, h2, obj, m, v', dr, hrun, hcb, hall⟩ := g
  have hle : μ.le (muNew μ i m) := fun j mj hj => by
    simp only [muNew]
    have : j ≠ i := fun e => by rw [e, hm] at hj; cases hj
    rw [if_neg this]; exact hj
  have hL := hall (muNew μ i m) i hle (by simp [muNew])
  have hheap : ∀ k, k < w.heap.size → (w.heap.push obj)[k]? = w.heap[k]? := fun k hk => by rw [Array.getElem?_push, if_neg (by omega)]
  refine ⟨v', _, muNew μ i m, hrun, hle, fun j hj => by simp [muNew, hj], hL.2, ⟨?_, ?_, ?_, ?_, ?_, ?_⟩, rfl, rfl, rfl, by simp, hheap, fun m' hm' => by simp [muNew] at hm'; subst hm'; omega⟩
  · intro j mj hj
    simp only [muNew] at hj
    split at hj
    · omega
    · exact r.dom j mj hj
  · intro j mj hj
    simp only [muNew] at hj
    simp only [Array.size_push]
    split at hj
    · simp only [Option.some.injEq] at hj; subst hj; omega
    · have := r.hi j mj hj; omega
  · intro j mj hj
    simp only [muNew] at hj
    split at hj
    · rename_i e; rw [e]; exact ⟨_, hg⟩
    · exact r.has j mj hj
  · intro j mj bj hj hbj hd
    simp only [muNew] at hj
    split at hj
    · rename_i e
      subst e
      rw [hg] at hbj
      simp only [Option.some.injEq] at hj hbj
      subst hj hbj
      exact hL.1
    · exact (r.lies j mj bj hj hbj hd).mono hle (hheap _ (r.hi j mj hj))
  · intro a b ma mb ba bb hab ha hb hcbe hba hbb hra hdb
    simp only [muNew] at ha hb
    split at ha
    · simp only [Option.some.injEq] at ha
      subst ha
      split at hb
      · omega
      · have := r.hi b mb hb; omega
    · split at hb
      · simp only [Option.some.injEq] at hb
        subst hb
        have := r.hi a ma ha; omega
      · exact r.excl a b ma mb ba bb hab ha hb hcbe hba hbb hra hdb
  · intro j mj bj hj hbj q hq
    simp only [muNew] at hj
    split at hj
    · rename_i e
      subst e
      rw [hg] at hbj
      simp only [Option.some.injEq] at hbj
      subst hbj
      rw [h2] at hq
      cases hq
    · obtain ⟨m', hm', hx⟩ := r.par j mj bj hj hbj q hq
      exact ⟨m', hle _ _ hm', hx⟩

/-- A block that has no place yet. -/
theorem Rel.ghost (r : Rel μ h w) (b : ABlk) : Rel μ (h.push b) w := by
  have hold : ∀ j mj, μ j = some mj → j ≠ h.n := fun j mj hj e => by have := r.dom j mj hj; omega
  refine ⟨fun j mj hj => by have := r.dom j mj hj; simp only [AH.n_push]; omega, r.hi, ?_, ?_, ?_, ?_⟩
  · intro j mj hj; rw [AH.get_push, if_neg (hold j mj hj)]; exact r.has j mj hj
  · intro j mj bj hj hbj; rw [AH.get_push, if_neg (hold j mj hj)] at hbj; exact r.lies j mj bj hj hbj
  · intro a c ma mc ba bc hac ha hc hcb hba hbc
    rw [AH.get_push, if_neg (hold a ma ha)] at hba
    rw [AH.get_push, if_neg (hold c mc hc)] at hbc
    exact r.excl a c ma mc ba bc hac ha hc hcb hba hbc
  · intro j mj bj hj hbj; rw [AH.get_push, if_neg (hold j mj hj)] at hbj; exact r.par j mj bj hj hbj

/-- An operation of the order that has not come up yet. -/
inductive PendOK (P : Program) (gl : List Nat) (ops : Array Oper) (V : Nat → AVal) (N : Nat → Nat) (M : List Nat) (t0 : List AVal) (h : AH) (μ : Mu) (n0 : Nat) (rs : List QRec) (j : Nat) (pre : List Nat) : Prop
  | skip (o : Oper) (ho : ops[j]? = some o) (hw : aWanted ops (tA ops V t0 pre) o = some false) (hv : V j = .tuple [])
  | quiet (o : Oper) (ho : ops[j]? = some o) (hw : aWanted ops (tA ops V t0 pre) o = some true) (hk : kindOf P o.op = .quiet)
      (hr : (heapless o.op = true ∧ ∃ h1, aQ P (aEval gl (tA ops V t0 pre)) o.op h1 = some (V j)) ∨ (⟨j, o.op, tA ops V t0 pre, V j⟩ : QRec) ∈ rs)
  | make (o : Oper) (ho : ops[j]? = some o) (hw : aWanted ops (tA ops V t0 pre) o = some true) (hk : kindOf P o.op = .make) (pl : APlan) (hm : aM P (aEval gl (tA ops V t0 pre)) o.op = some pl)
      (hM : j ∈ M) (hv : V j = pl.2 (N j)) (hμ : μ (N j) = none) (h0 : n0 ≤ N j) (hg : h.get (N j) = some pl.1)

/-- How far the walked order has come. -/
structure Far (P : Program) (gl : List Nat) (call : ACall) (ops : Array Oper) (σ : List Nat) (t0 : List AVal) (n0 : Nat) (fin : List AVal × AH) (p : List Nat)
    (done todo : List Nat) (V : Nat → AVal) (N : Nat → Nat) (M : List Nat) (h : AH) (rs : List QRec) (μ : Mu) : Prop where
  all : σ = done.reverse ++ todo
  run : aDrawGo P gl call ops (ancTab ops) todo (tA ops V t0 done) h rs = some fin
  sub : ∀ i ∈ p, i ∈ done
  pend : ∀ j pre x, done = x ++ j :: pre → j ∉ p → PendOK P gl ops V N M t0 h μ n0 rs j pre
  inj : ∀ i j, i ∈ M → j ∈ M → i ≠ j → N i ≠ N j
  lt : ∀ i ∈ M, N i < h.n
  mdone : ∀ i ∈ M, i ∈ done
  nle : n0 ≤ h.n

def AtBound (P : Program) (ops : Array Oper) (t : List AVal) (todo : List Nat) : Prop :=
  todo = [] ∨ ∃ e rest o, todo = e :: rest ∧ ops[e]? = some o ∧ kindOf P o.op = .eff ∧ aWanted ops t o = some true

theorem bound_ok {ops : Array Oper} {tab todo : List Nat} {t : List AVal} {rs : List QRec} {fin : List AVal × AH} (hb : AtBound P ops t todo) (hr : aDrawGo P gl call ops tab todo t h rs = some fin) : okAt P gl h rs = true := by
  rcases hb with rfl | ⟨e, rest, o, rfl, ho, hk, hw⟩
  · simp only [aDrawGo] at hr
    split at hr
    · assumption
    · cases hr
  · simp only [aDrawGo, ho, hw, hk] at hr
    split at hr
    · assumption
    · cases hr

theorem PendOK.mono {ops : Array Oper} {V V' : Nat → AVal} {N N' : Nat → Nat} {M M' : List Nat} {t0 : List AVal} {h h' : AH} {n0 : Nat} {rs rs' : List QRec} {j : Nat} {pre : List Nat}
    (k : PendOK P gl ops V N M t0 h μ n0 rs j pre) (hV : ∀ i ∈ j :: pre, V' i = V i) (hN : N' j = N j) (hM : ∀ i ∈ M, i ∈ M') (hrs : ∀ r ∈ rs, r ∈ rs') (hh : ∀ i, i < h.n → h'.get i = h.get i) (hlt : ∀ i ∈ M, N i < h.n) :
    PendOK P gl ops V' N' M' t0 h' μ n0 rs' j pre := by
  have ht : tA ops V' t0 pre = tA ops V t0 pre := tA_congr fun i hi => hV i (by simp [hi])
  have hj : V' j = V j := hV j (by simp)
  cases k with
  | skip o ho hw hv => exact .skip o ho (by rw [ht]; exact hw) (by rw [hj]; exact hv)
  | quiet o ho hw hk hr => exact .quiet o ho (by rw [ht]; exact hw) hk (by rw [ht, hj]; exact hr.imp id (hrs _))
  | make o ho hw hk pl hm hM' hv hμ h0 hg => exact .make o ho (by rw [ht]; exact hw) hk pl (by rw [ht]; exact hm) (hM j hM') (by rw [hj, hN]; exact hv) (by rw [hN]; exact hμ) (by rw [hN]; exact h0) (by rw [hN, hh _ (hlt j hM')]; exact hg)

/-- The order is walked on to its next write. -/
theorem advance {ops : Array Oper} {σ : List Nat} {t0 : List AVal} {n0 : Nat} {fin : List AVal × AH} {p : List Nat} {w0 : World} {μ0 : Mu} {h0 : AH} :
    ∀ (todo done : List Nat) (V : Nat → AVal) (N : Nat → Nat) (M : List Nat) (h : AH) (rs : List QRec), Far P gl call ops σ t0 n0 fin p done todo V N M h rs μ → σ.Nodup → (∀ i ∈ p, i ∈ done) → Rel μ h w → Ext μ0 h0 w0 μ h w → h0.n ≤ h.n →
    ∃ done' todo' V' N' M' h' rs', Far P gl call ops σ t0 n0 fin p done' todo' V' N' M' h' rs' μ ∧ AtBound P ops (tA ops V' t0 done') todo' ∧ (∀ i ∈ done, V' i = V i) ∧ Rel μ h' w ∧ Ext μ0 h0 w0 μ h' w := by
  intro todo
  induction todo with
  | nil => intro done V N M h rs F hnd hp r e hle; exact ⟨done, [], V, N, M, h, rs, F, .inl rfl, fun _ _ => rfl, r, e⟩
  | cons i rest ih =>
    intro done V N M h rs F hnd hp r e hle
    have hrun := F.run
    simp only [aDrawGo] at hrun
    split at hrun
    · cases hrun
    rename_i o ho
    have hi : i ∉ done := by
      have := F.all ▸ hnd
      rw [List.nodup_append] at this
      intro hd
      exact this.2.2 i (by simpa using hd) i (by simp) rfl
    have hip : i ∉ p := fun hpi => hi (hp i hpi)
    have hiM : i ∉ M := fun h => hi (F.mdone i h)
    -- one operation more
    have more : ∀ (v : AVal) (n : Nat) (M' : List Nat) (h' : AH) (rs' : List QRec), aDrawGo P gl call ops (ancTab ops) rest (aPut (tA ops V t0 done) o.dst v) h' rs' = some fin →
        (M' = M ∧ h' = h ∨ ∃ b, M' = i :: M ∧ h' = h.push b ∧ n = h.n) → (∀ r ∈ rs, r ∈ rs') →
        PendOK P gl ops (fun k => if k = i then v else V k) (fun k => if k = i then n else N k) M' t0 h' μ n0 rs' i done →
        ∃ done' todo' V' N' M' h' rs', Far P gl call ops σ t0 n0 fin p done' todo' V' N' M' h' rs' μ ∧ AtBound P ops (tA ops V' t0 done') todo' ∧ (∀ i ∈ done, V' i = V i) ∧ Rel μ h' w ∧ Ext μ0 h0 w0 μ h' w := by
      intro v n M' h' rs' hr hM hrs hpend
      have hV : ∀ k ∈ done, (fun k => if k = i then v else V k) k = V k := fun k hk => by
        have hki : k ≠ i := fun e => hi (e ▸ hk)
        show (if k = i then v else V k) = V k
        rw [if_neg hki]
      have htA : tA ops (fun k => if k = i then v else V k) t0 (i :: done) = aPut (tA ops V t0 done) o.dst v := by
        simp only [tA, if_true]
        rw [tA_congr hV]
        simp [dstOf, ho]
      have hget : ∀ k, k < h.n → h'.get k = h.get k := by
        rcases hM with ⟨_, rfl⟩ | ⟨b, _, rfl, _⟩
        · exact fun _ _ => rfl
        · intro k hk; rw [AH.get_push, if_neg (by omega)]
      have hn : h.n ≤ h'.n := by
        rcases hM with ⟨_, rfl⟩ | ⟨b, _, rfl, _⟩ <;> simp
      have hrel : Rel μ h' w := by
        rcases hM with ⟨_, rfl⟩ | ⟨b, _, rfl, _⟩
        · exact r
        · exact r.ghost b
      have hext : Ext μ0 h0 w0 μ h' w := by
        rcases hM with ⟨_, rfl⟩ | ⟨b, _, rfl, _⟩
        · exact e
        · refine ⟨by simp only [AH.n_push]; omega, e.mu, fun k hk hm => by rw [AH.get_push, if_neg (by omega)]; exact e.ghost k hk hm, e.os, e.tape, e.output, e.size, e.keep, ?_⟩
          rintro cb hc ⟨k, m, b', hk, hcb, hg, hrw⟩
          have := r.dom k m hk
          rw [AH.get_push, if_neg (by omega)] at hg
          exact e.rw cb hc ⟨k, m, b', hk, hcb, hg, hrw⟩
      have hMsub : ∀ k ∈ M, k ∈ M' := by
        rcases hM with ⟨rfl, _⟩ | ⟨b, rfl, _, _⟩
        · exact fun _ h => h
        · exact fun _ h => List.mem_cons_of_mem _ h
      have hNo : ∀ k, k ≠ i → (fun k => if k = i then n else N k) k = N k := fun k hki => by
        show (if k = i then n else N k) = N k
        rw [if_neg hki]
      have hNi : (fun k => if k = i then n else N k) i = n := by
        show (if i = i then n else N i) = n
        rw [if_pos rfl]
      have F1 : Far P gl call ops σ t0 n0 fin p (i :: done) rest (fun k => if k = i then v else V k) (fun k => if k = i then n else N k) M' h' rs' μ := by
        generalize (fun k => if k = i then n else N k) = N' at hNo hNi hpend ⊢
        refine ⟨by rw [F.all]; simp, by rw [htA]; exact hr, fun k hk => List.mem_cons_of_mem _ (F.sub k hk), ?_, ?_, ?_, ?_, Nat.le_trans F.nle hn⟩
        · intro j pre x hx hj
          cases x with
          | nil =>
            simp only [List.nil_append, List.cons.injEq] at hx
            obtain ⟨rfl, rfl⟩ := hx
            exact hpend
          | cons y x =>
            simp only [List.cons_append, List.cons.injEq] at hx
            obtain ⟨rfl, hx⟩ := hx
            have hjd : j ∈ done := by rw [hx]; simp
            have hji : j ≠ i := fun e => hi (e ▸ hjd)
            exact (F.pend j pre x hx hj).mono (fun k hk => hV k (by rw [hx]; simp only [List.mem_append]; exact .inr hk)) (hNo j hji) hMsub hrs hget F.lt
        · intro a b ha hb hab
          rcases hM with ⟨rfl, _⟩ | ⟨bb, rfl, _, rfl⟩
          · have h1 : a ≠ i := fun e => hiM (e ▸ ha)
            have h2 : b ≠ i := fun e => hiM (e ▸ hb)
            rw [hNo a h1, hNo b h2]
            exact F.inj a b ha hb hab
          · rcases List.mem_cons.1 ha with h1 | ha
            · rcases List.mem_cons.1 hb with h2 | hb
              · exact absurd (h1.trans h2.symm) hab
              · have h2 : b ≠ i := fun e => hiM (e ▸ hb)
                rw [h1, hNi, hNo b h2]
                have := F.lt b hb
                omega
            · have h1 : a ≠ i := fun e => hiM (e ▸ ha)
              rcases List.mem_cons.1 hb with h2 | hb
              · rw [h2, hNi, hNo a h1]
                have := F.lt a ha
                omega
              · have h2 : b ≠ i := fun e => hiM (e ▸ hb)
                rw [hNo a h1, hNo b h2]
                exact F.inj a b ha hb hab
        · intro a ha
          rcases hM with ⟨rfl, rfl⟩ | ⟨bb, rfl, rfl, rfl⟩
          · have h1 : a ≠ i := fun e => hiM (e ▸ ha)
            rw [hNo a h1]
            exact F.lt a ha
          · rcases List.mem_cons.1 ha with h1 | ha
            · rw [h1, hNi]; simp
            · have h1 : a ≠ i := fun e => hiM (e ▸ ha)
              rw [hNo a h1]
              have := F.lt a ha
              simp only [AH.n_push]; omega
        · intro a ha
          rcases hM with ⟨rfl, _⟩ | ⟨bb, rfl, _, _⟩
          · exact List.mem_cons_of_mem _ (F.mdone a ha)
          · rcases List.mem_cons.1 ha with rfl | ha
            · simp
            · exact List.mem_cons_of_mem _ (F.mdone a ha)
      obtain ⟨d', t', V', N', M2, h2, rs2, F2, hb2, hV2, hr2, he2⟩ := ih (i :: done) _ _ M' h' rs' F1 hnd (fun k hk => List.mem_cons_of_mem _ (hp k hk)) hrel hext (by omega)
      exact ⟨d', t', V', N', M2, h2, rs2, F2, hb2, fun k hk => by rw [hV2 k (List.mem_cons_of_mem _ hk)]; exact hV k hk, hr2, he2⟩
    have htd : ∀ (v : AVal) (n : Nat), tA ops (fun k => if k = i then v else V k) t0 done = tA ops V t0 done := fun v n => tA_congr fun k hk => by
      have hki : k ≠ i := fun e => hi (e ▸ hk)
      show (if k = i then v else V k) = V k
      rw [if_neg hki]
    split at hrun
    · cases hrun
    · rename_i hw
      exact more (.tuple []) 0 M h rs hrun (.inl ⟨rfl, rfl⟩) (fun _ h => h) (.skip o ho (by rw [htd _ 0]; exact hw) (by simp))
    · rename_i hw
      split at hrun
      · rename_i hk
        split at hrun
        · rename_i v hq
          refine more v 0 M h _ hrun (.inl ⟨rfl, rfl⟩) ?_ (.quiet o ho (by rw [htd _ 0]; exact hw) hk ?_)
          · intro q hq; split
            · exact hq
            · exact List.mem_cons_of_mem _ hq
          · rw [htd _ 0]
            simp only [if_true]
            split
            · rename_i hl; exact .inl ⟨hl, h, hq⟩
            · exact .inr (by simp)
        · cases hrun
      · rename_i hk
        split at hrun
        · rename_i pl hm
          refine more (pl.2 h.n) h.n (i :: M) (h.push pl.1) rs hrun (.inr ⟨pl.1, rfl, rfl, rfl⟩) (fun _ h => h) (.make o ho (by rw [htd _ 0]; exact hw) hk pl (by rw [htd _ 0]; exact hm) (by simp) (by simp) ?_ ?_ ?_)
          · simp only [if_true]
            cases hx : μ h.n with
            | none => rfl
            | some m => have := r.dom _ m hx; omega
          · simp only [if_true]; exact F.nle
          · simp
        · cases hrun
      · rename_i hk
        exact ⟨done, i :: rest, V, N, M, h, rs, F, .inr ⟨i, rest, o, rfl, ho, hk, hw⟩, fun _ _ => rfl, r, e⟩
end Go.Proofs.Ytbcpmbggidemdaa.AI
