/- Functions without a text, for which the model stands in: sync/atomic's on numbers; the marks of internal/race. -/
import Derived.Test.YtfppdfmffdkogaaAiKFun
import Derived.Laws.LoneSync
namespace Go.Proofs.Ytfppdfmffdkogaa.AI
open Go
variable {P : Program} {gl : List Nat} {μ : Mu} {h : AH} {w : World}

/-- A cell that may be read; that may be written. -/
theorem cell_good (r : Rel μ h w) {i off : Nat} {cs : List AVal} (hc : h.row i = some cs) {m : MuAt} (hm : μ i = some m) {x : AVal} (hx : cs[off]? = some x) : ∃ y, w.cell? ⟨m.cb, m.base + off, none⟩ = some y ∧ VR μ x y := by
  obtain ⟨hl, hroom, C, e, fr, hb, hsz, hC⟩ := r.row hm hc
  obtain ⟨y, hy, hv⟩ := hC.get hx
  have hlt : off < cs.length := by
    rcases Nat.lt_or_ge off cs.length with h' | h'
    · exact h'
    · rw [List.getElem?_eq_none h'] at hx; cases hx
  rw [List.getElem?_take_of_lt hlt, List.getElem?_drop] at hy
  refine ⟨y, ?_, hv⟩
  unfold World.cell?
  simp only [hb]
  simpa using hy
theorem frozen_good (r : Rel μ h w) {i off : Nat} {cs : List AVal} {e : TypeId} {o : Bool} {p : List Nat} (hg : h.get i = some ⟨.row cs e o, .rw, p⟩) {m : MuAt} (hm : μ i = some m) (hlt : off < cs.length) : w.frozen? ⟨m.cb, m.base + off, none⟩ = false := by
  obtain ⟨hl, hop, hroom, hcl, C, e', fr, hb, hsz, hC, hel, hfz⟩ := r.lies i m _ hm hg (by simp)
  unfold World.frozen?
  simp only [hb]
  have := hfz rfl (m.base + off) (by omega) (by omega)
  simpa using this
/-- One cell is written. -/
theorem write1_good (P : Program) (r : Rel μ h w) {i off : Nat} {v : AVal} {h' : AH} (hw : h.write i off [v] = some h') {m : MuAt} (hm : μ i = some m) {v' : Value} (hv : VR μ v v') :
    (∃ u, w.cell? ⟨m.cb, m.base + off, none⟩ = some u) ∧ w.frozen? ⟨m.cb, m.base + off, none⟩ = false ∧ Rel μ h' (w.setCell ⟨m.cb, m.base + off, none⟩ v') ∧ Ext μ h w μ h' (w.setCell ⟨m.cb, m.base + off, none⟩ v') := by
  obtain ⟨w', e, rel, ext⟩ := write_good (P := P) r hw hm (VRs.cons hv .nil)
  unfold AH.write at hw
  split at hw
  · rename_i cs e' o par hg
    split at hw
    · rename_i hle
      have hlt : off < cs.length := by have := hle.1; simp at this; omega
      have hz := frozen_good r hg hm hlt
      obtain ⟨y, hy, _⟩ := cell_good r (i := i) (off := off) (cs := cs) (by unfold AH.row; rw [hg]; rfl) hm (List.getElem?_eq_getElem hlt)
      refine ⟨⟨y, hy⟩, hz, ?_⟩
      have hone : v'.oneCell' = true := hv.oneCell (by have := hle.2; simpa using this)
      have : (storeCells ⟨m.cb, m.base + off, none⟩ [v']).run P w = .ok () (w.setCell ⟨m.cb, m.base + off, none⟩ v') := by
        simp [storeCells, Addr.add_zero', run_store P w _ v' .plain hone, hy, hz]
      rw [this] at e
      cases e
      exact ⟨rel, ext⟩
    · cases hw
  · cases hw

/-- The model's own stands in for f. -/
structure IsX (P : Program) (f : FuncId) (g : Array Value → Sem Value) : Prop where
  ex : ∃ fn, P.funcs[f]? = some fn ∧ (fn.name == "runtime.NumGoroutine") = false ∧ fn.body.isNone = true ∧ Extern.findNext fn = none ∧ Extern.find fn = some g
abbrev XSound (P : Program) (gl : List Nat) (f : FuncId) (g : List AVal → AH → Ans) : Prop := CallSound P gl (fun f' args h => if f' = f then g args h else none)
theorem xsound {f : FuncId} {g : List AVal → AH → Ans}
    (k : ∀ (args : List AVal) (h : AH) (r : AVal) (h' : AH), g args h = some (r, h') → ∀ (μ : Mu) (w : World) (cargs : Array Value), Rel μ h w → VRs μ args cargs.toList → ∃ v' w', (callFunc f cargs).run P w = .ok (.value v') w' ∧ CallPost μ h w r h' (.returned v') w') : XSound P gl f g := by
  intro f' args h r h' hc
  simp only at hc
  split at hc
  · rename_i e
    subst e
    exact .inr fun μ w cargs hr _ ha => k args h r h' hc μ w cargs hr ha
  · cases hc
theorem vr1 {a : AVal} {l : Array Value} (h : VRs μ [a] l.toList) : ∃ x, l = #[x] ∧ VR μ a x := by
  obtain ⟨l⟩ := l
  simp only at h
  cases h with
  | cons h t => cases t; exact ⟨_, rfl, h⟩
theorem vr2 {a b : AVal} {l : Array Value} (h : VRs μ [a, b] l.toList) : ∃ x y, l = #[x, y] ∧ VR μ a x ∧ VR μ b y := by
  obtain ⟨l⟩ := l
  simp only at h
  cases h with
  | cons h t => cases t with
    | cons h2 t => cases t; exact ⟨_, _, rfl, h, h2⟩
theorem vr3 {a b c : AVal} {l : Array Value} (h : VRs μ [a, b, c] l.toList) : ∃ x y z, l = #[x, y, z] ∧ VR μ a x ∧ VR μ b y ∧ VR μ c z := by
  obtain ⟨l⟩ := l
  simp only at h
  cases h with
  | cons h t => cases t with
    | cons h2 t => cases t with
      | cons h3 t => cases t; exact ⟨_, _, _, rfl, h, h2, h3⟩

/-- LoadT. -/
def xLoad (k : IntKind) : List AVal → AH → Ans := fun args h => match args with
  | [.ptr (some (i, off))] => match (h.row i).bind (·[off]?) with
    | some (.int k' n) => if k' = k then some (.int k n, h) else none
    | _ => none
  | _ => none
theorem xLoad_sound {f : FuncId} {k : IntKind} (hx : IsX P f (Extern.Atomic.loadT (.int k))) : XSound P gl f (xLoad k) := by
  refine xsound fun args h r h' hc μ w cargs hr ha => ?_
  unfold xLoad at hc
  split at hc
  · rename_i i off
    obtain ⟨x, rfl, hv⟩ := vr1 ha
    split at hc
    · rename_i k' n hrow
      split at hc
      · rename_i e
        subst e
        simp only [Option.some.injEq, Prod.mk.injEq] at hc
        obtain ⟨rfl, rfl⟩ := hc
        simp only [Option.bind_eq_some_iff] at hrow
        obtain ⟨cs, h1, h2⟩ := hrow
        cases hv with
        | ptr hm =>
          obtain ⟨y, hy, hyv⟩ := cell_good hr h1 hm h2
          cases hyv
          obtain ⟨fn, e1, e2, e3, e4, e5⟩ := hx.ex
          exact ⟨_, _, run_call_load e1 e2 e3 e4 k' e5 hy, μ, _, rfl, .int _ _, hr, Ext.refl _ _ _⟩
      · cases hc
    · cases hc
  · cases hc
/-- StoreT. -/
def xStore (k : IntKind) : List AVal → AH → Ans := fun args h => match args with
  | [.ptr (some (i, off)), .int k' n] => if k' = k then (h.write i off [.int k n]).map fun h' => (.tuple [], h') else none
  | _ => none
theorem xStore_sound {f : FuncId} {k : IntKind} (hx : IsX P f Extern.Atomic.storeT) : XSound P gl f (xStore k) := by
  refine xsound fun args h r h' hc μ w cargs hr ha => ?_
  unfold xStore at hc
  split at hc
  · rename_i i off k' n
    obtain ⟨x, y, rfl, hv, hv2⟩ := vr2 ha
    split at hc
    · rename_i e
      subst e
      simp only [Option.map_eq_some_iff, Prod.mk.injEq] at hc
      obtain ⟨h2, hw, rfl, rfl⟩ := hc
      cases hv2
      cases hv with
      | ptr hm =>
        obtain ⟨⟨u, hu⟩, hz, rel, ext⟩ := write1_good P hr hw hm (VR.int (μ := μ) k' n)
        obtain ⟨fn, e1, e2, e3, e4, e5⟩ := hx.ex
        exact ⟨_, _, run_call_store e1 e2 e3 e4 e5 hu hz, μ, _, rfl, .tuple .nil, rel, ext⟩
    · cases hc
  · cases hc
/-- AddT. -/
def xAdd (k : IntKind) : List AVal → AH → Ans := fun args h => match args with
  | [.ptr (some (i, off)), .int k1 y] => match (h.row i).bind (·[off]?) with
    | some (.int k2 x) => if k1 = k ∧ k2 = k then (h.write i off [.int k (k.wrap (x + y))]).map fun h' => (.int k (k.wrap (x + y)), h') else none
    | _ => none
  | _ => none
theorem xAdd_sound {f : FuncId} {k : IntKind} (hx : IsX P f (Extern.Atomic.update (Op.intArith .add) k true)) : XSound P gl f (xAdd k) := by
  refine xsound fun args h r h' hc μ w cargs hr ha => ?_
  unfold xAdd at hc
  split at hc
  · rename_i i off k' n
    obtain ⟨x, y, rfl, hv, hv2⟩ := vr2 ha
    split at hc
    · rename_i k2 x2 hrow
      split at hc
      · rename_i e
        obtain ⟨rfl, rfl⟩ := e
        simp only [Option.map_eq_some_iff, Prod.mk.injEq] at hc
        obtain ⟨h2, hw, rfl, rfl⟩ := hc
        simp only [Option.bind_eq_some_iff] at hrow
        obtain ⟨cs, g1, g2⟩ := hrow
        cases hv2
        cases hv with
        | ptr hm =>
          obtain ⟨y, hy, hyv⟩ := cell_good hr g1 hm g2
          cases hyv
          obtain ⟨⟨u, hu⟩, hz, rel, ext⟩ := write1_good P hr hw hm (VR.int (μ := μ) k2 (k2.wrap (x2 + n)))
          obtain ⟨fn, e1, e2, e3, e4, e5⟩ := hx.ex
          exact ⟨_, _, run_call_add e1 e2 e3 e4 k2 e5 hy hz (by simp [Op.intArith]), μ, _, rfl, .int _ _, rel, ext⟩
      · cases hc
    · cases hc
  · cases hc
/-- CompareAndSwapT. -/
def xCas (k : IntKind) : List AVal → AH → Ans := fun args h => match args with
  | [.ptr (some (i, off)), .int k1 o, .int k2 y] => match (h.row i).bind (·[off]?) with
    | some (.int k3 x) => if k1 = k ∧ k2 = k ∧ k3 = k then
        if x = o then (h.write i off [.int k y]).map fun h' => (.bool true, h')
        else (h.write i off [.int k x]).bind fun _ => some (.bool false, h)
      else none
    | _ => none
  | _ => none
theorem xCas_sound {f : FuncId} {k : IntKind} (hx : IsX P f (Extern.Atomic.casT (.int k))) : XSound P gl f (xCas k) := by
  refine xsound fun args h r h' hc μ w cargs hr ha => ?_
  unfold xCas at hc
  split at hc
  · rename_i i off k1 o k2 n
    obtain ⟨x, y, z, rfl, hv, hv2, hv3⟩ := vr3 ha
    split at hc
    · rename_i k3 x2 hrow
      split at hc
      · rename_i e
        obtain ⟨rfl, rfl, rfl⟩ := e
        simp only [Option.bind_eq_some_iff] at hrow
        obtain ⟨cs, g1, g2⟩ := hrow
        obtain ⟨fn, e1, e2, e3, e4, e5⟩ := hx.ex
        cases hv2; cases hv3
        cases hv with
        | ptr hm =>
          obtain ⟨y, hy, hyv⟩ := cell_good hr g1 hm g2
          cases hyv
          split at hc
          · rename_i e
            subst e
            simp only [Option.map_eq_some_iff, Prod.mk.injEq] at hc
            obtain ⟨h2, hw, rfl, rfl⟩ := hc
            obtain ⟨⟨u, hu⟩, hz, rel, ext⟩ := write1_good P hr hw hm (VR.int (μ := μ) k3 n)
            exact ⟨_, _, run_call_cas_hit e1 e2 e3 e4 k3 e5 hy hz, μ, _, rfl, .bool _, rel, ext⟩
          · rename_i e
            simp only [Option.bind_eq_some_iff, Option.some.injEq, Prod.mk.injEq] at hc
            obtain ⟨h2, hw, rfl, rfl⟩ := hc
            obtain ⟨⟨u, hu⟩, hz, _⟩ := write1_good P hr hw hm (VR.int (μ := μ) k3 x2)
            exact ⟨_, _, run_call_cas_miss e1 e2 e3 e4 k3 e5 hy hz e, μ, _, rfl, .bool _, hr, Ext.refl _ _ _⟩
      · cases hc
    · cases hc
  · cases hc
/-- Marks: nothing turns. -/
def xMark0 : List AVal → AH → Ans := fun args h => match args with
  | [] => some (.tuple [], h)
  | _ => none
theorem xMark0_sound {f : FuncId} {m : Mark} (hx : IsX P f (fun _ => do mark m; pure Extern.Race.none_)) : XSound P gl f xMark0 := by
  refine xsound fun args h r h' hc μ w cargs hr ha => ?_
  unfold xMark0 at hc
  split at hc
  · simp only [Option.some.injEq, Prod.mk.injEq] at hc
    obtain ⟨rfl, rfl⟩ := hc
    obtain ⟨l⟩ := cargs
    simp only at ha
    cases ha
    obtain ⟨fn, e1, e2, e3, e4, e5⟩ := hx.ex
    exact ⟨_, _, run_call_mark0 e1 e2 e3 e4 m e5 w, μ, _, rfl, .tuple .nil, hr, Ext.refl _ _ _⟩
  · cases hc
def xMarked : List AVal → AH → Ans := fun args h => match args with
  | [.ptr (some _)] => some (.tuple [], h)
  | _ => none
theorem xMarked_sound {f : FuncId} {m : Addr → Mark} (hx : IsX P f (Extern.Race.marked m)) : XSound P gl f xMarked := by
  refine xsound fun args h r h' hc μ w cargs hr ha => ?_
  unfold xMarked at hc
  split at hc
  · simp only [Option.some.injEq, Prod.mk.injEq] at hc
    obtain ⟨rfl, rfl⟩ := hc
    obtain ⟨x, rfl, hv⟩ := vr1 ha
    cases hv with
    | ptr hm =>
      obtain ⟨fn, e1, e2, e3, e4, e5⟩ := hx.ex
      exact ⟨_, _, run_call_marked e1 e2 e3 e4 m e5 _ w, μ, _, rfl, .tuple .nil, hr, Ext.refl _ _ _⟩
  · cases hc

/-! Who stands in for whom. -/
def ovOf (l : List (Nat × (List AVal → AH → Ans))) : AOver := fun f => (l.find? fun p => p.1 == f).map (·.2)
theorem ovOf_none {l : List (Nat × (List AVal → AH → Ans))} {f : Nat} (h : f ∉ l.map (·.1)) : ovOf l f = none := by
  unfold ovOf
  rw [List.find?_eq_none.2, Option.map_none]
  intro x hx hf
  exact h (List.mem_map.2 ⟨x, hx, by simpa using hf⟩)
theorem ovOf_sound {l : List (Nat × (List AVal → AH → Ans))} (h : ∀ p ∈ l, XSound P gl p.1 p.2) : OvSound P gl (ovOf l) := by
  intro f g hf
  unfold ovOf at hf
  obtain ⟨p, hp, rfl⟩ := Option.map_eq_some_iff.1 hf
  have hm := List.mem_of_find?_eq_some hp
  have he := List.find?_some hp
  have : p.1 = f := by simpa using he
  subst this
  exact h p hm
/-- The chapter's example: it holds. -/
def knownYes : List AVal → AH → Ans := fun args h => match args with
  | [] => some (.bool true, h)
  | _ => none
def ovK (k : Nat) (l : List (Nat × (List AVal → AH → Ans))) : AOver := fun f => if f = k then some knownYes else ovOf l f
theorem ovK_sound (hP : ProgOk P) {l : List (Nat × (List AVal → AH → Ans))} (h : ∀ p ∈ l, XSound P [] p.1 p.2) {k n : Nat} (hen : entersB P k = true) (hk : (kcall P [] (ovOf l) n k [] AH.empty).map (·.1) = some (.bool true)) : OvSound P [] (ovK k l) := by
  intro f g hf
  unfold ovK at hf
  split at hf
  · rename_i e
    simp only [Option.some.injEq] at hf
    subst hf e
    simp only [Option.map_eq_some_iff] at hk
    obtain ⟨⟨r, h1⟩, hk, e⟩ := hk
    simp only at e
    subst e
    exact closed_sound (kcall_sound hP (ovOf_sound h) n) hen hk
  · exact ovOf_sound h f g hf
theorem ovK_none {l : List (Nat × (List AVal → AH → Ans))} {k : Nat} {os : List Nat} (hk : k ∈ os) (hl : ∀ x ∈ l.map (·.1), x ∈ os) (f : Nat) (hf : f ∉ os) : ovK k l f = none := by
  unfold ovK
  rw [if_neg (fun e => hf (by rw [e]; exact hk)), ovOf_none fun hm => hf (hl f hm)]
end Go.Proofs.Ytfppdfmffdkogaa.AI
