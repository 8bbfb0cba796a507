/- The machine once more, what comes next handed on: functions, calls to a depth, laws. -/
import Derived.Test.YtbcpmbggidemdaaAiKSound
import Derived.Test.YtbcpmbggidemdaaAiLaw
namespace Go.Proofs.Ytbcpmbggidemdaa.AI
open Go Go.RowKit
set_option linter.unusedSimpArgs false

variable {P : Program} {gl : List Nat} {call : ACall}

def kLeave (call : ACall) : List ADef → AH → (AH → Ans) → Ans
  | [], h, K => K h
  | (g, args) :: ds, h, K => kE (call g args h) fun _ h' => kLeave call ds h' K
def kLoadT (P : Program) (ty : TypeId) (a : AVal) (h : AH) : Option AVal := match aggT P ty, szT P ty with
  | some true, some n => rLoadA n a h
  | some false, some _ => rLoad a h
  | _, _ => none
def kRes (P : Program) (t : List AVal) (h : AH) : List ResultVar → (List AVal → Ans) → Ans
  | [], K => K []
  | .tmp i :: l, K => kRes P t h l fun vs => K (t.getD i (.tuple []) :: vs)
  | .cell i ty :: l, K => kQ (kLoadT P ty (t.getD i (.tuple [])) h) fun v => kRes P t h l fun vs => K (v :: vs)
def kFin (P : Program) (callD : ACall) (fn : Func) : KN := fun t d h => kLeave callD d h fun h' => kRes P t h' fn.results.toList fun vs => some (oneOf vs, h')
def resMask : List ResultVar → Nat
  | [] => 0
  | .tmp i :: l => (1 <<< i) ||| resMask l
  | .cell i _ :: l => (1 <<< i) ||| resMask l
def kFunc (P : Program) (gl : List Nat) (call callD : ACall) (f : FuncId) (args : List AVal) (h : AH) : Ans :=
  match P.funcs[f]? with
  | none => none
  | some fn => match fn.body with
    | none => none
    | some c => kCode P gl call c (resMask fn.results.toList) [] (resMask fn.results.toList) (args ++ List.replicate (fn.ntmps - args.length) (.tuple [])) [] h (kFin P callD fn) (fun _ _ _ _ => none) (kFin P callD fn)
def kFuncD (P : Program) (gl : List Nat) (call : ACall) (f : FuncId) (args : List AVal) (h : AH) : Ans := kFunc P gl call (fun _ _ _ => none) f args h

theorem kLoadT_aLoad {ty : TypeId} {a v : AVal} {h : AH} (hq : kLoadT P ty a h = some v) : aLoad P ty a h = some v := by
  unfold kLoadT at hq
  unfold aLoad partT
  split at hq
  · rename_i n h1 h2; simp only [h1, h2]; exact hq
  · rename_i n h1 h2; simp only [h1, h2]; exact hq
  · cases hq
theorem kRes_sound {t : List AVal} {h : AH} {r : AVal × AH} : ∀ {l : List ResultVar} {K : List AVal → Ans}, kRes P t h l K = some r → ∃ vs, aRes P t h l = some vs ∧ K vs = some r
  | [], K, hk => ⟨[], rfl, hk⟩
  | .tmp i :: l, K, hk => by
      simp only [kRes] at hk
      obtain ⟨vs, h1, h2⟩ := kRes_sound hk
      exact ⟨_, by simp [aRes, h1], h2⟩
  | .cell i ty :: l, K, hk => by
      simp only [kRes] at hk
      unfold kQ at hk
      split at hk
      · rename_i v hv
        obtain ⟨vs, h1, h2⟩ := kRes_sound hk
        exact ⟨_, by simp only [aRes, kLoadT_aLoad hv, h1, Option.bind_some, Option.map_some], h2⟩
      · cases hk
theorem kLeave_sound {callD : ACall} {r : AVal × AH} : ∀ {ds : List ADef} {h : AH} {K : AH → Ans}, kLeave callD ds h K = some r → ∃ h', aLeave callD ds h = some h' ∧ K h' = some r
  | [], h, K, hk => ⟨h, rfl, hk⟩
  | (g, args) :: ds, h, K, hk => by
      simp only [kLeave] at hk
      unfold kE at hk
      split at hk
      · rename_i v h1 hc
        obtain ⟨h2, e1, e2⟩ := kLeave_sound hk
        exact ⟨h2, by simp only [aLeave, hc]; exact e1, e2⟩
      · cases hk
theorem kFin_sound {callD : ACall} {fn : Func} {t : List AVal} {d : List ADef} {h : AH} {r : AVal × AH} (hk : kFin P callD fn t d h = some r) :
    ((aLeave callD d h).bind fun h' => (aResults P fn t h').map fun v => (v, h')) = some r := by
  unfold kFin at hk
  obtain ⟨h', h1, h2⟩ := kLeave_sound hk
  obtain ⟨vs, h3, h4⟩ := kRes_sound h2
  simp only [h1, Option.bind_some, aResults, h3, Option.map_some]
  exact h4

theorem kFunc_calls (hcall : CallSound P gl call) {callD : ACall} (hcd : CallDSound P gl callD) (hP : ProgOk P) : CallSound P gl (kFunc P gl call callD) := by
  intro f args h r h' hb
  unfold kFunc at hb
  split at hb
  · cases hb
  rename_i fn hf
  split at hb
  · cases hb
  rename_i c hc
  refine .inl ⟨⟨fn, hf, by rw [hc]; rfl, hP.names f fn hf⟩, ?_⟩
  intro μ w cargs hr hg ha
  have sr : SR gl μ ⟨args ++ List.replicate (fn.ntmps - args.length) (.tuple []), [], h⟩ { tmps := cargs ++ Array.replicate (fn.ntmps - cargs.size) undef, defers := [] } w := ⟨start_tmps ha, .nil, hr, hg⟩
  refine calls_of_wp_defers hf hc ?_
  have fin : ∀ (t : List AVal) (d : List ADef) (h2 : AH) (μ' : Mu) (a' : Act) (w' : World), kFin P callD fn t d h2 = some (r, h') → SR gl μ' ⟨t, d, h2⟩ a' w' → Ext μ h w μ' h2 w' →
      Leaves P fn a'.tmps (CallPost μ h w r h') a'.defers .returning w' := by
    intro t d h2 μ' a' w' hk hs he
    have hl := kFin_sound hk
    simp only [Option.bind_eq_some_iff, Option.map_eq_some_iff, Prod.mk.injEq] at hl
    obtain ⟨h3, hl, v, hv, rfl, rfl⟩ := hl
    refine aLeave_good hcd d a'.defers μ' h2 h3 w' hs.d hs.r hs.g hl fun μ2 w2 r2 g2 l2 e2 => ?_
    obtain ⟨v', hrun, hvr⟩ := aResults_good (P := P) r2 (hs.t.mono l2) hv
    exact ⟨v', hrun, μ2, v', rfl, hvr, r2, he.trans e2⟩
  exact kCode_wp hcall hP.mix c (hP.regs f fn c hf hc) _ _ _ _ _ _ _ _ _ _ hb μ _ w sr (Ext.refl _ _ _)
    (fun t' d' h' μ' a' w' k1 k2 k3 _ _ => fin t' d' h' μ' a' w' k1 k2 k3) (fun i t' d' h' μ' a' w' k1 => by cases k1) (fun t' d' h' μ' a' w' k1 k2 k3 => fin t' d' h' μ' a' w' k1 k2 k3)

theorem kFuncD_calls (hcall : CallSound P gl call) (hP : ProgOk P) : CallDSound P gl (kFuncD P gl call) := by
  intro f args h r h' hb
  unfold kFuncD kFunc at hb
  split at hb
  · cases hb
  rename_i fn hf
  split at hb
  · cases hb
  rename_i c hc
  refine ⟨⟨fn, hf, by rw [hc]; rfl, hP.names f fn hf⟩, ?_⟩
  intro μ w cargs u hr hg ha
  have sr : SR gl μ ⟨args ++ List.replicate (fn.ntmps - args.length) (.tuple []), [], h⟩ { tmps := cargs ++ Array.replicate (fn.ntmps - cargs.size) undef, defers := [] } w := ⟨start_tmps ha, .nil, hr, hg⟩
  refine callsD_of_wp hf hc ?_
  have fin : ∀ (t : List AVal) (d : List ADef) (h2 : AH) (μ' : Mu) (a' : Act) (w' : World), kFin P (fun _ _ _ => none) fn t d h2 = some (r, h') → SR gl μ' ⟨t, d, h2⟩ a' w' → Ext μ h w μ' h2 w' →
      a'.defers = [] ∧ ∃ v, (results fn a'.tmps).run P w' = .ok v w' ∧ CallPost μ h w r h' (.returned v) w' := by
    intro t d h2 μ' a' w' hk hs he
    have hl := kFin_sound hk
    simp only [Option.bind_eq_some_iff, Option.map_eq_some_iff, Prod.mk.injEq] at hl
    obtain ⟨h3, hl, v, hv, rfl, rfl⟩ := hl
    have hd := hs.d
    cases d with
    | cons d ds => simp [aLeave] at hl
    | nil =>
      simp only [aLeave, Option.some.injEq] at hl
      subst hl
      generalize hde : a'.defers = ds at hd
      cases hd
      obtain ⟨v', hrun, hvr⟩ := aResults_good (P := P) hs.r hs.t hv
      exact ⟨rfl, v', hrun, μ', v', rfl, hvr, hs.r, he⟩
  exact kCode_wp hcall hP.mix c (hP.regs f fn c hf hc) _ _ _ _ _ _ _ _ _ _ hb μ _ w sr (Ext.refl _ _ _)
    (fun t' d' h' μ' a' w' k1 k2 k3 _ _ => fin t' d' h' μ' a' w' k1 k2 k3) (fun i t' d' h' μ' a' w' k1 => by cases k1) (fun t' d' h' μ' a' w' k1 k2 k3 => fin t' d' h' μ' a' w' k1 k2 k3)

/-- Calls to a depth. -/
def kcall (P : Program) (gl : List Nat) (ov : AOver) : Nat → ACall
  | 0, _, _, _ => none
  | n + 1, f, args, h =>
    match ov f with
    | some g => g args h
    | none => kFunc P gl (kcall P gl ov n) (kFuncD P gl (kcall P gl ov n)) f args h
/-- What stands in for a function's text says what holds. -/
def OvSound (P : Program) (gl : List Nat) (ov : AOver) : Prop := ∀ f g, ov f = some g → CallSound P gl (fun f' args h => if f' = f then g args h else none)
theorem kcall_sound (hP : ProgOk P) {ov : AOver} (hov : OvSound P gl ov) : ∀ n, CallSound P gl (kcall P gl ov n)
  | 0 => fun f args h r h' hc => by simp [kcall] at hc
  | n + 1 => fun f args h r h' hc => by
      have ih := kcall_sound hP hov n
      simp only [kcall] at hc
      split at hc
      · rename_i g hg
        exact hov f g hg f args h r h' (by simpa using hc)
      · exact kFunc_calls ih (kFuncD_calls ih hP) hP f args h r h' hc

/-- What a law's text comes to: true, and nothing that was there has turned. -/
theorem law_kcalls (hP : ProgOk P) {F : Nat} (hen : entersB P F = true) {ov : AOver} (hov : OvSound P [] ov) {H : Type}
    {enc : TypeId × Value → H} {W : World} {n : Nat} {base : Nat} {ts : List TypeId} {args : Array Value} {ds : List (DataW H)} {p : List MemPlace}
    (hok : ∀ (j : Nat) (t : TypeId) (v : Value), ts[j]? = some t → args.toList[j]? = some v → Value.okWide P W .any base t v)
    (hA : DataW.TrodAll enc P W 0 (fun _ => true) true ts args.toList ds p)
    {as : List AVal} {h0 h' : AH} (ha : absA P ts ds AH.empty = some (as, h0)) (hc : kcall P [] ov n F as h0 = some (.bool true, h')) :
    Calls P F args W fun e W' => e = .returned (.bool true) ∧ Below W.heap.size W W' := by
  obtain ⟨μ, v, s, _⟩ := absA_good ts args.toList ds p _ _ _ _ base hok hA ha (es_empty W)
  have hs := (kcall_sound hP hov n).enter (enters_of hen) hc
  refine (hs μ W args s.r (fun g hg => by cases hg) v).mono fun e W' ⟨μ', v', he, hv, _, hx⟩ => ?_
  cases hv
  refine ⟨he, hx.os, hx.tape, hx.output, hx.size, fun k hk => hx.keep k hk ?_⟩
  rintro ⟨i, m, b, h1, h2, h3, h4⟩
  rw [s.ro i b h3] at h4
  cases h4

/-- A function without arguments that answers with a bool, asked where nothing is known: so it answers anywhere, and may stand as said. -/
theorem closed_sound {call : ACall} (hcall : CallSound P [] call) {f : FuncId} (hen : entersB P f = true) {b : Bool} {h1 : AH} (hc : call f [] AH.empty = some (.bool b, h1)) :
    CallSound P [] (fun f' args h => if f' = f then (match args with | [] => some (.bool b, h) | _ => none) else none) := by
  intro f' args h r h' hq
  simp only at hq
  split at hq
  · rename_i e
    subst e
    split at hq
    · simp only [Option.some.injEq, Prod.mk.injEq] at hq
      obtain ⟨rfl, rfl⟩ := hq
      have hs := hcall.enter (enters_of hen) hc
      refine .inl ⟨enters_of hen, fun μ w cargs hr hg ha => ?_⟩
      refine (hs (fun _ => none) w cargs (es_empty w).r (fun g hg => by cases hg) ?_).mono ?_
      · cases hca : cargs.toList with
        | nil => exact .nil
        | cons x l => rw [hca] at ha; cases ha
      rintro e w' ⟨μ', v', he, hv, hr', hx⟩
      cases hv
      have hkeep : ∀ cb, cb < w.heap.size → w'.heap[cb]? = w.heap[cb]? := fun cb hcb => hx.keep cb hcb (by
        rintro ⟨i, m, b, h1, _⟩
        cases h1)
      refine ⟨μ, .bool b, he, .bool b, ⟨hr.dom, fun i m hm => Nat.lt_of_lt_of_le (hr.hi i m hm) hx.size, hr.has, fun i m bb hm hb hd => ?_, hr.excl, hr.par⟩,
        ⟨Nat.le_refl _, fun _ _ => rfl, fun _ _ _ => rfl, hx.os, hx.tape, hx.output, hx.size, fun cb hcb _ => hkeep cb hcb, fun _ _ h => h⟩⟩
      exact (hr.lies i m bb hm hb hd).mono (Mu.le_refl _) (hkeep _ (hr.hi i m hm))
    · cases hq
  · cases hq
end Go.Proofs.Ytbcpmbggidemdaa.AI
