/- RowH, RowG, ArgsA, RowD of the machine, joined. -/
import Derived.Test.YtfppdfmffdkogaaAiArgs
import Derived.ChangeOld
import Derived.OpenShut
import Derived.ChangeArms
namespace Go.Proofs.Ytfppdfmffdkogaa.AI
open Go Go.RowKit
variable {P : Program} {H : Type} {k : Nat}
theorem tds1 {t : TypeId} {ds : List (DataW H)} (h : TDs P k [t] ds) : ∃ a, ds = [a] := by
  match ds, h with
  | [a], _ => exact ⟨a, rfl⟩
theorem tds2 {t u : TypeId} {ds : List (DataW H)} (h : TDs P k [t, u] ds) : ∃ a b, ds = [a, b] := by
  match ds, h with
  | [a, b], _ => exact ⟨a, b, rfl⟩
  | [_], h => exact h.2.elim
theorem tds3 {t u v : TypeId} {ds : List (DataW H)} (h : TDs P k [t, u, v] ds) : ∃ a b c, ds = [a, b, c] := by
  match ds, h with
  | [a, b, c], _ => exact ⟨a, b, c, rfl⟩
  | [_], h => exact h.2.elim
  | [_, _], h => exact h.2.2.elim
theorem tds4 {t u v w : TypeId} {ds : List (DataW H)} (h : TDs P k [t, u, v, w] ds) : ∃ a b c d, ds = [a, b, c, d] := by
  match ds, h with
  | [a, b, c, d], _ => exact ⟨a, b, c, d, rfl⟩
  | [_], h => exact h.2.elim
  | [_, _], h => exact h.2.2.elim
  | [_, _, _], h => exact h.2.2.2.elim
theorem tds5 {t u v w x : TypeId} {ds : List (DataW H)} (h : TDs P k [t, u, v, w, x] ds) : ∃ a b c d e, ds = [a, b, c, d, e] := by
  match ds, h with
  | [a, b, c, d, e], _ => exact ⟨a, b, c, d, e, rfl⟩
  | [_], h => exact h.2.elim
  | [_, _], h => exact h.2.2.elim
  | [_, _, _], h => exact h.2.2.2.elim
  | [_, _, _, _], h => exact h.2.2.2.2.elim
theorem tds6 {t u v w x y : TypeId} {ds : List (DataW H)} (h : TDs P k [t, u, v, w, x, y] ds) : ∃ a b c d e f, ds = [a, b, c, d, e, f] := by
  match ds, h with
  | [a, b, c, d, e, f], _ => exact ⟨a, b, c, d, e, f, rfl⟩
  | [_], h => exact h.2.elim
  | [_, _], h => exact h.2.2.elim
  | [_, _, _], h => exact h.2.2.2.elim
  | [_, _, _, _], h => exact h.2.2.2.2.elim
  | [_, _, _, _, _], h => exact h.2.2.2.2.2.elim
/-- Who stands in for nobody is right. -/
theorem ovNone {P : Program} : OvSound P [] (fun _ => none) := fun f g h => by cases h
/-- A law that is true of all arguments that read so: it returns true, and nothing is turned. -/
theorem law_returns {α : Type} (hP : ProgOk P) {F : Nat} (hen : entersB P F = true) {ov : AOver} (hov : OvSound P [] ov) {enc : TypeId × Value → H} {W : World} {n base : Nat} {ts : List TypeId} {args : Array Value} {ds : List (DataW H)} {p : List MemPlace}
    (hok : ∀ (j : Nat) (t : TypeId) (v : Value), ts[j]? = some t → args.toList[j]? = some v → Value.okWide P W .any base t v)
    (hA : DataW.TrodAll enc P W 0 (fun _ => true) true ts args.toList ds p) (hz : (DataW.weightsEach P ts ds).all (· ≤ reachBytes) = true) {R : AH → List AVal → α → Prop} (ha : AbsAs P H ts R)
    (law : ∀ (h : AH) (as : List AVal) (x : α), Ro h → R h as x → Wp (kcall P [] ov n F as h) fun r _ => r = .bool true) :
    Calls P F args W fun e W' => e = .returned (.bool true) ∧ Below W.heap.size W W' := by
  obtain ⟨as, h1, x, ea, ro, _, hr⟩ := ha.2 ds AH.empty Ro.empty (tws_of (tds_of_trodAll 20 hA) (by simpa using hz))
  obtain ⟨r, h', ec, rfl⟩ := law h1 as x ro hr
  exact law_kcalls hP hen hov hok hA ea ec
end Go.Proofs.Ytfppdfmffdkogaa.AI
namespace Go.Proofs.Ytfppdfmffdkogaa.AI
open Go Go.RowKit
set_option linter.unusedSimpArgs false
variable {P : Program} {H : Type} {k : Nat}

/-- Empty blocks, that nothing leads to. -/
def ghosts : Nat → AH
  | 0 => AH.empty
  | n + 1 => (ghosts n).push ⟨.row [] 0 false, .ro, []⟩
theorem ghosts_n : ∀ n, (ghosts n).n = n
  | 0 => rfl
  | n + 1 => by simp [ghosts, ghosts_n n]
theorem ghosts_es (w : World) : ∀ n, ES (fun _ => none) (ghosts n) w
  | 0 => es_empty w
  | n + 1 => (ghosts_es w n).ghost rfl
theorem ghosts_ro : ∀ n, Ro (ghosts n)
  | 0 => Ro.empty
  | n + 1 => ((ghosts_ro n).push _).1
/-- The start: the variable g's block is known. -/
def laidH (g : Nat) (cs : List AVal) (el : TypeId) : AH := (ghosts g).push ⟨.row cs el false, .ro, []⟩
theorem laidH_ro (g : Nat) (cs : List AVal) (el : TypeId) : Ro (laidH g cs el) := ((ghosts_ro g).push _).1
theorem laidH_get (g : Nat) (cs : List AVal) (el : TypeId) : (laidH g cs el).get g = some ⟨.row cs el false, .ro, []⟩ := by
  unfold laidH; rw [AH.get_push, if_pos (ghosts_n g).symm]
theorem laid_start {W : World} {g : Nat} {C : Array Value} {e : TypeId} {fr : Nat × Nat} {cs : List AVal} {el : TypeId} (hb : W.heap[g]? = some (.cells C e fr)) (hl : cs.length ≤ C.size) (hv : ∀ μ, VRs μ cs (C.toList.take cs.length)) :
    ∃ μ, ES μ (laidH g cs el) W ∧ GOK [g] μ := by
  have hg : g < W.heap.size := by
    rcases Nat.lt_or_ge g W.heap.size with h | h
    · exact h
    · rw [Array.getElem?_eq_none h] at hb; cases hb
  have s := (ghosts_es W g).push (b := ⟨.row cs el false, .ro, []⟩) (m := ⟨g, 0, cs.length, cs.length, false⟩) rfl rfl hg
    ⟨rfl, rfl, Nat.le_refl _, fun _ => rfl, C, e, fr, hb, by simpa using hl, by simpa using hv _, fun h => absurd rfl h, fun h => by cases h⟩
  refine ⟨_, s, fun i hi => ?_⟩
  simp only [List.mem_singleton] at hi
  subst hi
  refine ⟨⟨i, 0, cs.length, cs.length, false⟩, ?_, rfl, rfl⟩
  simp [muNew, ghosts_n]

theorem law_kcallsG (hP : ProgOk P) {F : Nat} (hen : entersB P F = true) {gl : List Nat} {ov : AOver} (hov : OvSound P gl ov)
    {enc : TypeId × Value → H} {W : World} {n : Nat} {base : Nat} {ts : List TypeId} {args : Array Value} {ds : List (DataW H)} {p : List MemPlace}
    (hok : ∀ (j : Nat) (t : TypeId) (v : Value), ts[j]? = some t → args.toList[j]? = some v → Value.okWide P W .any base t v)
    (hA : DataW.TrodAll enc P W 0 (fun _ => true) true ts args.toList ds p)
    {μ0 : Mu} {hs : AH} (s0 : ES μ0 hs W) (g0 : GOK gl μ0)
    {as : List AVal} {h0 h' : AH} (ha : absA P ts ds hs = some (as, h0)) (hc : kcall P gl ov n F as h0 = some (.bool true, h')) :
    Calls P F args W fun e W' => e = .returned (.bool true) ∧ Below W.heap.size W W' := by
  obtain ⟨μ, v, s, hle⟩ := absA_good ts args.toList ds p _ _ _ _ base hok hA ha s0
  have hs := (kcall_sound hP hov n).enter (enters_of hen) hc
  refine (hs μ W args s.r (g0.mono hle) v).mono fun e W' ⟨μ', v', he, hv, _, hx⟩ => ?_
  cases hv
  refine ⟨he, hx.os, hx.tape, hx.output, hx.size, fun k hk => hx.keep k hk ?_⟩
  rintro ⟨i, m, b, h1, h2, h3, h4⟩
  rw [s.ro i b h3] at h4
  cases h4
/-- A law that is true of all arguments that read so, where the variable reads as known. -/
theorem law_returnsG {α : Type} (hP : ProgOk P) {F : Nat} (hen : entersB P F = true) {g : Nat} {cs : List AVal} {el : TypeId} {ov : AOver} (hov : OvSound P [g] ov) {enc : TypeId × Value → H} {W : World} {n base : Nat} {ts : List TypeId} {args : Array Value} {ds : List (DataW H)} {p : List MemPlace}
    (hok : ∀ (j : Nat) (t : TypeId) (v : Value), ts[j]? = some t → args.toList[j]? = some v → Value.okWide P W .any base t v)
    (hA : DataW.TrodAll enc P W 0 (fun _ => true) true ts args.toList ds p) (hz : (DataW.weightsEach P ts ds).all (· ≤ reachBytes) = true)
    {C : Array Value} {e : TypeId} {fr : Nat × Nat} (hb : W.heap[g]? = some (.cells C e fr)) (hl : cs.length ≤ C.size) (hv : ∀ μ, VRs μ cs (C.toList.take cs.length))
    {R : AH → List AVal → α → Prop} (ha : AbsAs P H ts R)
    (law : ∀ (h : AH) (as : List AVal) (x : α), Ro h → h.get g = some ⟨.row cs el false, .ro, []⟩ → R h as x → Wp (kcall P [g] ov n F as h) fun r _ => r = .bool true) :
    Calls P F args W fun e W' => e = .returned (.bool true) ∧ Below W.heap.size W W' := by
  obtain ⟨μ, s0, g0⟩ := laid_start (el := el) hb hl hv
  obtain ⟨as, h1, x, ea, ro, kp, hr⟩ := ha.2 ds (laidH g cs el) (laidH_ro g cs el) (tws_of (tds_of_trodAll 20 hA) (by simpa using hz))
  obtain ⟨r, h', ec, rfl⟩ := law h1 as x ro (kp.get g _ (laidH_get g cs el) (.inl rfl)) hr
  exact law_kcallsG hP hen hov hok hA s0 g0 ea ec
/-- A table of small numbers, as the variable's cells are read. -/
theorem table_cells {enc : TypeId × Value → H} {W : World} {base : Nat} {sp : Nat → Bool} {hd : Bool} {t e : TypeId} {n fuel : Nat} {q : IntKind} {cs : List Value} {ns : List Int} {ps : List MemPlace}
    (ht : P.underlying t = some (.array n e)) (he : P.underlying e = some (.int q)) (hc : P.cellsOf e = 1) (hct : P.cellsOf t = n)
    (h : DataW.trod enc P W base sp hd fuel t cs = some (.agg (ns.map fun x => .lit (.int q x)), ps)) : cs = ns.map fun x => Value.int q x := by
  obtain ⟨xs, m, rfl, hx, hl, hn, hel⟩ := DataW.trod_array ht h
  simp only [Prod.mk.injEq, DataW.agg.injEq] at hx
  have hlen : ns.length = n := by
    have := congrArg List.length hx.1
    simp at this; omega
  rw [hct] at hl
  apply List.ext_getElem?
  intro i
  by_cases hi : i < n
  · have h1 := hel i hi
    rw [hc, Nat.mul_one, List.getElem?_eq_getElem (by omega)] at h1
    obtain ⟨z, e1, e2, _⟩ := DataW.trod_int he h1
    have e3 : cs[i]? = some (.int q z) := by
      have := congrArg (fun l => l[0]?) e1
      simpa [List.getElem?_take_of_lt, List.getElem?_drop] using this
    have e4 : (ns.map fun x => (DataW.lit (.int q x) : DataW H))[i]? = some (.lit (.int q z)) := by
      rw [hx.1, List.getElem?_map, List.getElem?_eq_getElem (by omega), e2]; rfl
    rw [List.getElem?_map, List.getElem?_eq_getElem (by omega)] at e4
    simp only [Option.map_some, Option.some.injEq, DataW.lit.injEq, Lit.int.injEq, true_and] at e4
    rw [e3, List.getElem?_map, List.getElem?_eq_getElem (by omega), e4]; rfl
  · rw [List.getElem?_eq_none (by omega), List.getElem?_eq_none (by simp; omega)]
end Go.Proofs.Ytfppdfmffdkogaa.AI
namespace Go.Proofs.Ytfppdfmffdkogaa.AI
open Go
variable {P : Program} {H : Type} {α : Type} {k : Nat} {t : TypeId}
/-- An array of which each element reads by R. -/
def rArr (R : Rep α) (sz n : Nat) : Rep (List α) := fun h c xs => xs.length = n ∧ c.length = n * sz ∧ ∀ (i : Nat) x, xs[i]? = some x → R h ((c.drop (i * sz)).take sz) x
theorem abs_array {e : TypeId} {n : Nat} {R : Rep α} {sz : Nat} (hu : P.underlying t = some (.array n e)) (hc : P.cellsOf e = sz) (ht : P.cellsOf t = n * sz) (ha : Abs P H k e R) : Abs P H (k + 1) t (rArr R sz n) := by
  refine ⟨fun {h h' c x S} ke r => ?_, fun d h r td => ?_⟩
  · obtain ⟨h1, h2, p⟩ := r
    exact ⟨h1, h2, fun i x hx => ha.1 ke (p i x hx)⟩
  · obtain ⟨td, tw⟩ := td
    simp only [TD, hu] at td
    obtain ⟨ps, rfl, hl, td⟩ := td
    replace td : ∀ (i : Nat) x, ps[i]? = some x → TW P k e x := fun i x hx => ⟨td i x hx, fun y hy => tw y (by simp only [DataW.weights, hu]; exact mem_weightsAll hx hy)⟩
    obtain ⟨c, h1, xs, e1, r1, k1, n1, l1, p1⟩ := absL_reads ha hc ps h r td
    rw [hl] at l1
    refine ⟨c, h1, xs, ?_, r1, k1, ⟨by rw [n1, hl], l1, p1⟩, by rw [l1, ht]⟩
    simp only [absD, hu, hl, e1, l1, ht, if_true]
end Go.Proofs.Ytfppdfmffdkogaa.AI
namespace Go.Proofs.Ytfppdfmffdkogaa.AI
open Go
theorem cells_ints {q : IntKind} {h : AH} {cs : List AVal} {xs : List Int} (hl : cs.length = xs.length) (p : ∀ (i : Nat) x, xs[i]? = some x → rInt q h ((cs.drop (i * 1)).take 1) x) : cs = xs.map (AVal.int q) ∧ ∀ x ∈ xs, q.min ≤ x ∧ x ≤ q.max := by
  have key : ∀ (i : Nat) x, xs[i]? = some x → cs[i]? = some (.int q x) ∧ q.min ≤ x ∧ x ≤ q.max := by
    intro i x hx
    obtain ⟨h1, h2⟩ := p i x hx
    have := congrArg (fun l => l[0]?) h1
    simp only [Nat.mul_one, List.getElem?_take_of_lt (show 0 < 1 by omega), List.getElem?_drop, Nat.add_zero, List.getElem?_cons_zero] at this
    exact ⟨this, h2⟩
  constructor
  · apply List.ext_getElem?
    intro i
    rw [List.getElem?_map]
    by_cases hi : i < xs.length
    · rw [(key i _ (List.getElem?_eq_getElem hi)).1, List.getElem?_eq_getElem hi]; rfl
    · rw [List.getElem?_eq_none (by omega), List.getElem?_eq_none (by omega)]; rfl
  · intro x hx
    obtain ⟨i, hi, rfl⟩ := List.mem_iff_getElem.1 hx
    exact (key i _ (List.getElem?_eq_getElem hi)).2
theorem cells_bools {h : AH} {cs : List AVal} {xs : List Bool} (hl : cs.length = xs.length) (p : ∀ (i : Nat) x, xs[i]? = some x → rBool h ((cs.drop (i * 1)).take 1) x) : cs = xs.map AVal.bool := by
  apply List.ext_getElem?
  intro i
  rw [List.getElem?_map]
  by_cases hi : i < xs.length
  · have h1 := p i _ (List.getElem?_eq_getElem hi)
    have := congrArg (fun l => l[0]?) h1
    simp only [Nat.mul_one, List.getElem?_take_of_lt (show 0 < 1 by omega), List.getElem?_drop, Nat.add_zero, List.getElem?_cons_zero] at this
    rw [this, List.getElem?_eq_getElem hi]; rfl
  · rw [List.getElem?_eq_none (by omega), List.getElem?_eq_none (by omega)]; rfl
end Go.Proofs.Ytfppdfmffdkogaa.AI
