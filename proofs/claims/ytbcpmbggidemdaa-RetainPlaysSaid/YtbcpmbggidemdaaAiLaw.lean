/- A law: from what the abstract machine says to the row. -/
import Derived.Test.YtbcpmbggidemdaaAiEntry
import Derived.Carry
namespace Go.Proofs.Ytbcpmbggidemdaa.AI
open Go Go.RowKit Go.ChangeShapes
set_option linter.unusedSimpArgs false

variable {P : Program} {H : Type}

/-- The shape of a datum of a type, to a depth. -/
def TD (P : Program) : Nat → TypeId → DataW H → Prop
  | 0, _, _ => True
  | k + 1, t, d =>
    match P.underlying t with
    | some .bool => ∃ b, d = .lit (.bool b)
    | some (.int q) => ∃ n, d = .lit (.int q n) ∧ (Lit.int q n).wf = true
    | some .string => ∃ l : List UInt8, d = .lit (.string l) ∧ l.length ≤ maxLen
    | some (.slice e) => d = .nil ∨ ∃ es sp, d = .slice es sp ∧ es.length ≤ maxLen ∧ ∀ (i : Nat) x, es[i]? = some x → TD P k e x
    | some (.struct fs) => ∃ ps, d = .agg ps ∧ ps.length = fs.size ∧ ∀ (i : Nat) f x, fs[i]? = some f → ps[i]? = some x → TD P k f.type x
    | some (.array n e) => ∃ ps, d = .agg ps ∧ ps.length = n ∧ ∀ (i : Nat) x, ps[i]? = some x → TD P k e x
    | _ => True
def TDs (P : Program) (k : Nat) : List TypeId → List (DataW H) → Prop
  | [], [] => True
  | t :: ts, d :: ds => TD P k t d ∧ TDs P k ts ds
  | _, _ => False

section
variable {enc : TypeId × Value → H} {w : World} {base : Nat} {sp : Nat → Bool} {hd : Bool}

theorem td_of_trod : ∀ (k fuel : Nat) (t : TypeId) (cs : List Value) (d : DataW H) (ps : List MemPlace), DataW.trod enc P w base sp hd fuel t cs = some (d, ps) → TD P k t d
  | 0, _, _, _, _, _, _ => trivial
  | _ + 1, 0, _, _, _, _, h => by simp [DataW.trod] at h
  | k + 1, fuel + 1, t, cs, d, ps, h => by
      have ih := td_of_trod k fuel
      unfold TD
      simp only [DataW.trod] at h
      split
      · rename_i hu
        simp only [hu] at h
        split at h
        all_goals first | (exfalso; simp_all; done) | skip
        simp only [Option.some.injEq, Prod.mk.injEq] at h
        exact ⟨_, h.1.symm⟩
      · rename_i q hu
        simp only [hu] at h
        split at h
        all_goals first | (exfalso; simp_all; done) | skip
        rename_i he
        simp only [Option.some.injEq, TypeDesc.int.injEq] at he
        subst he
        split at h
        · rename_i hc
          simp only [Option.some.injEq, Prod.mk.injEq] at h
          exact ⟨_, h.1.symm, hc.2⟩
        · cases h
      · rename_i hu
        simp only [hu] at h
        split at h
        all_goals first | (exfalso; simp_all; done) | skip
        split at h
        · rename_i hc
          simp only [Option.some.injEq, Prod.mk.injEq] at h
          exact ⟨_, h.1.symm, by simpa using hc⟩
        · cases h
      · rename_i e hu
        simp only [hu] at h
        split at h
        all_goals first | (exfalso; simp_all; done) | skip
        · simp only [Option.some.injEq, Prod.mk.injEq] at h
          exact .inl h.1.symm
        · rename_i he
          simp only [Option.some.injEq, TypeDesc.slice.injEq] at he
          subst he
          right
          split at h
          · rename_i hc
            simp only [Option.bind_eq_some_iff, Option.map_eq_some_iff, Prod.mk.injEq] at h
            obtain ⟨xs, hxs, ys, hys, rfl, _⟩ := h
            obtain ⟨x1, x2⟩ := mapM_some hxs
            simp only [List.length_range] at x1
            refine ⟨_, _, rfl, by simp [x1]; omega, fun i x hx => ?_⟩
            rw [List.getElem?_map, Option.map_eq_some_iff] at hx
            obtain ⟨y, hy, rfl⟩ := hx
            have hi := (List.getElem?_eq_some_iff.1 hy).1
            obtain ⟨y', hy', hf⟩ := x2 i i (List.getElem?_range (by omega))
            rw [hy] at hy'
            simp only [Option.some.injEq] at hy'
            subst hy'
            simp only [Option.bind_eq_some_iff] at hf
            obtain ⟨c, _, hc2⟩ := hf
            exact ih _ _ _ _ hc2
          · cases h
      · rename_i fs hu
        simp only [hu] at h
        split at h
        all_goals first | (exfalso; simp_all; done) | skip
        simp only [Option.map_eq_some_iff, Prod.mk.injEq] at h
        obtain ⟨xs, hxs, rfl, _⟩ := h
        obtain ⟨x1, x2⟩ := mapM_some hxs
        refine ⟨_, rfl, by simp [x1], fun i f x hf hx => ?_⟩
        rw [List.getElem?_map, Option.map_eq_some_iff] at hx
        obtain ⟨y, hy, rfl⟩ := hx
        obtain ⟨y', hy', hf'⟩ := x2 i f (by simpa using hf)
        rw [hy] at hy'
        simp only [Option.some.injEq] at hy'
        subst hy'
        exact ih _ _ _ _ hf'
      · rename_i n e hu
        simp only [hu] at h
        split at h
        all_goals first | (exfalso; simp_all; done) | skip
        simp only [Option.map_eq_some_iff, Prod.mk.injEq] at h
        obtain ⟨xs, hxs, rfl, _⟩ := h
        obtain ⟨x1, x2⟩ := mapM_some hxs
        simp only [List.length_range] at x1
        refine ⟨_, rfl, by simp [x1], fun i x hx => ?_⟩
        rw [List.getElem?_map, Option.map_eq_some_iff] at hx
        obtain ⟨y, hy, rfl⟩ := hx
        have hi := (List.getElem?_eq_some_iff.1 hy).1
        obtain ⟨y', hy', hf'⟩ := x2 i i (List.getElem?_range (by omega))
        rw [hy] at hy'
        simp only [Option.some.injEq] at hy'
        subst hy'
        exact ih _ _ _ _ hf'
      · trivial

theorem tds_of_trodAll (k : Nat) : ∀ {ts : List TypeId} {vs : List Value} {ds : List (DataW H)} {ps : List MemPlace}, DataW.TrodAll enc P w base sp hd ts vs ds ps → TDs P k ts ds
  | [], [], [], _, _ => trivial
  | _ :: _, _ :: _, _ :: _, _, ⟨_, _, ⟨fuel, h⟩, hr, _⟩ => ⟨td_of_trod k fuel _ _ _ _ h, tds_of_trodAll k hr⟩
  | [], _ :: _, _, _, h => by simp [DataW.TrodAll] at h
  | [], [], _ :: _, _, h => by simp [DataW.TrodAll] at h
  | _ :: _, [], _, _, h => by simp [DataW.TrodAll] at h
  | _ :: _, _ :: _, [], _, h => by simp [DataW.TrodAll] at h

theorem trodAll_below (hl : laidOutB P = true) {W W' : World} (hb : Below W.heap.size W W') : ∀ {ts : List TypeId} {vs : List Value} {ds : List (DataW H)} {ps : List MemPlace}, ts.all (fun t => P.readableRec t && decide (t < P.types.size)) = true →
    DataW.TrodAll enc P W 0 (fun _ => true) true ts vs ds ps → (∀ x ∈ ps, x.block < W.heap.size) → DataW.TrodAll enc P W' 0 (fun b => decide (b < W.heap.size)) true ts vs ds ps
  | [], [], [], _, _, h, _ => h
  | t :: ts, v :: vs, d :: ds, _, ht, ⟨p, q, h, hr, e⟩, hlt => by
      subst e
      simp only [List.all_cons, Bool.and_eq_true, decide_eq_true_eq] at ht
      exact ⟨p, q, Below.trod hl ht.1.1 ht.1.2 h hb (fun x hx => hlt x (by simp [hx])), trodAll_below hl hb ht.2 hr (fun x hx => hlt x (by simp [hx])), rfl⟩
  | [], _ :: _, _, _, _, h, _ => by simp [DataW.TrodAll] at h
  | [], [], _ :: _, _, _, h, _ => by simp [DataW.TrodAll] at h
  | _ :: _, [], _, _, _, h, _ => by simp [DataW.TrodAll] at h
  | _ :: _, _ :: _, [], _, _, h, _ => by simp [DataW.TrodAll] at h
end

def AH.empty : AH := ⟨0, .lf⟩
/-- The start: nothing is known of. -/
theorem es_empty (w : World) : ES (fun _ => none) AH.empty w :=
  ⟨⟨(fun _ _ h => by cases h), (fun _ _ h => by cases h), (fun _ _ h => by cases h), (fun _ _ _ h => by cases h), (fun _ _ _ _ _ _ _ h => by cases h), (fun _ _ _ h => by cases h)⟩,
    fun i b h => by simp [AH.empty, AH.get, Tr.get] at h⟩

/-- What a law's text comes to: true, and nothing that was there has turned. -/
theorem law_calls (hP : progOk P = true) {F : Nat} (hen : entersB P F = true) {ov : AOver} (hov : ∀ f g, ov f = some g → CallSound P [] (fun f' args h => if f' = f then g args h else none))
    {enc : TypeId × Value → H} {W : World} {n : Nat} {base : Nat} {ts : List TypeId} {args : Array Value} {ds : List (DataW H)} {p : List MemPlace}
    (hok : ∀ (j : Nat) (t : TypeId) (v : Value), ts[j]? = some t → args.toList[j]? = some v → Value.okWide P W .any base t v)
    (hA : DataW.TrodAll enc P W 0 (fun _ => true) true ts args.toList ds p)
    {as : List AVal} {h0 h' : AH} (ha : absA P ts ds AH.empty = some (as, h0)) (hc : acall P [] ov n F as h0 = some (.bool true, h')) :
    Calls P F args W fun e W' => e = .returned (.bool true) ∧ Below W.heap.size W W' := by
  obtain ⟨μ, v, s, _⟩ := absA_good ts args.toList ds p _ _ _ _ base hok hA ha (es_empty W)
  have hs := (acall_sound (progOk_spec hP) hov n).enter (enters_of hen) hc
  refine (hs μ W args s.r (fun g hg => by cases hg) v).mono fun e W' ⟨μ', v', he, hv, _, hx⟩ => ?_
  cases hv
  refine ⟨he, hx.os, hx.tape, hx.output, hx.size, fun k hk => hx.keep k hk ?_⟩
  rintro ⟨i, m, b, h1, h2, h3, h4⟩
  rw [s.ro i b h3] at h4
  cases h4
end Go.Proofs.Ytbcpmbggidemdaa.AI
