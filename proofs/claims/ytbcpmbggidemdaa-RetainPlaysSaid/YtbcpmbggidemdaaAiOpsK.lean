/- copy, slices, conversions, min and max. -/
import Derived.Test.YtbcpmbggidemdaaAiOpsJ
namespace Go.Proofs.Ytbcpmbggidemdaa.AI
open Go
set_option linter.unusedSimpArgs false

variable {P : Program} {μ : Mu} {h : AH} {w : World}

theorem aCopy_good (r : Rel μ h w) {ts : Array TypeId} {ty : TypeId} {d x v : AVal} {h' : AH} (ha : aCopy P ts.toList d x h = some (v, h')) {dv xv : Value} (hd : VR μ d dv) (hx : VR μ x xv) :
    GoodH P μ h w (Builtin.copy_ ts ty #[dv, xv]) v h' := by
  unfold aCopy at ha
  split at ha
  · rename_i dt rest hts
    have h0 : ts[0]? = some dt := by
      have : ts.toList[0]? = some dt := by rw [hts]; rfl
      simpa using this
    split at ha
    · rename_i e hu
      simp only [Option.bind_eq_some_iff] at ha
      obtain ⟨sz, hsz, ha⟩ := ha
      split at ha
      · cases ha
      rename_i hsz0
      simp only [Option.bind_eq_some_iff, Prod.exists] at ha
      obtain ⟨n, xs, hsrc, ha⟩ := ha
      obtain ⟨hl, hln, hfc⟩ := aSource_good (P := P) r hsrc hx
      have hrun : ∀ (base : Option Addr) (len cap : Nat) (C : Array Value) (w' : World), (Builtin.firstCells sz (Nat.min n len) xv).run P w = .ok C w → (match base with | some a => storeCells a C.toList | none => pure ()).run P w = .ok () w' →
          (Builtin.copy_ ts ty #[.slice base len cap, xv]).run P w = .ok (.int .i64 (Nat.min n len)) w' := by
        intro base len cap C w' hC hst
        have hn : (Builtin.lenOf xv).run P w = .ok n w := hln w.drawn
        simp only [Builtin.copy_, h0, Sem.run_bind, und_run dt hu, Result.andThen_ok, hn, size_run e hsz]
        simp only [show ∀ a b : Nat, Nat.min a b = min a b from fun _ _ => rfl] at hC ⊢
        simp [h0, und_run dt hu, hn, size_run e hsz, hC]
        cases base with
        | none => simp at hst ⊢; exact ⟨rfl, hst⟩
        | some a => simp at hst ⊢; rw [hst]; rfl
      split at ha
      · simp only [Option.some.injEq, Prod.mk.injEq] at ha
        obtain ⟨rfl, rfl⟩ := ha
        cases hd
        obtain ⟨C, hC, hCr⟩ := hfc 0 (by omega)
        refine ⟨_, w, μ, hrun none 0 0 C w (by simpa using hC w.drawn) rfl, ?_, r, Ext.refl _ _ _⟩
        simpa using VR.int .i64 0
      · rename_i i off z len cap
        split at ha
        · rename_i hk
          simp only [Option.some.injEq, Prod.mk.injEq] at ha
          obtain ⟨rfl, rfl⟩ := ha
          obtain ⟨C, hC, hCr⟩ := hfc 0 (by omega)
          have hc0 : C.toList = [] := by
            have := hCr.length
            simp at this
            simpa using this.symm
          have hm : Nat.min n len = 0 := hk
          have : ∀ (base : Addr) (c : Nat), GoodH P μ h w (Builtin.copy_ ts ty #[.slice (some base) len c, xv]) (.int .i64 0) h := fun base c => by
            refine ⟨_, w, μ, hrun (some base) len c C w (by rw [hm]; exact hC w.drawn) (by rw [hc0]; simp [storeCells]), ?_, r, Ext.refl _ _ _⟩
            rw [hm]; exact VR.int .i64 0
          cases hd with
          | slice => exact this _ _
          | sliceE => exact this _ _
        · rename_i hk
          split at ha
          · rename_i hz
            subst hz
            simp only [Option.map_eq_some_iff, Prod.mk.injEq] at ha
            obtain ⟨h1, hw, rfl, rfl⟩ := ha
            obtain ⟨C, hC, hCr⟩ := hfc (min n len) (Nat.min_le_left _ _)
            cases hd with
            | slice hm hz2 hle hc hcap hr =>
              obtain ⟨w', hst, hrel, hext⟩ := write_good (P := P) r hw hm hCr
              exact ⟨_, w', μ, hrun _ len _ C w' (hC w.drawn) hst, .int _ _, hrel, hext⟩
            | sliceE => simp at hk
          · cases ha
      · cases ha
    · cases ha
  · cases ha

inductive OVR (μ : Mu) : Option AVal → Option Value → Prop
  | none : OVR μ none none
  | some {a : AVal} {v : Value} (h : VR μ a v) : OVR μ (some a) (some v)

theorem aBound_good {x : Option AVal} {dflt most n : Nat} (hb : aBound x dflt most = some n) {xv : Option Value} (hx : OVR μ x xv) :
    (x = none ∧ xv = none ∧ n = dflt) ∨ (∃ k i, xv = some (.int k i) ∧ 0 ≤ i ∧ i ≤ most ∧ n = i.toNat) := by
  unfold aBound at hb
  cases hx with
  | none =>
    simp only [Option.some.injEq] at hb
    exact .inl ⟨rfl, rfl, hb.symm⟩
  | some hv =>
    rename_i a v
    cases a <;> simp only [reduceCtorEq] at hb
    rename_i k i
    split at hb
    · rename_i hc
      simp only [Option.some.injEq] at hb
      cases hv
      exact .inr ⟨k, i, rfl, hc.1, hc.2, hb.symm⟩
    · cases hb

theorem sliceBound_run {k : IntKind} {i : Int} {y : Nat} {c : BoundsCode} (h0 : 0 ≤ i) (h1 : i ≤ y) : (Instr.sliceBound (.int k i) y c).run P w = .ok i.toNat w := by
  simp [Instr.sliceBound, asIntOf_good, h0, h1]

/-- The bounds of a slice expression. -/
theorem bounds_good {isS : Bool} {len cap cap' : Nat} {lo hi mx : Option AVal} {lv hv mv : Option Value} {m b l : Nat}
    (hm : aBound mx cap cap = some m) (hb : aBound hi len m = some b) (hl : aBound lo 0 b = some l) (hlen : len ≤ cap) (hcap : cap ≤ cap')
    (vl : OVR μ lo lv) (vh : OVR μ hi hv)
    (vm : OVR μ mx mv) (hmx : (mx.isSome && hi.isNone) = false) :
    (Instr.sliceBounds isS len cap' lv hv mv).run P w = .ok (l, b, if mx.isSome then m else cap') w ∧ l ≤ b ∧ (b ≤ m ∨ (hi = none ∧ b = len)) ∧ (mx = none → m = cap) ∧ m ≤ cap := by
  rcases aBound_good hm vm with ⟨rfl, rfl, rfl⟩ | ⟨k, i, rfl, i0, i1, rfl⟩
  · rcases aBound_good hb vh with ⟨rfl, rfl, rfl⟩ | ⟨k2, i2, rfl, j0, j1, rfl⟩
    · rcases aBound_good hl vl with ⟨rfl, rfl, rfl⟩ | ⟨k3, i3, rfl, g0, g1, rfl⟩
      · refine ⟨by simp [Instr.sliceBounds], by omega, .inr ⟨rfl, rfl⟩, fun _ => rfl, Nat.le_refl _⟩
      · refine ⟨?_, by omega, .inr ⟨rfl, rfl⟩, fun _ => rfl, Nat.le_refl _⟩
        simp [Instr.sliceBounds, sliceBound_run g0 g1]
    · have hhi : hi ≠ none := by rintro rfl; cases vh
      rcases aBound_good hl vl with ⟨rfl, rfl, rfl⟩ | ⟨k3, i3, rfl, g0, g1, rfl⟩
      · refine ⟨?_, by omega, .inl (by omega), fun _ => rfl, Nat.le_refl _⟩
        simp [Instr.sliceBounds, sliceBound_run j0 (show i2 ≤ (cap' : Int) by omega)]
      · refine ⟨?_, by omega, .inl (by omega), fun _ => rfl, Nat.le_refl _⟩
        simp [Instr.sliceBounds, sliceBound_run j0 (show i2 ≤ (cap' : Int) by omega), sliceBound_run g0 g1]
  · have hmx2 : mx.isSome = true := by cases vm; rfl
    have hmn : mx ≠ none := by rintro rfl; simp at hmx2
    rcases aBound_good hb vh with ⟨rfl, rfl, rfl⟩ | ⟨k2, i2, rfl, j0, j1, rfl⟩
    · simp [hmx2] at hmx
    · rcases aBound_good hl vl with ⟨rfl, rfl, rfl⟩ | ⟨k3, i3, rfl, g0, g1, rfl⟩
      · refine ⟨?_, by omega, .inl (by omega), fun e => absurd e hmn, by omega⟩
        simp [Instr.sliceBounds, sliceBound_run i0 (show i ≤ (cap' : Int) by omega), sliceBound_run j0 (show i2 ≤ ((i.toNat : Nat) : Int) by omega), hmx2]
      · refine ⟨?_, by omega, .inl (by omega), fun e => absurd e hmn, by omega⟩
        simp [Instr.sliceBounds, sliceBound_run i0 (show i ≤ (cap' : Int) by omega), sliceBound_run j0 (show i2 ≤ ((i.toNat : Nat) : Int) by omega), sliceBound_run g0 g1, hmx2]

theorem aSlice_good (r : Rel μ h w) {t : TypeId} {x v : AVal} {lo hi mx : Option AVal} (hs : aSlice P t x lo hi mx h = some v) {xv : Value} (hx : VR μ x xv) {lv hv mv : Option Value}
    (vl : OVR μ lo lv) (vh : OVR μ hi hv)
    (vm : OVR μ mx mv) : Good P μ w (Instr.sliceAt t xv lv hv mv) v := by
  unfold aSlice at hs
  split at hs
  · rename_i s hu
    split at hs
    · cases hs
    · rename_i hmx
      simp only [Option.bind_eq_some_iff, Option.some.injEq] at hs
      obtain ⟨b, hb, l, hl, rfl⟩ := hs
      cases hx
      have hmx' : mx = none := by cases mx <;> simp_all
      subst hmx'
      cases vm
      obtain ⟨hrun, h1, h2, _, _⟩ := bounds_good (P := P) (w := w) (isS := false) (cap := s.length) (cap' := s.length) (mx := none) (mv := none) (m := s.length) rfl hb hl (Nat.le_refl _) (Nat.le_refl _) vl vh .none (by simp)
      refine ⟨_, ?_, .str _⟩
      simp only [Instr.sliceAt, Sem.run_bind, und_run t hu, Result.andThen_ok, Instr.slice, size_mk]
      simp only [Option.isSome_none, Bool.false_eq_true, if_false] at hrun ⊢
      simp [hrun]
      apply ByteArray.ext
      simp [ByteArray.data_extract, List.extract_eq_take_drop, List.drop_take]
  · rename_i e a len cap hu
    split at hs
    · cases hs
    · rename_i hmx
      simp only [Option.bind_eq_some_iff] at hs
      obtain ⟨sz, hsz, m, hm, b, hb, l, hl, hs⟩ := hs
      have hmx' : (mx.isSome && hi.isNone) = false := by revert hmx; cases mx <;> cases hi <;> simp
      split at hs
      · simp only [Option.some.injEq] at hs
        subst hs
        cases hx
        obtain ⟨hrun, h1, h2, h3, h4⟩ := bounds_good (P := P) (w := w) (isS := true) (cap' := 0) hm hb hl (Nat.le_refl _) (Nat.le_refl _) vl vh vm hmx'
        have hm0 : m = 0 := by omega
        have hb0 : b = 0 := by rcases h2 with h2 | ⟨_, h2⟩ <;> omega
        have hl0 : l = 0 := by omega
        subst hm0 hb0 hl0
        refine ⟨.slice none 0 0, ?_, .slice0⟩
        simp only [Instr.sliceAt, Sem.run_bind, und_run t hu, Result.andThen_ok, Instr.slice]
        simp [hrun, size_run e hsz]
      · rename_i i off z
        have gen : ∀ (a : Addr) (cap' : Nat), len ≤ cap → cap ≤ cap' → (Instr.sliceAt t (.slice (some a) len cap') lv hv mv).run P w =
            .ok (.slice (if (if mx.isSome then m else cap') = l then some a else some (a.add (l * sz))) (b - l) ((if mx.isSome then m else cap') - l)) w ∧ l ≤ b ∧ (b ≤ m ∨ (hi = none ∧ b = len)) ∧ (mx = none → m = cap) ∧ m ≤ cap := by
          intro a cap' g1 g2
          obtain ⟨hrun, h1⟩ := bounds_good (P := P) (w := w) (isS := true) (cap' := cap') hm hb hl g1 g2 vl vh vm hmx'
          refine ⟨?_, h1⟩
          simp only [Instr.sliceAt, Sem.run_bind, und_run t hu, Result.andThen_ok, Instr.slice]
          simp [hrun, size_run e hsz]
        split at hs
        · rename_i hc
          obtain ⟨rfl, rfl, rfl, rfl, rfl⟩ := hc
          simp only [Option.some.injEq] at hs
          subst hs
          cases hx with
          | slice hm2 hz2 => omega
          | sliceE _ _ _ a hma =>
            obtain ⟨hrun, h1, h2, h3, h4⟩ := gen a 0 (Nat.le_refl _) (Nat.le_refl _)
            have hl0 : l = 0 := by omega
            subst hl0
            exact ⟨_, hrun, by simpa using VR.sliceE (μ := μ) i off 0 a (.inl rfl)⟩
        · split at hs
          · rename_i hc0 hc
            obtain ⟨rfl, hz, hbm⟩ := hc
            simp only [Option.some.injEq] at hs
            subst hs
            cases hx with
            | slice hm2 hz2 hle hcc hcap hr =>
              rename_i cap' mm
              have hcc' : cap ≤ cap' := by rcases hcap with rfl | ⟨_, _, h3⟩ <;> omega
              obtain ⟨hrun, h1, h2, h3, h4⟩ := gen ⟨mm.cb, mm.base + off, none⟩ cap' hle hcc'
              refine ⟨_, hrun, ?_⟩
              have hml : m * z ≤ cap * z := Nat.mul_le_mul_right _ h4
              have hlm : l * z ≤ m * z := Nat.mul_le_mul_right _ (by omega)
              by_cases hq : (if mx.isSome then m else cap') = l
              · rw [if_pos hq, hq]
                have hml2 : m = l := by
                  cases mx with
                  | none => have := h3 rfl; simp at hq; omega
                  | some _ => simpa using hq
                subst hml2
                have : b = m := by omega
                subst this
                simpa using VR.sliceE (μ := μ) i (off + b * z) z ⟨mm.cb, mm.base + off, none⟩ (.inr ⟨mm, hm2⟩)
              · rw [if_neg hq]
                have hadd : Addr.add ⟨mm.cb, mm.base + off, none⟩ (l * z) = ⟨mm.cb, mm.base + (off + l * z), none⟩ := by unfold Addr.add; split <;> simp_all [Nat.add_assoc]
                rw [hadd]
                cases mx with
                | none =>
                  obtain rfl := h3 rfl
                  simp only [Option.isSome_none, Bool.false_eq_true, if_false] at hq ⊢
                  have hlc : l * z ≤ cap' * z := Nat.mul_le_mul_right _ (by omega)
                  refine .slice hm2 hz2 (by omega) (by rw [Nat.sub_mul]; omega) ?_ (by rw [Nat.sub_mul]; omega)
                  rcases hcap with rfl | ⟨g1, g2, g3⟩
                  · exact .inl rfl
                  · exact .inr ⟨g1, by rw [Nat.sub_mul]; omega, by omega⟩
                | some mxv =>
                  simp only [Option.isSome_some, if_true] at hq ⊢
                  have hmc : m * z ≤ cap' * z := Nat.mul_le_mul_right _ (by omega)
                  exact .slice hm2 hz2 (by omega) (by rw [Nat.sub_mul]; omega) (.inl rfl) (by rw [Nat.sub_mul]; omega)
            | sliceE _ _ _ a hma =>
              obtain ⟨hrun, h1, h2, h3, h4⟩ := gen a 0 (Nat.le_refl _) (Nat.le_refl _)
              have hm0 : m = 0 := by omega
              have hl0 : l = 0 := by omega
              have hb0 : b = 0 := by omega
              subst hm0 hl0 hb0
              refine ⟨_, hrun, ?_⟩
              simp
              exact VR.sliceE (μ := μ) i _ z a hma
          · cases hs
  · rename_i n e i off hu
    split at hs
    · cases hs
    · rename_i hmx
      simp only [Option.bind_eq_some_iff] at hs
      obtain ⟨sz, hsz, m, hm, b, hb, l, hl, cs, hrow, hs⟩ := hs
      have hmx' : (mx.isSome && hi.isNone) = false := by revert hmx; cases mx <;> cases hi <;> simp
      split at hs
      · rename_i hc
        obtain ⟨hz, hbm, hfit⟩ := hc
        simp only [Option.some.injEq] at hs
        subst hs
        cases hx with
        | ptr hm2 =>
          rename_i mm
          obtain ⟨g1, g2, _⟩ := r.row hm2 hrow
          obtain ⟨hrun, h1, h2, h3, h4⟩ := bounds_good (P := P) (w := w) (isS := false) (cap' := n) hm hb hl (Nat.le_refl _) (Nat.le_refl _) vl vh vm hmx'
          have hmm : (if mx.isSome then m else n) = m := by
            cases mx with
            | none => simpa using (h3 rfl).symm
            | some _ => rfl
          rw [hmm] at hrun
          refine ⟨.slice (some (if m = l then ⟨mm.cb, mm.base + off, none⟩ else Addr.add ⟨mm.cb, mm.base + off, none⟩ (l * sz))) (b - l) (m - l), ?_, ?_⟩
          · simp only [Instr.sliceAt, Sem.run_bind, und_run t hu, Result.andThen_ok, Instr.sureAddr]
            simp [hrun, size_run e hsz]
          · by_cases hq : m = l
            · rw [if_pos hq]
              have : b = m := by omega
              subst this hq
              simpa using VR.sliceE (μ := μ) i (off + b * sz) sz ⟨mm.cb, mm.base + off, none⟩ (.inr ⟨mm, hm2⟩)
            · rw [if_neg hq]
              have hadd : Addr.add ⟨mm.cb, mm.base + off, none⟩ (l * sz) = ⟨mm.cb, mm.base + (off + l * sz), none⟩ := by unfold Addr.add; split <;> simp_all [Nat.add_assoc]
              rw [hadd]
              have hmz : m * sz ≤ n * sz := Nat.mul_le_mul_right _ h4
              have hlz : l * sz ≤ m * sz := Nat.mul_le_mul_right _ (by omega)
              exact .slice hm2 hz (by omega) (by rw [Nat.sub_mul]; omega) (.inl rfl) (by rw [Nat.sub_mul]; omega)
      · cases hs
  · cases hs

theorem max2_good {a b v : AVal} (hv : aMax2 a b = some v) {x y : Value} (hx : VR μ a x) (hy : VR μ b y) : Good P μ w (Builtin.max2 x y) v := by
  unfold aMax2 at hv
  split at hv
  · simp only [Option.some.injEq] at hv
    subst hv
    cases hx; cases hy
    exact ⟨_, by simp [Builtin.max2], .int _ _⟩
  · cases hv
theorem min2_good {a b v : AVal} (hv : aMin2 a b = some v) {x y : Value} (hx : VR μ a x) (hy : VR μ b y) : Good P μ w (Builtin.min2 x y) v := by
  unfold aMin2 at hv
  split at hv
  · simp only [Option.some.injEq] at hv
    subst hv
    cases hx; cases hy
    exact ⟨_, by simp [Builtin.min2], .int _ _⟩
  · cases hv
theorem aFold_good {f : AVal → AVal → Option AVal} {g : Value → Value → Sem Value} (hfg : ∀ {a b v : AVal}, f a b = some v → ∀ {x y : Value}, VR μ a x → VR μ b y → Good P μ w (g x y) v) :
    ∀ (l : List AVal) (a v : AVal) (l' : List Value) (x : Value), aFold f a l = some v → VR μ a x → VRs μ l l' → Good P μ w (l'.foldlM g x) v
  | [], a, v, l', x, hf, hx, hl => by
      cases hl
      simp only [aFold, Option.some.injEq] at hf
      subst hf
      exact ⟨x, rfl, hx⟩
  | b :: l, a, v, l', x, hf, hx, hl => by
      cases hl with
      | cons hy hl =>
        simp only [aFold, Option.bind_eq_some_iff] at hf
        obtain ⟨z, hz, hf⟩ := hf
        obtain ⟨zv, hzr, hzv⟩ := hfg hz hx hy
        obtain ⟨vv, hr, hv⟩ := aFold_good hfg l z v _ zv hf hzv hl
        exact ⟨vv, by simp [List.foldlM_cons, hzr, hr], hv⟩
theorem aMax_good {l : List AVal} {v : AVal} (hm : aMM aMax2 l = some v) {args : Array Value} (ha : VRs μ l args.toList) (ts : Array TypeId) (ty : TypeId) : Good P μ w (Builtin.max_ ts ty args) v := by
  cases l with
  | nil => simp [aMM] at hm
  | cons a l =>
    simp only [aMM] at hm
    cases hl : args.toList with
    | nil => rw [hl] at ha; cases ha
    | cons x l' =>
      rw [hl] at ha
      cases ha with
      | cons hx hl' =>
        obtain ⟨vv, hr, hv⟩ := aFold_good (P := P) (w := w) (g := Builtin.max2) max2_good l a v l' x hm hx hl'
        exact ⟨vv, by simp only [Builtin.max_, hl]; exact hr, hv⟩
theorem aMin_good {l : List AVal} {v : AVal} (hm : aMM aMin2 l = some v) {args : Array Value} (ha : VRs μ l args.toList) (ts : Array TypeId) (ty : TypeId) : Good P μ w (Builtin.min_ ts ty args) v := by
  cases l with
  | nil => simp [aMM] at hm
  | cons a l =>
    simp only [aMM] at hm
    cases hl : args.toList with
    | nil => rw [hl] at ha; cases ha
    | cons x l' =>
      rw [hl] at ha
      cases ha with
      | cons hx hl' =>
        obtain ⟨vv, hr, hv⟩ := aFold_good (P := P) (w := w) (g := Builtin.min2) min2_good l a v l' x hm hx hl'
        exact ⟨vv, by simp only [Builtin.min_, hl]; exact hr, hv⟩
end Go.Proofs.Ytbcpmbggidemdaa.AI
