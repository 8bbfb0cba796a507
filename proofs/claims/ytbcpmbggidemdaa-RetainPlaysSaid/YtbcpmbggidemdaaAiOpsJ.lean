/- append, copy, slices, conversions. -/
import Derived.Test.YtbcpmbggidemdaaAiOpsI
namespace Go.Proofs.Ytbcpmbggidemdaa.AI
open Go
set_option linter.unusedSimpArgs false

variable {P : Program} {μ : Mu} {h : AH} {w : World}

theorem bytesOf_VRs (s : List UInt8) : VRs μ (bytesOf s) (s.map fun b => Value.int .u8 b.toNat) := by
  induction s with
  | nil => exact .nil
  | cons b l ih => exact .cons (.int _ _) ih

theorem aSource_good (r : Rel μ h w) {sz n : Nat} {x : AVal} {xs : List AVal} (hs : aSource sz x h = some (n, xs)) {xv : Value} (hx : VR μ x xv) :
    xs.length = n * sz ∧ (∀ d, (Builtin.lenOf xv).run P { w with drawn := d } = .ok n { w with drawn := d }) ∧
    ∀ k, k ≤ n → ∃ C : Array Value, (∀ d, (Builtin.firstCells sz k xv).run P { w with drawn := d } = .ok C { w with drawn := d }) ∧ VRs μ (xs.take (k * sz)) C.toList := by
  unfold aSource at hs
  split at hs
  · simp only [Option.some.injEq, Prod.mk.injEq] at hs
    obtain ⟨rfl, rfl⟩ := hs
    cases hx
    refine ⟨by simp, fun _ => rfl, fun k _ => ⟨#[], fun _ => rfl, by simp; exact .nil⟩⟩
  · rename_i i off z len cap
    split at hs
    · rename_i hl
      subst hl
      simp only [Option.some.injEq, Prod.mk.injEq] at hs
      obtain ⟨rfl, rfl⟩ := hs
      refine ⟨by simp, fun _ => by cases hx <;> rfl, fun k hk => ⟨#[], fun d => ?_, by simp; exact .nil⟩⟩
      obtain rfl : k = 0 := by omega
      cases hx <;> simp [Builtin.firstCells, loadCells, loadCellsFrom]
    · rename_i hl
      split at hs
      · rename_i hz
        subst hz
        simp only [Option.map_eq_some_iff, Prod.mk.injEq] at hs
        obtain ⟨cs, hr, rfl, rfl⟩ := hs
        cases hx with
        | slice hm hz hle hc hcap hroom =>
          rename_i cap' m
          unfold AH.read at hr
          simp only [Option.bind_eq_some_iff] at hr
          obtain ⟨row, hrow, hr⟩ := hr
          split at hr
          · rename_i hb
            simp only [Option.some.injEq] at hr
            subst hr
            obtain ⟨g1, g2, C, e, fr, g3, g4, g5⟩ := r.row hm hrow
            refine ⟨by simp; omega, fun _ => rfl, fun k hk => ?_⟩
            have hkz : k * z ≤ len * z := Nat.mul_le_mul_right _ hk
            refine ⟨C.extract (m.base + off) (m.base + off + k * z), fun d => ?_, ?_⟩
            · simp only [Builtin.firstCells]
              exact loadCells_run (w := { w with drawn := d }) g3 (by omega)
            · rw [Array.toList_extract, List.extract_eq_take_drop, show m.base + off + k * z - (m.base + off) = k * z by omega, List.take_take, Nat.min_eq_left hkz]
              have := (g5.drop off).take (k * z)
              rw [List.drop_take, List.drop_drop, List.take_take, Nat.min_eq_left (by omega)] at this
              exact this
          · cases hr
        | sliceE => exact absurd rfl hl
      · cases hs
  · rename_i s
    split at hs
    · rename_i hz
      subst hz
      simp only [Option.some.injEq, Prod.mk.injEq] at hs
      obtain ⟨rfl, rfl⟩ := hs
      cases hx
      refine ⟨by simp [bytesOf], fun _ => by simp [Builtin.lenOf, size_mk], fun k hk => ?_⟩
      refine ⟨((ByteArray.mk s.toArray).extract 0 k).data.map fun b => Value.int .u8 b.toNat, fun _ => rfl, ?_⟩
      have e : (((ByteArray.mk s.toArray).extract 0 k).data.map fun b => Value.int .u8 b.toNat).toList = (s.take k).map fun b => Value.int .u8 b.toNat := by
        simp [ByteArray.data_extract, List.extract_eq_take_drop]
      rw [e, Nat.mul_one]
      have : (bytesOf s).take k = bytesOf (s.take k) := by simp [bytesOf, List.map_take]
      rw [this]
      exact bytesOf_VRs _
    · cases hs
  · cases hs

theorem cut_ge (need old : Nat) (e : TypeId) (t : Nat) : need ≤ (Question.appendCap need old e).cut t := by
  simp only [Question.cut]
  exact Nat.le_add_right _ _

section app
variable {ts : Array TypeId} {ty st e xt : TypeId} {d : TypeDesc} {base : Option Addr} {sLen sCap sz n by_ : Nat} {xv : Value}

theorem app_room (h0 : ts[0]? = some st) (hu : P.underlying st = some (.slice e)) (hs : szT P e = some sz) (h1 : ts[1]? = some xt) (hd : P.underlying xt = some d) (hz : ∀ k, d ≠ .int k)
    (hn : (Builtin.lenOf xv).run P w = .ok n w) (hle : sLen + n ≤ sCap) {X : Array Value} (hX : (Builtin.firstCells sz n xv).run P w = .ok X w) {w' : World}
    (hst : (match base with | some a => storeCells (a.add (sLen * sz)) X.toList | none => pure ()).run P w = .ok () w') :
    (Builtin.append_ ts ty #[.slice base sLen sCap, xv]).run P w = .ok (.slice base (sLen + n) sCap) w' := by
  have hdd : ∀ {α : Type} (a b : α), (match d with | TypeDesc.int _ => a | _ => b) = b := by intro α a b; cases d <;> first | rfl | exact absurd rfl (hz _)
  simp only [Builtin.append_, h0, Sem.run_bind, und_run st hu, Result.andThen_ok, size_run e hs, h1, und_run xt hd, Sem.run_pure]
  simp [hn, hdd, und_run st hu, size_run e hs, und_run xt hd, hle, hX]
  cases base with
  | none => simp at hst ⊢; exact hst
  | some a => simp at hst ⊢; rw [hst]; rfl

theorem app_grow (h0 : ts[0]? = some st) (hu : P.underlying st = some (.slice e)) (hs : szT P e = some sz) (hb : byT P e = some by_) (h1 : ts[1]? = some xt) (hd : P.underlying xt = some d) (hz : ∀ k, d ≠ .int k)
    (hn : (Builtin.lenOf xv).run P w = .ok n w) (hle : sCap < sLen + n) (hfit : 2 * (sLen + n) * by_ ≤ 2 ^ 48) (hb0 : 0 < by_) {O X : Array Value} {Z : Value}
    (hO : ∀ d, (Builtin.firstCells sz sLen (.slice base sLen sCap)).run P { w with drawn := d } = .ok O { w with drawn := d })
    (hX : ∀ d, (Builtin.firstCells sz n xv).run P { w with drawn := d } = .ok X { w with drawn := d }) (hZ : ∀ d, (zeroValue e).run P { w with drawn := d } = .ok Z { w with drawn := d }) :
    ∃ nc, sLen + n ≤ nc ∧ (Builtin.append_ ts ty #[.slice base sLen sCap, xv]).run P w = .ok (.slice (some ⟨w.heap.size, 0, none⟩) (sLen + n) nc)
      { w with heap := w.heap.push (.cells (O ++ X ++ Builtin.zeroCells Z.cells (nc - (sLen + n))) e), drawn := w.drawn + 1 } := by
  have hdd : ∀ {α : Type} (a b : α), (match d with | TypeDesc.int _ => a | _ => b) = b := by intro α a b; cases d <;> first | rfl | exact absurd rfl (hz _)
  obtain ⟨ti, hti⟩ : ∃ i, P.info? e = some i ∧ i.bytes = by_ := by
    simp only [byT, Option.map_eq_some_iff] at hb
    exact hb
  have htr : ∀ w : World, (typeInfo e).run P w = .ok ti w := fun w => by simp [typeInfo, hti.1]
  have hns : ¬ (281474976710656 < Builtin.nextslicecap (sLen + n) sCap * by_) := by
    have := nextslicecap_le hle
    have := Nat.mul_le_mul_right by_ this
    omega
  refine ⟨_, cut_ge (sLen + n) sCap e (w.tape w.drawn (Question.appendCap (sLen + n) sCap e)), ?_⟩
  simp only [Builtin.append_, h0, Sem.run_bind, und_run st hu, Result.andThen_ok, size_run e hs, h1, und_run xt hd, Sem.run_pure]
  have hX' : (Builtin.firstCells sz n xv).run P w.drew = .ok X w.drew := hX (w.drawn + 1)
  have hO' : (Builtin.firstCells sz sLen (.slice base sLen sCap)).run P w.drew = .ok O w.drew := hO (w.drawn + 1)
  have hZ' : (zeroValue e).run P w.drew = .ok Z w.drew := hZ (w.drawn + 1)
  have hb1 : by_ ≠ 0 := by omega
  simp [hn, hdd, und_run st hu, size_run e hs, und_run xt hd, Nat.not_le.2 hle, htr, hti.2, hns, Question.forced, hb1]
  simp [htr, hX', hO', hZ', newRow]
  rfl

theorem app0_room (h0 : ts[0]? = some st) (hu : P.underlying st = some (.slice e)) (hs : szT P e = some sz) (h1 : ts[1]? = some xt) {k k2 : IntKind} (hd : P.underlying xt = some (.int k))
    {q : Int} (hq : 0 ≤ q ∧ q < 2 ^ 48) (hb : byT P e = some by_) (hq2 : by_ * q.toNat ≤ 2 ^ 48) (hle : sLen + q.toNat ≤ sCap) {X : Array Value} (hX : (if q.toNat * sz = 0 then pure #[] else (fun a => Builtin.zeroCells a.cells q.toNat) <$> zeroValue e : Sem (Array Value)).run P w = .ok X w) {w' : World}
    (hst : (match base with | some a => storeCells (a.add (sLen * sz)) X.toList | none => pure ()).run P w = .ok () w') :
    (Builtin.append_ ts ty #[.slice base sLen sCap, .int k2 q]).run P w = .ok (.slice base (sLen + q.toNat) sCap) w' := by
  obtain ⟨ti, hti⟩ : ∃ i, P.info? e = some i ∧ i.bytes = by_ := by
    simp only [byT, Option.map_eq_some_iff] at hb
    exact hb
  have htr : ∀ w : World, (typeInfo e).run P w = .ok ti w := fun w => by simp [typeInfo, hti.1]
  have hwl : IntKind.i64.wrap q = q := by
    unfold IntKind.wrap; simp [IntKind.bits, IntKind.signed]; split <;> omega
  have h3 : ¬ (281474976710656 < q * (by_ : Int)) := by
    have : (by_ : Int) * (q.toNat : Int) ≤ 2 ^ 48 := by exact_mod_cast hq2
    rw [Int.toNat_of_nonneg hq.1] at this
    rw [Int.mul_comm]; omega
  have h4 : ¬ q < 0 := by omega
  simp only [Builtin.append_, h0, Sem.run_bind, und_run st hu, Result.andThen_ok, size_run e hs, h1, und_run xt hd, Sem.run_pure]
  simp [und_run st hu, size_run e hs, und_run xt hd, asInt_good, hwl, h4, htr, hti.2, h3, hle]
  by_cases hq0 : q.toNat * sz = 0
  · rw [if_pos hq0] at hX
    simp only [Sem.run_pure, Result.ok.injEq, and_true] at hX
    subst hX
    rw [if_pos hq0]
    cases base with
    | none => simp at hst ⊢; exact hst
    | some a => simp at hst ⊢; rw [hst]; rfl
  · rw [if_neg hq0] at hX
    simp only [Sem.run_map] at hX
    rw [if_neg hq0, hX]
    cases base with
    | none => simp at hst ⊢; exact hst
    | some a => simp at hst ⊢; rw [hst]; rfl

theorem app0_grow (h0 : ts[0]? = some st) (hu : P.underlying st = some (.slice e)) (hs : szT P e = some sz) (hb : byT P e = some by_) (h1 : ts[1]? = some xt) {k k2 : IntKind} (hd : P.underlying xt = some (.int k))
    {q : Int} (hq : 0 ≤ q ∧ q < 2 ^ 48) (hle : sCap < sLen + q.toNat) (hfit : 2 * (sLen + q.toNat) * by_ ≤ 2 ^ 48) (hb0 : 0 < by_) {O X : Array Value} {Z : Value}
    (hO : ∀ d, (Builtin.firstCells sz sLen (.slice base sLen sCap)).run P { w with drawn := d } = .ok O { w with drawn := d })
    (hX : ∀ d, (if q.toNat * sz = 0 then pure #[] else (fun a => Builtin.zeroCells a.cells q.toNat) <$> zeroValue e : Sem (Array Value)).run P { w with drawn := d } = .ok X { w with drawn := d })
    (hZ : ∀ d, (zeroValue e).run P { w with drawn := d } = .ok Z { w with drawn := d }) :
    ∃ nc, sLen + q.toNat ≤ nc ∧ (Builtin.append_ ts ty #[.slice base sLen sCap, .int k2 q]).run P w = .ok (.slice (some ⟨w.heap.size, 0, none⟩) (sLen + q.toNat) nc)
      { w with heap := w.heap.push (.cells (O ++ X ++ Builtin.zeroCells Z.cells (nc - (sLen + q.toNat))) e), drawn := w.drawn + 1 } := by
  obtain ⟨ti, hti⟩ : ∃ i, P.info? e = some i ∧ i.bytes = by_ := by
    simp only [byT, Option.map_eq_some_iff] at hb
    exact hb
  have htr : ∀ w : World, (typeInfo e).run P w = .ok ti w := fun w => by simp [typeInfo, hti.1]
  have hwl : IntKind.i64.wrap q = q := by
    unfold IntKind.wrap; simp [IntKind.bits, IntKind.signed]; split <;> omega
  have hns : ¬ (281474976710656 < Builtin.nextslicecap (sLen + q.toNat) sCap * by_) := by
    have := nextslicecap_le hle
    have := Nat.mul_le_mul_right by_ this
    omega
  have hqb : by_ * q.toNat ≤ 2 ^ 48 := by
    have h6 : by_ * q.toNat ≤ 2 * (sLen + q.toNat) * by_ := by
      rw [Nat.mul_comm by_]
      exact Nat.mul_le_mul_right _ (by omega)
    omega
  have h3 : ¬ (281474976710656 < q * (by_ : Int)) := by
    have : (by_ : Int) * (q.toNat : Int) ≤ 2 ^ 48 := by exact_mod_cast hqb
    rw [Int.toNat_of_nonneg hq.1] at this
    rw [Int.mul_comm]; omega
  have h4 : ¬ q < 0 := by omega
  have h5 : ¬ (9223372036854775807 < (sLen : Int) + max q 0) := by
    have : 2 * (sLen + q.toNat) * 1 ≤ 2 * (sLen + q.toNat) * by_ := Nat.mul_le_mul_left _ hb0
    omega
  refine ⟨_, cut_ge (sLen + q.toNat) sCap e (w.tape w.drawn (Question.appendCap (sLen + q.toNat) sCap e)), ?_⟩
  have hX' : (if q.toNat * sz = 0 then pure #[] else (fun a => Builtin.zeroCells a.cells q.toNat) <$> zeroValue e : Sem (Array Value)).run P w.drew = .ok X w.drew := hX (w.drawn + 1)
  have hO' : (Builtin.firstCells sz sLen (.slice base sLen sCap)).run P w.drew = .ok O w.drew := hO (w.drawn + 1)
  have hZ' : (zeroValue e).run P w.drew = .ok Z w.drew := hZ (w.drawn + 1)
  simp only [Builtin.append_, h0, Sem.run_bind, und_run st hu, Result.andThen_ok, size_run e hs, h1, und_run xt hd, Sem.run_pure]
  simp [und_run st hu, size_run e hs, und_run xt hd, asInt_good, hwl, h4, htr, hti.2, h3, Nat.not_le.2 hle, h5, hns, Question.forced]
  by_cases hq0 : q.toNat * sz = 0
  · rw [if_pos hq0] at hX'
    simp only [Sem.run_pure, Result.ok.injEq, and_true] at hX'
    subst hX'
    simp [htr, hq0, hO', hZ', newRow]
    rfl
  · rw [if_neg hq0] at hX'
    simp only [Sem.run_map, hZ', Result.andThen_ok, Result.ok.injEq, and_true] at hX'
    subst hX'
    simp [htr, hq0, hO', hZ', newRow]
    rfl
end app

/-- What an append of n elements X comes to. -/
structure AppFacts (P : Program) (w : World) (ts : Array TypeId) (ty e : TypeId) (sz n : Nat) (xv : Value) (X : Array Value) : Prop where
  room : ∀ (base : Option Addr) (sLen sCap : Nat) (w' : World), sLen + n ≤ sCap → (match base with | some a => storeCells (a.add (sLen * sz)) X.toList | none => pure ()).run P w = .ok () w' →
    (Builtin.append_ ts ty #[.slice base sLen sCap, xv]).run P w = .ok (.slice base (sLen + n) sCap) w'
  grow : ∀ (base : Option Addr) (sLen sCap by_ : Nat) (O : Array Value), sCap < sLen + n → 2 * (sLen + n) * by_ ≤ 2 ^ 48 → 0 < by_ → byT P e = some by_ →
    (∀ d, (Builtin.firstCells sz sLen (.slice base sLen sCap)).run P { w with drawn := d } = .ok O { w with drawn := d }) →
    ∃ nc R, sLen + n ≤ nc ∧ (O ++ X ++ R).size = O.size + X.size + (nc - (sLen + n)) * sz ∧ (Builtin.append_ ts ty #[.slice base sLen sCap, xv]).run P w = .ok (.slice (some ⟨w.heap.size, 0, none⟩) (sLen + n) nc)
      { w with heap := w.heap.push (.cells (O ++ X ++ R) e), drawn := w.drawn + 1 }

theorem row_get {i : Nat} {b : ABlk} {cs : List AVal} {e : TypeId} {o : Bool} (hg : h.get i = some b) (hb : b.obj = .row cs e o) (hd : b.mode ≠ .dead) : h.row i = some cs := by
  obtain ⟨ob, md, par⟩ := b
  simp only at hb hd
  subst hb
  simp [AH.row, hg, hd]

theorem aAppendTo_good (r : Rel μ h w) {ts : Array TypeId} {ty e : TypeId} {sz n : Nat} {xv : Value} {X : Array Value} {xs : List AVal} (hz : 0 < sz) (hX : VRs μ xs X.toList) (hXl : xs.length = n * sz)
    (F : AppFacts P w ts ty e sz n xv X) {s v : AVal} {h' : AH} (ha : aAppendTo P e sz s n xs h = some (v, h')) {sv : Value} (hs : VR μ s sv) :
    GoodH P μ h w (Builtin.append_ ts ty #[sv, xv]) v h' := by
  have hXs : X.size = n * sz := by have := hX.length; simp at this; omega
  unfold aAppendTo at ha
  split at ha
  · rename_i hn
    subst hn
    rw [Nat.zero_mul] at hXs
    have hx0 : X.toList = [] := by
      have : X.toList.length = 0 := by simp [hXs]
      exact List.eq_nil_of_length_eq_zero this
    have this : ∀ (base : Option Addr) (l c : Nat), l ≤ c → (Builtin.append_ ts ty #[.slice base l c, xv]).run P w = .ok (.slice base l c) w := fun base l c hlc =>
      F.room base l c w (by omega) (by rw [hx0]; cases base <;> simp [storeCells])
    split at ha
    · simp only [Option.some.injEq, Prod.mk.injEq] at ha
      obtain ⟨rfl, rfl⟩ := ha
      have hs2 := hs
      cases hs with
      | slice0 => exact ⟨_, w, μ, this _ _ _ (Nat.le_refl _), hs2, r, Ext.refl _ _ _⟩
      | slice hm hz2 hle hc hcap hr => exact ⟨_, w, μ, this _ _ _ (by rcases hcap with rfl | ⟨_, _, h3⟩ <;> omega), hs2, r, Ext.refl _ _ _⟩
      | sliceE => exact ⟨_, w, μ, this _ _ _ (Nat.le_refl _), hs2, r, Ext.refl _ _ _⟩
    · cases ha
  · rename_i hn
    simp only [Option.bind_eq_some_iff] at ha
    obtain ⟨by_, hby, ha⟩ := ha
    have fresh : ∀ {base : Option Addr} {sLen sCap : Nat} {O : Array Value} {h1 : AH} {old : List AVal} {par : List Nat}, Rel μ h1 w → Ext μ h w μ h1 w → VRs μ old O.toList → old.length = sLen * sz →
        sCap < sLen + n → 2 * (sLen + n) * by_ ≤ 2 ^ 48 → 0 < by_ → (∀ p ∈ par, ∃ m', μ p = some m') →
        (∀ d, (Builtin.firstCells sz sLen (.slice base sLen sCap)).run P { w with drawn := d } = .ok O { w with drawn := d }) →
        GoodH P μ h w (Builtin.append_ ts ty #[.slice base sLen sCap, xv]) (.slice (some (h1.n, 0, sz)) (sLen + n) (sLen + n)) (h1.push ⟨.row (old ++ xs) e true, .rw, par⟩) := by
      intro base sLen sCap O h1 old par r1 e1 hO hol hlt hfit hb0 hpar hrun
      obtain ⟨nc, R, hnc, hsz, hrun⟩ := F.grow base sLen sCap by_ O hlt hfit hb0 hby hrun
      have hOs : O.size = sLen * sz := by have := hO.length; simp at this; omega
      have hcl : (old ++ xs).length = (sLen + n) * sz := by simp [hol, hXl, Nat.add_mul]
      have hsz2 : (O ++ X ++ R).size = nc * sz := by
        rw [hsz, hOs, hXs, ← Nat.add_mul, ← Nat.add_mul]; congr 1; omega
      have hmul : (sLen + n) * sz ≤ nc * sz := Nat.mul_le_mul_right _ hnc
      obtain ⟨hrel, hext⟩ := newRow_good r1 (cs := old ++ xs) (e := e) (opn := true) (par := par) (C := O ++ X ++ R) (fr := (0, 0))
        (by
          have : (O ++ X ++ R).toList.take (old ++ xs).length = O.toList ++ X.toList := by
            rw [hcl]
            simp only [Array.toList_append]
            rw [List.take_append_of_le_length (by simp [hOs, hXs, Nat.add_mul]), List.take_of_length_le (by simp [hOs, hXs, Nat.add_mul])]
          rw [this]
          exact hO.append hX) (by omega) (by simp) hpar (by simp) (w.drawn + 1)
      refine ⟨_, _, _, hrun, ?_, hrel, e1.trans hext⟩
      have := VR.slice (μ := muNew μ h1.n ⟨w.heap.size, 0, (old ++ xs).length, (O ++ X ++ R).size, true⟩) (i := h1.n) (off := 0) (sz := sz) (len := sLen + n) (cap := sLen + n) (cap' := nc) (m := ⟨w.heap.size, 0, (old ++ xs).length, (O ++ X ++ R).size, true⟩)
        (by simp [muNew]) hz (Nat.le_refl _) (by show 0 + _ ≤ (old ++ xs).length; omega) (.inr ⟨rfl, by show 0 + _ = (old ++ xs).length; omega, hnc⟩) (by show 0 + nc * sz ≤ (O ++ X ++ R).size; omega)
      exact this
    split at ha
    · -- nil
      split at ha
      · rename_i hc
        simp only [AH.newRow, Option.map_eq_some_iff, Prod.exists, Prod.mk.injEq] at ha
        obtain ⟨j, h1, hnr, rfl, rfl⟩ := ha
        split at hnr
        · simp only [Option.some.injEq, Prod.mk.injEq] at hnr
          obtain ⟨rfl, rfl⟩ := hnr
          cases hs
          have := fresh (base := none) (sLen := 0) (sCap := 0) (O := #[]) (old := []) (par := []) r (Ext.refl _ _ _) .nil (by simp) (by omega) (by simpa using hc.2) hc.1 (by simp) (fun d => rfl)
          simpa using this
        · cases hnr
      · cases ha
    · rename_i i off z len cap
      split at ha
      · cases ha
      rename_i hzz
      obtain rfl : z = sz := by simpa using hzz
      split at ha
      · -- in place
        rename_i hle
        simp only [Option.map_eq_some_iff, Prod.mk.injEq] at ha
        obtain ⟨h1, hw, rfl, rfl⟩ := ha
        cases hs with
        | slice hm hz2 hl hc hcap hr =>
          rename_i cap' m
          obtain ⟨w', hrun, hrel, hext⟩ := write_good (P := P) r hw hm hX
          have hcc : cap ≤ cap' := by rcases hcap with rfl | ⟨_, _, h3⟩ <;> omega
          refine ⟨_, w', μ, F.room _ len cap' w' (by omega) ?_, .slice hm hz2 (by omega) hc hcap hr, hrel, hext⟩
          have : Addr.add ⟨m.cb, m.base + off, none⟩ (len * z) = ⟨m.cb, m.base + (off + len * z), none⟩ := by unfold Addr.add; split <;> simp_all [Nat.add_assoc]
          simp only [this]
          exact hrun
        | sliceE => omega
      · rename_i hnle
        split at ha
        · rename_i hfit
          split at ha
          · rename_i cs el opn md par hg
            split at ha
            · cases ha
            rename_i hd
            have hrow := row_get (h := h) hg rfl hd
            split at ha
            · -- somewhere else for sure
              rename_i hex
              simp only [AH.newRow, Option.map_eq_some_iff, Prod.exists, Prod.mk.injEq] at ha
              obtain ⟨j, h1, hnr, rfl, rfl⟩ := ha
              split at hnr
              · simp only [Option.some.injEq, Prod.mk.injEq] at hnr
                obtain ⟨rfl, rfl⟩ := hnr
                cases hs with
                | slice hm hz2 hl hc hcap hr =>
                  rename_i cap' m
                  obtain ⟨g1, g2, _, _, C, e2, fr, g3, g4, g5, _⟩ := r.lies i _ _ hm hg hd
                  have hcc : cap' = cap := by
                    rcases hcap with rfl | ⟨h3, h4, _⟩
                    · rfl
                    · rcases hex with h5 | ⟨h5, _⟩
                      · omega
                      · rw [← g2, h3] at h5; cases h5
                  have hlz : len * z ≤ cap * z := Nat.mul_le_mul_right _ hl
                  refine fresh (O := C.extract (m.base + off) (m.base + off + len * z)) r (Ext.refl _ _ _) ?_ (by simp; omega) (by omega) hfit.2 hfit.1 (by simp) (fun d => ?_)
                  · rw [Array.toList_extract, List.extract_eq_take_drop, show m.base + off + len * z - (m.base + off) = len * z by omega]
                    have := (g5.drop off).take (len * z)
                    rw [List.drop_take, List.drop_drop, List.take_take, Nat.min_eq_left (by omega)] at this
                    exact this
                  · simp only [Builtin.firstCells]
                    exact loadCells_run (w := { w with drawn := d }) g3 (by omega)
                | sliceE _ _ _ a0 hm0 =>
                  have := fresh (base := some a0) (sLen := 0) (sCap := 0) (O := #[]) (old := (cs.drop off).take (0 * z)) (par := []) r (Ext.refl _ _ _) (by simp; exact .nil) (by simp) (by omega) (by simpa using hfit.2) hfit.1 (by simp)
                    (fun d => by simp [Builtin.firstCells, loadCells, loadCellsFrom])
                  exact this
              · cases hnr
            · split at ha
              · rename_i hex hrw
                obtain ⟨hrw, hel, htail, hcell⟩ := hrw
                subst hel
                have hpm : ∀ m, μ i = some m → ∀ p ∈ par, ∃ m', μ p = some m' := fun m hm p hp => by
                  obtain ⟨m', hm', _⟩ := r.par i m _ hm hg p hp
                  exact ⟨m', hm'⟩
                split at ha
                · -- all of the tail
                  rename_i hlc
                  subst hlc
                  simp only [Option.some.injEq, Prod.mk.injEq] at ha
                  obtain ⟨rfl, rfl⟩ := ha
                  have low : ∀ m, μ i = some m → Lower μ h (h.set i ⟨.row cs el opn, .sup, par⟩) := fun m hm => ⟨rfl, fun j => by
                    rw [AH.get_set]
                    by_cases hji : j = i
                    · subst hji; rw [if_pos rfl]; exact .inr ⟨m, _, .sup, hm, hg, rfl, by rw [hrw]; simp [AMode.below]⟩
                    · rw [if_neg hji]; exact .inl rfl⟩
                  cases hs with
                  | slice hm hz2 hl hc hcap hr =>
                    rename_i cap' m
                    obtain ⟨g1, g2, _, _, C, e2, fr, g3, g4, g5, _⟩ := r.lies i _ _ hm hg hd
                    have hcc : len ≤ cap' := by rcases hcap with rfl | ⟨_, _, h3⟩ <;> omega
                    have lw := low m hm
                    by_cases hin : len + n ≤ cap'
                    · have hmul : (len + n) * z ≤ cap' * z := Nat.mul_le_mul_right _ hin
                      rw [Nat.add_mul] at hmul
                      obtain ⟨w', hrun, hrel, hext⟩ := grow_good (P := P) (off := off) (k := len * z) (par := i :: par) r lw hm hg rfl hrw (by omega)
                        (by rw [AH.get_set, if_pos rfl]; rintro b1 h1; simp only [Option.some.injEq] at h1; subst h1; simp)
                        (by
                          intro p hp
                          simp only [List.mem_cons] at hp
                          exact ⟨hp, htail⟩)
                        (by rintro j (rfl | hj) <;> simp_all)
                        (by rw [AH.get_set, if_pos rfl]; rintro b1 h1; simp only [Option.some.injEq] at h1; subst h1; exact .inr ⟨htail, rfl⟩)
                        (fun hne => absurd htail hne) hX hcell (by rw [hXl]; omega)
                      have hadd : Addr.add ⟨m.cb, m.base + off, none⟩ (len * z) = ⟨m.cb, m.base + (off + len * z), none⟩ := by unfold Addr.add; split <;> simp_all [Nat.add_assoc]
                      refine ⟨_, w', _, F.room _ len cap' w' hin (by simp only [hadd]; exact hrun), ?_, hrel, hext⟩
                      have := VR.slice (μ := muNew μ h.n ⟨m.cb, m.base + off, len * z + xs.length, m.room - off, true⟩) (i := h.n) (off := 0) (sz := z) (len := len + n) (cap := len + n) (cap' := cap') (m := ⟨m.cb, m.base + off, len * z + xs.length, m.room - off, true⟩)
                        (by simp [muNew]) hz2 (Nat.le_refl _) (by show 0 + _ ≤ len * z + xs.length; rw [hXl, Nat.add_mul]; omega) (.inr ⟨rfl, by show 0 + _ = len * z + xs.length; rw [hXl, Nat.add_mul]; omega, hin⟩) (by show 0 + cap' * z ≤ m.room - off; omega)
                      exact this
                    · exact fresh (O := C.extract (m.base + off) (m.base + off + len * z)) (h1 := h.set i ⟨.row cs el opn, .sup, par⟩) (lw.rel r) lw.ext
                        (by
                          rw [Array.toList_extract, List.extract_eq_take_drop, show m.base + off + len * z - (m.base + off) = len * z by omega]
                          have := (g5.drop off).take (len * z)
                          rw [List.drop_take, List.drop_drop, List.take_take, Nat.min_eq_left (by omega)] at this
                          exact this) (by simp; omega) (by omega) hfit.2 hfit.1
                        (by
                          intro p hp
                          simp only [List.mem_cons] at hp
                          rcases hp with rfl | hp
                          · exact ⟨m, hm⟩
                          · exact hpm m hm p hp)
                        (fun d => by
                          simp only [Builtin.firstCells]
                          exact loadCells_run (w := { w with drawn := d }) g3 (by omega))
                  | sliceE _ _ _ a0 hm =>
                    rcases hm with h0 | ⟨m, hm⟩
                    · omega
                    · have lw := low m hm
                      exact fresh (base := some a0) (sLen := 0) (sCap := 0) (O := #[]) (old := (cs.drop off).take (0 * z)) (h1 := h.set i ⟨.row cs el opn, .sup, par⟩) (lw.rel r) lw.ext (by simp; exact .nil) (by simp) (by omega) (by simpa using hfit.2) hfit.1
                        (by
                          intro p hp
                          simp only [List.mem_cons] at hp
                          rcases hp with rfl | hp
                          · exact ⟨m, hm⟩
                          · exact hpm m hm p hp)
                        (fun d => by simp [Builtin.firstCells, loadCells, loadCellsFrom])
                · rename_i hlc
                  simp only [Option.some.injEq, Prod.mk.injEq] at ha
                  obtain ⟨rfl, rfl⟩ := ha
                  have get1 : ∀ j, ((h.kill par).kill1 i).get j = if j = i ∨ j ∈ par then (h.get j).map fun b => { b with mode := .dead } else h.get j := fun j => by
                    rw [get_kill1]
                    by_cases hji : j = i
                    · subst hji
                      rw [if_pos rfl, if_pos (.inl rfl), get_kill]
                      split
                      · cases h.get j <;> simp
                      · rfl
                    · rw [if_neg hji, get_kill]
                      by_cases hp : j ∈ par
                      · rw [if_pos hp, if_pos (.inr hp)]
                      · rw [if_neg hp, if_neg (by simp [hji, hp])]
                  cases hs with
                  | slice hm hz2 hl hc hcap hr =>
                    rename_i cap' m
                    obtain ⟨g1, g2, _, _, C, e2, fr, g3, g4, g5, _⟩ := r.lies i _ _ hm hg hd
                    have hlz : len * z ≤ cap * z := Nat.mul_le_mul_right _ hl
                    have lw : Lower μ h ((h.kill par).kill1 i) := ⟨by simp, fun j => by
                      rw [get1]
                      by_cases hj : j = i ∨ j ∈ par
                      · rw [if_pos hj]
                        have : ∃ m', μ j = some m' := by
                          rcases hj with rfl | hj
                          · exact ⟨m, hm⟩
                          · exact hpm m hm j hj
                        obtain ⟨m', hm'⟩ := this
                        obtain ⟨b, hb⟩ := r.has j m' hm'
                        exact .inr ⟨m', b, .dead, hm', hb, by rw [hb]; rfl, by simp [AMode.below]⟩
                      · rw [if_neg hj]; exact .inl rfl⟩
                    have hdead : ∀ j, j = i ∨ j ∈ par → ∀ b1, ((h.kill par).kill1 i).get j = some b1 → b1.mode = .dead := fun j hj b1 hb1 => by
                      rw [get1, if_pos hj] at hb1
                      simp only [Option.map_eq_some_iff] at hb1
                      obtain ⟨b, _, rfl⟩ := hb1
                      rfl
                    by_cases hin : len + n ≤ cap'
                    · have hmul : (len + n) * z ≤ cap' * z := Nat.mul_le_mul_right _ hin
                      rw [Nat.add_mul] at hmul
                      obtain ⟨w', hrun, hrel, hext⟩ := grow_good (P := P) (off := off) (k := len * z) (par := []) r lw hm hg rfl hrw (by omega)
                        (fun b1 h1 => by rw [hdead i (.inl rfl) b1 h1]; simp) (by simp) (fun j hj => .inr (hdead j hj)) (fun b1 h1 => .inl (hdead i (.inl rfl) b1 h1))
                        (fun _ j hj => hdead j (.inr hj)) hX hcell (by rw [hXl]; omega)
                      have hadd : Addr.add ⟨m.cb, m.base + off, none⟩ (len * z) = ⟨m.cb, m.base + (off + len * z), none⟩ := by unfold Addr.add; split <;> simp_all [Nat.add_assoc]
                      rw [show h.n = ((h.kill par).kill1 i).n by simp] at hrel hext ⊢
                      refine ⟨_, w', _, F.room _ len cap' w' hin (by simp only [hadd]; exact hrun), ?_, hrel, hext⟩
                      have := VR.slice (μ := muNew μ ((h.kill par).kill1 i).n ⟨m.cb, m.base + off, len * z + xs.length, m.room - off, true⟩) (i := ((h.kill par).kill1 i).n) (off := 0) (sz := z) (len := len + n) (cap := len + n) (cap' := cap') (m := ⟨m.cb, m.base + off, len * z + xs.length, m.room - off, true⟩)
                        (by simp [muNew]) hz2 (Nat.le_refl _) (by show 0 + _ ≤ len * z + xs.length; rw [hXl, Nat.add_mul]; omega) (.inr ⟨rfl, by show 0 + _ = len * z + xs.length; rw [hXl, Nat.add_mul]; omega, hin⟩) (by show 0 + cap' * z ≤ m.room - off; omega)
                      exact this
                    · rw [show h.n = ((h.kill par).kill1 i).n by simp]
                      exact fresh (O := C.extract (m.base + off) (m.base + off + len * z)) (h1 := (h.kill par).kill1 i) (lw.rel r) lw.ext
                        (by
                          rw [Array.toList_extract, List.extract_eq_take_drop, show m.base + off + len * z - (m.base + off) = len * z by omega]
                          have := (g5.drop off).take (len * z)
                          rw [List.drop_take, List.drop_drop, List.take_take, Nat.min_eq_left (by omega)] at this
                          exact this) (by simp; omega) (by omega) hfit.2 hfit.1 (by simp)
                        (fun d => by
                          simp only [Builtin.firstCells]
                          exact loadCells_run (w := { w with drawn := d }) g3 (by omega))
                  | sliceE => exact absurd rfl hlc
              · cases ha
          · cases ha
        · cases ha
    · cases ha

theorem aAppend_good (r : Rel μ h w) {ts : Array TypeId} {ty : TypeId} {s x v : AVal} {h' : AH} (ha : aAppend P ts.toList s x h = some (v, h')) {sv xv : Value} (hs : VR μ s sv) (hx : VR μ x xv) :
    GoodH P μ h w (Builtin.append_ ts ty #[sv, xv]) v h' := by
  unfold aAppend at ha
  split at ha
  · rename_i st xt rest hts
    have h0 : ts[0]? = some st := by
      have : ts.toList[0]? = some st := by rw [hts]; rfl
      simpa using this
    have h1 : ts[1]? = some xt := by
      have : ts.toList[1]? = some xt := by rw [hts]; rfl
      simpa using this
    split at ha
    · rename_i e zs hu hzs
      simp only [isIntT, Option.map_eq_some_iff] at hzs
      obtain ⟨d, hd, hzs⟩ := hzs
      simp only [Option.bind_eq_some_iff] at ha
      obtain ⟨sz, hsz, z, hzc, by_, hby, ha⟩ := ha
      split at ha
      · cases ha
      rename_i hsz0
      simp only [not_or, ne_eq, Decidable.not_not] at hsz0
      obtain ⟨hsz0, hzlen⟩ := hsz0
      obtain ⟨Z, hZ0, hZr⟩ := zeroCells_good (P := P) (μ := μ) (w := w) hzc
      have hzl := hZr.length
      simp at hzl
      have hZd : ∀ d, (zeroValue e).run P { w with drawn := d } = .ok Z { w with drawn := d } := fun d => by
        have e1 : (zeroValue e).run P w = .ok Z w := hZ0
        unfold zeroValue typeInfo at e1 ⊢
        cases hi : P.info? e with
        | none => simp [hi] at e1
        | some i =>
          cases hzz : i.zero with
          | none => simp [hi, hzz] at e1
          | some zv => simp [hi, hzz] at e1 ⊢; exact e1
      have hXd : ∀ (n d : Nat), (if n * sz = 0 then pure #[] else (fun a => Builtin.zeroCells a.cells n) <$> zeroValue e : Sem (Array Value)).run P { w with drawn := d } =
          .ok (if n * sz = 0 then #[] else Builtin.zeroCells Z.cells n) { w with drawn := d } := fun n d => by
        split
        · rfl
        · simp only [Sem.run_map, hZd d]; rfl
      split at ha
      · -- zeros
        rename_i hzt
        split at ha
        · rename_i k2 q
          split at ha
          · rename_i hc
            obtain ⟨hc1, hc2, hc3⟩ := hc
            cases hx
            have hdk : ∃ k, d = .int k := by
              cases d <;> simp_all
            obtain ⟨k, rfl⟩ := hdk
            have hXr : VRs μ (manyT q.toNat z) (if q.toNat * sz = 0 then #[] else Builtin.zeroCells Z.cells q.toNat).toList := by
              by_cases hq0 : q.toNat * sz = 0
              · rw [if_pos hq0]
                have : q.toNat = 0 := by
                  rcases Nat.mul_eq_zero.1 hq0 with h' | h'
                  · exact h'
                  · omega
                rw [this]
                exact .nil
              · rw [if_neg hq0]
                have := VRs.many hZr q.toNat default
                rw [hzl] at this
                simp only [Builtin.zeroCells, getBang]
                exact this
            have hml : (manyT q.toNat z).length = q.toNat * sz := by rw [manyT_length, hzlen]
            refine aAppendTo_good r (by omega) hXr hml ?_ ha hs
            refine ⟨fun base sLen sCap w' hle hst => app0_room h0 hu hsz h1 hd ⟨hc1, by omega⟩ hby hc3 hle (hXd _ w.drawn) hst, fun base sLen sCap by2 O hlt hfit2 hb0 hby2 hO => ?_⟩
            obtain ⟨nc, hnc, hrun⟩ := app0_grow (ty := ty) (k2 := k2) (base := base) h0 hu hsz hby2 h1 hd ⟨hc1, by omega⟩ hlt hfit2 hb0 hO (hXd _) hZd
            refine ⟨nc, _, hnc, ?_, hrun⟩
            simp [Builtin.zeroCells, ← hzl, hzlen, Nat.add_assoc]
          · cases ha
        · cases ha
      · rename_i hzt
        simp only [Option.bind_eq_some_iff, Prod.exists] at ha
        obtain ⟨n, xs, hsrc, ha⟩ := ha
        obtain ⟨hl, hln, hfc⟩ := aSource_good (P := P) r hsrc hx
        obtain ⟨X, hX, hXr⟩ := hfc n (Nat.le_refl _)
        rw [List.take_of_length_le (by omega)] at hXr
        have hdn : ∀ k, d ≠ .int k := by rintro k rfl; simp at hzs; exact hzt hzs
        refine aAppendTo_good r (by omega) hXr hl ?_ ha hs
        refine ⟨fun base sLen sCap w' hle hst => app_room h0 hu hsz h1 hd hdn (hln w.drawn) hle (hX w.drawn) hst, fun base sLen sCap by2 O hlt hfit2 hb0 hby2 hO => ?_⟩
        obtain ⟨nc, hnc, hrun⟩ := app_grow (ty := ty) (base := base) h0 hu hsz hby2 h1 hd hdn (hln w.drawn) hlt hfit2 hb0 hO hX hZd
        refine ⟨nc, _, hnc, ?_, hrun⟩
        simp [Builtin.zeroCells, ← hzl, hzlen, Nat.add_assoc]
    · cases ha
  · cases ha
end Go.Proofs.Ytbcpmbggidemdaa.AI
