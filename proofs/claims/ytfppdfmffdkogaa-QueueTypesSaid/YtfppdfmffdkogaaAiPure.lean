/- The operations that leave the heap alone: what the abstract machine says of them holds. -/
import Derived.Test.YtfppdfmffdkogaaAiOps
import GoSem.Dispatch
import Derived.Laws.Strings
import Derived.Laws.Concat
import Derived.ChangeKeysEq
namespace Go.Proofs.Ytfppdfmffdkogaa.AI
open Go

/-- The run ends in the very world, with a value that is as v says. -/
def Good (P : Program) (μ : Mu) (w : World) (s : Sem Value) (v : AVal) : Prop := ∃ v', s.run P w = .ok v' w ∧ VR μ v v'

variable {P : Program} {μ : Mu} {w : World}

theorem VR.bool_inv {b : Bool} {v : Value} (h : VR μ (.bool b) v) : v = .bool b := by cases h; rfl
theorem VR.int_inv {k : IntKind} {n : Int} {v : Value} (h : VR μ (.int k n) v) : v = .int k n := by cases h; rfl
theorem VR.str_inv {s : List UInt8} {v : Value} (h : VR μ (.str s) v) : v = .string ⟨s.toArray⟩ := by cases h; rfl

theorem VR.ofConst0 : ∀ v : Value, VR μ (ofConst0 v) v := by
  intro v
  unfold AI.ofConst0
  split <;> first | exact .any _ | (rename_i s; exact VR.str s.data.toList) | constructor | skip
  · split
    · rename_i fn a b h
      obtain ⟨ha, hb⟩ := h
      have ha' : a.toList = [] := by simpa using ha
      have hb' : b.toList = [] := by simpa using hb
      exact .func fn (by rw [ha']; exact .nil) (by rw [hb']; exact .nil)
    · exact .any _
theorem VRs.map_ofConst0 : ∀ l : List Value, VRs μ (l.map ofConst0) l
  | [] => .nil
  | v :: l => .cons (VR.ofConst0 v) (VRs.map_ofConst0 l)
theorem VR.ofConst (v : Value) : VR μ (ofConst v) v := by
  unfold AI.ofConst
  split
  · exact .agg (VRs.map_ofConst0 _)
  · exact .iface _ (VR.ofConst0 _)
  · exact VR.ofConst0 _

theorem VR.cells {a : AVal} {v : Value} (h : VR μ a v) {cs : List AVal} (hc : a.cells = some cs) : VRs μ cs v.cells.toList := by
  cases h <;> simp only [AVal.cells, Option.some.injEq, reduceCtorEq] at hc <;> subst hc
  case agg h => exact h
  all_goals (refine .cons ?_ .nil; constructor <;> assumption)
theorem VR.oneCell {a : AVal} {v : Value} (h : VR μ a v) (hc : a.isCell = true) : v.oneCell' = true := by
  cases h <;> simp_all [AVal.isCell, Value.oneCell']

theorem und_run (t : TypeId) {d : TypeDesc} (h : P.underlying t = some d) : (underlying t).run P w = .ok d w := by
  simp [underlying, h]
theorem size_run (t : TypeId) {n : Nat} (h : szT P t = some n) : (sizeOf t).run P w = .ok n w := by
  simp only [szT, Option.map_eq_some_iff] at h
  obtain ⟨i, hi, rfl⟩ := h
  simp [sizeOf, typeInfo, hi]
theorem run_typeInfo_by (t : TypeId) {n : Nat} (h : byT P t = some n) : ∃ i, (typeInfo t).run P w = .ok i w ∧ i.bytes = n := by
  simp only [byT, Option.map_eq_some_iff] at h
  obtain ⟨i, hi, rfl⟩ := h
  exact ⟨i, by simp [typeInfo, hi], rfl⟩
theorem agg_run (t : TypeId) {b : Bool} (h : aggT P t = some b) : (isAgg t).run P w = .ok b w := by
  simp only [aggT, Option.map_eq_some_iff] at h
  obtain ⟨d, hd, rfl⟩ := h
  simp only [isAgg, Sem.run_bind, und_run t hd, Result.andThen_ok]
  cases d <;> rfl
theorem zero_run (t : TypeId) {z : AVal} (h : zeroT P t = some z) : Good P μ w (zeroValue t) z := by
  simp only [zeroT, Option.bind_eq_some_iff, Option.map_eq_some_iff] at h
  obtain ⟨i, hi, v, hv, rfl⟩ := h
  exact ⟨v, by simp [zeroValue, typeInfo, hi, hv], VR.ofConst v⟩

theorem asIntOf_good {k : IntKind} {n : Int} : (asIntOf (.int k n)).run P w = .ok (k, n) w := rfl
theorem asInt_good {k : IntKind} {n : Int} : (asInt (.int k n)).run P w = .ok n w := by simp [asInt, asIntOf_good]

theorem aShift_good {op : BinOp} {k yk : IntKind} {x y : Int} {v : AVal} (h : aShift op k x y = some v) (t : TypeId) :
    Good P μ w (binOp op t (.int k x) (.int yk y)) v := by
  unfold aShift at h
  split at h
  · cases h
  rename_i hy
  split at h <;> simp only [Option.some.injEq, reduceCtorEq] at h <;> subst h
  all_goals exact ⟨_, by simp [binOp, Op.shift, hy], .int _ _⟩

theorem aInt_good {op : BinOp} {k : IntKind} {x y : Int} {v : AVal} (h : aInt op k x y = some v) (t : TypeId) :
    Good P μ w (binOp op t (.int k x) (.int k y)) v := by
  cases op <;> simp only [aInt, reduceCtorEq, Option.some.injEq] at h
  case add | sub | mul => subst h; exact ⟨_, by simp [binOp, Op.intArith], .int _ _⟩
  case quo | rem =>
    split at h
    · cases h
    rename_i hy
    simp only [Option.some.injEq] at h
    subst h
    exact ⟨_, by simp [binOp, Op.intDiv, hy], .int _ _⟩
  case and | or | xor | andNot =>
    simp only [bitsOp, Option.map_some, Option.some.injEq] at h
    subst h
    exact ⟨_, by simp [binOp, Op.intBits], .int _ _⟩
  all_goals (subst h; exact ⟨_, by simp [binOp, Op.intCmp], .bool _⟩)

theorem toList_mk (s : List UInt8) : (ByteArray.mk s.toArray).toList = s := by rw [Go.ByteArray.toList_eq]
theorem size_mk (s : List UInt8) : (ByteArray.mk s.toArray).size = s.length := by simp [ByteArray.size]
theorem append_mk (s t : List UInt8) : (ByteArray.mk s.toArray) ++ (ByteArray.mk t.toArray) = ByteArray.mk (s ++ t).toArray := by
  apply ByteArray.ext
  simp

theorem aStr_good {op : BinOp} {x y : List UInt8} {v : AVal} (h : aStr op x y = some v) (t : TypeId) :
    Good P μ w (binOp op t (.string ⟨x.toArray⟩) (.string ⟨y.toArray⟩)) v := by
  cases op <;> simp only [aStr, reduceCtorEq, Option.some.injEq] at h
  case add =>
    split at h
    · rename_i hl
      simp only [Option.some.injEq] at h
      subst h
      refine ⟨_, ?_, .str (x ++ y)⟩
      have : ¬ ((((ByteArray.mk x.toArray).size + (ByteArray.mk y.toArray).size : Nat) : Int) > IntKind.i64.max) := by
        rw [size_mk, size_mk, show IntKind.i64.max = 9223372036854775807 from rfl]
        omega
      simp only [binOp, Op.stringOp, if_neg this, append_mk]
      rfl
    · cases h
  all_goals (subst h; refine ⟨_, ?_, .bool _⟩; simp only [binOp, Op.stringOp, toList_mk]; rfl)

theorem eqItems_good (d : Nat) {e : TypeId} (he : intsT P e = true) {xs ys : Array Value} : ∀ (m j : Nat) {a b : List AVal} {r : Bool}, VRs μ a (xs.toList.drop j) → VRs μ b (ys.toList.drop j) → a.length = m → b.length = m → eqInts a b = some r →
    (Op.eqItems (d + 1) e 1 xs ys (List.range' j m)).run P w = .ok r w
  | 0, j, a, b, r, _, _, h1, h2, h => by
      have e1 : a = [] := List.eq_nil_of_length_eq_zero h1
      have e2 : b = [] := List.eq_nil_of_length_eq_zero h2
      subst e1; subst e2
      simp only [eqInts, Option.some.injEq] at h
      subst h
      simp [Op.eqItems]
  | m + 1, j, [], b, r, _, _, h1, _, _ => by simp at h1
  | m + 1, j, _ :: _, [], r, _, _, _, h2, _ => by simp at h2
  | m + 1, j, x :: a, y :: b, r, hx, hy, h1, h2, h => by
      have he0 := he
      unfold intsT at he
      split at he
      · rename_i q hq hz hg
        have hh : ∃ k n k' n', x = .int k n ∧ y = .int k' n' := by
          unfold eqInts at h
          split at h
          · cases ‹x :: a = _›
          · rename_i e1 e2; cases e1; cases e2; exact ⟨_, _, _, _, rfl, rfl⟩
          · cases h
        obtain ⟨k, n, k', n', rfl, rfl⟩ := hh
        simp only [eqInts] at h
        split at h
        · rename_i hk
          subst hk
          split at h
          · rename_i r' hr'
            simp only [Option.some.injEq] at h
            subst h
            have get : ∀ {zs : Array Value} {z : AVal} {c : List AVal}, VRs μ (z :: c) (zs.toList.drop j) → ∃ z', zs[j]? = some z' ∧ VR μ z z' ∧ VRs μ c (zs.toList.drop (j + 1)) := by
              intro zs z c hz
              generalize hl : zs.toList.drop j = l at hz
              cases hz with
              | cons h0 ht =>
                rename_i z' l'
                have e0 : zs[j]? = some z' := by
                  have := congrArg (fun l => l[0]?) hl
                  simp only [List.getElem?_drop, Nat.add_zero, List.getElem?_cons_zero] at this
                  simpa using this
                have e1 : zs.toList.drop (j + 1) = l' := by
                  rw [← List.drop_drop, hl]; rfl
                exact ⟨z', e0, h0, by rw [e1]; exact ht⟩
            obtain ⟨x', ex, vx, tx⟩ := get hx
            obtain ⟨y', ey, vy, ty⟩ := get hy
            have hx' := vx.int_inv
            have hy' := vy.int_inv
            subst hx'; subst hy'
            have pr : ∀ {zs : Array Value} {z : Value}, zs[j]? = some z → (part e zs j).run P w = .ok z w := by
              intro zs z hz
              simp only [part, Sem.run_bind, agg_run e hg, Result.andThen_ok, Bool.false_eq_true, if_false, hz]
              rfl
            have eq1 : (Op.equalIn (d + 1) e (.int k n) (.int k n')).run P w = .ok (n == n') w := by
              simp [Op.equalIn, und_run e hq]
            have ih := eqItems_good d he0 m (j + 1) tx ty (by simpa using h1) (by simpa using h2) hr'
            rw [List.range'_succ]
            simp only [Op.eqItems, Sem.run_bind, Nat.mul_one, pr ex, pr ey, Result.andThen_ok, eq1]
            cases hn : (n == n')
            · simp
            · simpa using ih
          · cases h
        · cases h
      · cases he
theorem aEqArr_good {t e : TypeId} {n : Nat} {a b : List AVal} {r : Bool} (hu : P.underlying t = some (.array n e)) (hi : intsT P e = true) (ha : a.length = n) (hb : b.length = n) (h : eqInts a b = some r) {x y : Array Value} (hx : VRs μ a x.toList) (hy : VRs μ b y.toList) :
    (Op.equal t (.agg x) (.agg y)).run P w = .ok r w := by
  have hz : ∃ i2, P.info? e = some i2 ∧ P.cellsOf e = 1 := by
    unfold intsT at hi
    split at hi
    · rename_i hz _
      simp only [szT, Option.map_eq_some_iff] at hz
      obtain ⟨i2, hi2, hs2⟩ := hz
      exact ⟨i2, hi2, by simp [Program.cellsOf, hi2, hs2]⟩
    · cases hi
  obtain ⟨i2, hi2, hc⟩ := hz
  have e1 : Op.equal t (.agg x) (.agg y) = Op.equalIn (9999 + 1) t (.agg x) (.agg y) := rfl
  rw [e1, Go.run_equalIn_array w 9999 x y hu hi2, hc, List.range_eq_range']
  exact eqItems_good 9998 hi n 0 (by simpa using hx) (by simpa using hy) ha hb h
theorem aEq_good {t : TypeId} {a b : AVal} {r : Bool} (h : aEq P t a b = some r) {x y : Value} (hx : VR μ a x) (hy : VR μ b y) : (Op.equal t x y).run P w = .ok r w := by
  unfold aEq at h
  split at h
  case h_14 n e a b hu =>
    split at h
    · rename_i hc
      cases hx with
      | agg hxa => cases hy with
        | agg hyb => exact aEqArr_good hu (Bool.and_eq_true _ _ ▸ hc.1).1 hc.2.1 hc.2.2 h hxa hyb
    · cases h
  all_goals (simp only [Option.some.injEq, reduceCtorEq] at h)
  all_goals (
    subst h
    rename_i hu
    obtain ⟨d, hd⟩ : ∃ d, Op.maxDepth = d + 1 := ⟨9999, rfl⟩
    unfold Op.equal
    rw [hd]
    cases hx <;> cases hy <;> simp [Op.equalIn, und_run t hu])

theorem eqGuard_int {op : BinOp} {t : TypeId} {x y : Operand} {k : IntKind} {n : Int} {b : Value} : (eqGuard op t x y (.int k n) b).run P w = .ok () w := by
  unfold eqGuard; cases op <;> simp <;> cases b <;> rfl

theorem aBin_good {op : BinOp} {t : TypeId} {x y : Operand} {a b v : AVal} (h : aBin P op t x y a b = some v) {xv yv : Value} (hx : VR μ a xv) (hy : VR μ b yv) :
    Good P μ w (do eqGuard op t x y xv yv; binOp op t xv yv) v := by
  have guard : (eqGuard op t x y xv yv).run P w = .ok () w → Good P μ w (binOp op t xv yv) v → Good P μ w (do eqGuard op t x y xv yv; binOp op t xv yv) v := by
    rintro hg ⟨v', hr, hv⟩
    exact ⟨v', by simp [hg, hr], hv⟩
  have eqs : ∀ {r : Bool}, aEq P t a b = some r → (∀ s, a ≠ .str s) → (∀ k n, a ≠ .int k n) → 
      (op = .eql → Good P μ w (binOp op t xv yv) (.bool r)) ∧ (op = .neq → Good P μ w (binOp op t xv yv) (.bool !r)) := by
    intro r hr h1 h2
    have he := aEq_good (w := w) hr hx hy
    by_cases hag : ∃ as bs, a = .agg as ∧ b = .agg bs
    · obtain ⟨as, bs, rfl, rfl⟩ := hag
      cases hx; cases hy
      constructor
      · rintro rfl
        exact ⟨_, by simp [binOp, he], .bool r⟩
      · rintro rfl
        exact ⟨_, by simp [binOp, he], .bool _⟩
    constructor
    · rintro rfl
      refine ⟨_, ?_, .bool r⟩
      unfold aEq at hr
      split at hr <;> first | exact absurd ⟨_, _, rfl, rfl⟩ hag | (simp only [Option.some.injEq, reduceCtorEq] at hr <;> subst hr <;> cases hx <;> cases hy <;> simp_all [binOp])
    · rintro rfl
      refine ⟨_, ?_, .bool _⟩
      unfold aEq at hr
      split at hr <;> first | exact absurd ⟨_, _, rfl, rfl⟩ hag | (simp only [Option.some.injEq, reduceCtorEq] at hr <;> subst hr <;> cases hx <;> cases hy <;> simp_all [binOp])
  unfold aBin at h
  split at h
  · cases hx; cases hy; exact guard eqGuard_int (aShift_good h t)
  · cases hx; cases hy; exact guard eqGuard_int (aShift_good h t)
  · split at h
    · rename_i hk; subst hk; cases hx; cases hy; exact guard eqGuard_int (aInt_good h t)
    · cases h
  · cases hx; cases hy
    refine guard ?_ (aStr_good h t)
    unfold eqGuard; cases op <;> simp
  · split at h
    · rename_i hc
      have hg : (eqGuard op t x y xv yv).run P w = .ok () w := by
        cases hx; cases hy
        clear h guard eqs
        unfold eqGuard
        simp only [Bool.or_eq_true] at hc
        rcases hc with hc | hc
        · cases x <;> first | (cases hc; done) | (cases op <;> simp)
        · cases y <;> first | (cases hc; done) | (cases op <;> simp)
      split at h <;> simp only [Option.map_eq_some_iff, reduceCtorEq] at h
      · obtain ⟨r, hr, rfl⟩ := h
        exact guard hg ((eqs hr (by simp) (by simp)).1 rfl)
      · obtain ⟨r, hr, rfl⟩ := h
        exact guard hg ((eqs hr (by simp) (by simp)).2 rfl)
    · cases h
  · simp only [Option.map_eq_some_iff] at h
    obtain ⟨r, hr, rfl⟩ := h
    refine guard ?_ ((eqs hr ?_ ?_).1 rfl)
    · by_cases hag : ∃ as bs, a = .agg as ∧ b = .agg bs
      · obtain ⟨as, bs, rfl, rfl⟩ := hag
        have hgd : P.eqGuardType P.depth t = false := by
          unfold aEq at hr
          split at hr <;> first | (cases ‹AVal.agg as = _›; done) | (cases hr; done) | skip
          split at hr
          · rename_i hc
            have := hc.1
            simp only [Bool.and_eq_true, Bool.not_eq_true'] at this
            exact this.2
          · cases hr
        cases hx; cases hy
        simp [eqGuard, hgd]
      unfold aEq at hr
      split at hr <;> first | exact absurd ⟨_, _, rfl, rfl⟩ hag | (simp only [Option.some.injEq, reduceCtorEq] at hr <;> cases hx <;> cases hy <;> simp_all [eqGuard])
    · rintro s rfl; unfold aEq at hr; split at hr <;> simp_all
    · rintro k n rfl; unfold aEq at hr; split at hr <;> simp_all
  · simp only [Option.map_eq_some_iff] at h
    obtain ⟨r, hr, rfl⟩ := h
    refine guard ?_ ((eqs hr ?_ ?_).2 rfl)
    · by_cases hag : ∃ as bs, a = .agg as ∧ b = .agg bs
      · obtain ⟨as, bs, rfl, rfl⟩ := hag
        have hgd : P.eqGuardType P.depth t = false := by
          unfold aEq at hr
          split at hr <;> first | (cases ‹AVal.agg as = _›; done) | (cases hr; done) | skip
          split at hr
          · rename_i hc
            have := hc.1
            simp only [Bool.and_eq_true, Bool.not_eq_true'] at this
            exact this.2
          · cases hr
        cases hx; cases hy
        simp [eqGuard, hgd]
      unfold aEq at hr
      split at hr <;> first | exact absurd ⟨_, _, rfl, rfl⟩ hag | (simp only [Option.some.injEq, reduceCtorEq] at hr <;> cases hx <;> cases hy <;> simp_all [eqGuard])
    · rintro s rfl; unfold aEq at hr; split at hr <;> simp_all
    · rintro k n rfl; unfold aEq at hr; split at hr <;> simp_all
  · cases h

theorem aUn_good {op : UnOp} {a v : AVal} (h : aUn op a = some v) {xv : Value} (hx : VR μ a xv) : Good P μ w (Op.unary op xv) v := by
  unfold aUn at h
  split at h <;> simp only [bitsOp, Option.map_some, Option.some.injEq, reduceCtorEq] at h <;> subst h <;> cases hx
  · exact ⟨_, by simp [Op.unary, Op.intArith], .int _ _⟩
  · exact ⟨_, by simp [Op.unary, Op.intBits], .int _ _⟩
  · exact ⟨_, by simp [Op.unary], .bool _⟩

theorem partT_good {t : TypeId} {cs : List AVal} {off : Nat} {v : AVal} (h : partT P t cs off = some v) {C : Array Value} (hC : VRs μ cs C.toList) :
    Good P μ w (part t C off) v := by
  unfold partT at h
  split at h
  · rename_i n ha hn
    split at h
    · rename_i hl
      simp only [Option.some.injEq] at h
      subst h
      refine ⟨_, by simp only [part, Sem.run_bind, agg_run t ha, Result.andThen_ok, size_run t hn, if_true]; rfl, ?_⟩
      refine .agg ?_
      have e : (C.extract off (off + n)).toList = (C.toList.drop off).take n := by
        rw [Array.toList_extract, List.extract_eq_take_drop]
        simp
      rw [e]
      exact (hC.drop off).take n
    · cases h
  · rename_i n ha hn
    obtain ⟨y, hy, hv⟩ := hC.get h
    refine ⟨y, ?_, hv⟩
    have : C[off]? = some y := by simpa using hy
    simp [part, agg_run t ha, this]
  · cases h

theorem aFieldV_good {t : TypeId} {x v : AVal} {f : Nat} (h : aFieldV P t x f = some v) {xv : Value} (hx : VR μ x xv) : Good P μ w (Instr.field t xv f) v := by
  unfold aFieldV at h
  split at h
  · rename_i fs cs hu
    simp only [Option.bind_eq_some_iff] at h
    obtain ⟨fl, hf, hp⟩ := h
    cases hx with
    | agg hC =>
      obtain ⟨v', hr, hv⟩ := partT_good (w := w) hp hC
      exact ⟨v', by simp [Instr.field, und_run t hu, hf, asAgg, hr], hv⟩
  · cases h

theorem aIndexV_good {t : TypeId} {x ix v : AVal} (h : aIndexV P t x ix = some v) {xv iv : Value} (hx : VR μ x xv) (hi : VR μ ix iv) : Good P μ w (Instr.index t xv iv) v := by
  unfold aIndexV at h
  split at h
  · rename_i len e cs k n hu
    simp only [Option.bind_eq_some_iff] at h
    obtain ⟨sz, hs, h⟩ := h
    split at h
    · rename_i hb
      cases hi
      cases hx with
      | agg hC =>
        obtain ⟨v', hr, hv⟩ := partT_good (w := w) h hC
        exact ⟨v', by simp [Instr.index, asIntOf, und_run t hu, hb, size_run e hs, hr], hv⟩
    · cases h
  · rename_i s k n hu
    split at h
    · rename_i h0
      simp only [Option.map_eq_some_iff] at h
      obtain ⟨b, hb, rfl⟩ := h
      cases hi; cases hx
      refine ⟨_, ?_, .int _ _⟩
      have : (ByteArray.mk s.toArray)[n.toNat]? = some b := by
        rw [List.getElem?_eq_some_iff] at hb
        obtain ⟨hl, hb⟩ := hb
        have hl' : n.toNat < (ByteArray.mk s.toArray).size := by rw [size_mk]; exact hl
        rw [getElem?_pos (ByteArray.mk s.toArray) n.toNat hl']
        congr 1
      simp [Instr.index, asIntOf, und_run t hu, h0, this]
    · cases h
  · cases h

theorem aExtract_good {x v : AVal} {i : Nat} (h : aExtract x i = some v) {xv : Value} (hx : VR μ x xv) : Good P μ w (Instr.extract xv i) v := by
  unfold aExtract at h
  split at h
  · cases hx with
    | tuple hC =>
      obtain ⟨y, hy, hv⟩ := hC.get h
      have hy' : ∀ (a : Array Value), a.toList[i]? = some y → a[i]? = some y := fun a ha => by simpa using ha
      exact ⟨y, by simp [Instr.extract, hy' _ hy], hv⟩
  · cases h

theorem aMakeIface_good {t : TypeId} {x v : AVal} (h : aMakeIface P t x = some v) {xv : Value} (hx : VR μ x xv) : Good P μ w (Instr.makeInterface t xv) v := by
  unfold aMakeIface at h
  split at h
  · cases h
  · rename_i d hn hd
    simp only [Option.some.injEq] at h
    subst h
    refine ⟨.iface t xv, ?_, .iface t hx⟩
    simp only [Instr.makeInterface, Sem.run_bind, und_run t hd, Result.andThen_ok]
    cases d <;> first | rfl | (exact absurd rfl (hn _))
  · cases h

theorem aField_good {s : TypeId} {a v : AVal} {f : Nat} (h : aField P s a f = some v) {xv : Value} (hx : VR μ a xv) : Good P μ w (Instr.fieldAt s xv f) v := by
  unfold aField at h
  split at h
  · rename_i fs i off hu
    simp only [Option.bind_eq_some_iff] at h
    obtain ⟨fl, hf, h⟩ := h
    split at h
    · rename_i n hs
      simp only [Option.some.injEq] at h
      subst h
      cases hx with
      | ptr hm =>
        rename_i m
        refine ⟨_, ?_, VR.ptr hm⟩
        simp only [Instr.fieldAt, Instr.sureAddr, fieldPlace, Sem.run_bind, und_run s hu, Result.andThen_ok, hf, size_run _ hs]
        simp [Addr.add]
        split <;> simp_all [Nat.add_assoc]
    · cases h
  · cases h

theorem aNilCheck_good {x v : AVal} (h : aNilCheck x = some v) {xv : Value} (hx : VR μ x xv) : v = x ∧ ∃ a, xv = .pointer (some a) := by
  unfold aNilCheck at h
  split at h
  · simp only [Option.some.injEq] at h
    subst h
    cases hx
    exact ⟨rfl, _, rfl⟩
  · cases h

theorem aIndexAddr_good {t : TypeId} {x ix v : AVal} (h : aIndexAddr P t x ix = some v) {xv iv : Value} (hx : VR μ x xv) (hi : VR μ ix iv) : Good P μ w (Instr.indexAt t xv iv) v := by
  have key : ∀ (cb b o : Nat), (Addr.add ⟨cb, b, none⟩ o) = ⟨cb, b + o, none⟩ := fun cb b o => by
    unfold Addr.add; split <;> simp_all
  unfold aIndexAddr at h
  split at h
  · rename_i len e i off k n hu
    simp only [Option.bind_eq_some_iff] at h
    obtain ⟨sz, hs, h⟩ := h
    split at h
    · rename_i hb
      simp only [Option.some.injEq] at h
      subst h
      cases hi
      cases hx with
      | ptr hm =>
        refine ⟨_, ?_, VR.ptr hm⟩
        simp [Instr.indexAt, asIntOf, und_run t hu, Instr.sureAddr, hb, size_run e hs, key, Nat.add_assoc]
    · cases h
  · rename_i e i off z len c k n hu
    simp only [Option.bind_eq_some_iff] at h
    obtain ⟨sz, hs, h⟩ := h
    split at h
    · rename_i hb
      simp only [Option.some.injEq] at h
      subst h
      cases hi
      cases hx with
      | slice hm hz hl hc hcap hr =>
        refine ⟨_, ?_, VR.ptr hm⟩
        simp [Instr.indexAt, asIntOf, und_run t hu, hb, size_run e hs, key, Nat.add_assoc]
      | sliceE => exfalso; omega
    · cases h
  · cases h
end Go.Proofs.Ytfppdfmffdkogaa.AI
