/- The operations that leave the heap alone: what the abstract machine says of them holds. -/
import Derived.Test.YtbcpmbggidemdaaAiOps
import GoSem.Dispatch
import Derived.Laws.Strings
import Derived.Laws.Concat
namespace Go.Proofs.Ytbcpmbggidemdaa.AI
open Go

/-- The run ends in the very world, with a value that is as v says. -/
def Good (P : Program) (μ : Mu) (w : World) (s : Sem Value) (v : AVal) : Prop := ∃ v', s.run P w = .ok v' w ∧ VR μ v v'

variable {P : Program} {μ : Mu} {w : World}

theorem VR.bool_inv {b : Bool} {v : Value} (h : VR μ (.bool b) v) : v = .bool b := by cases h; rfl
theorem VR.int_inv {k : IntKind} {n : Int} {v : Value} (h : VR μ (.int k n) v) : v = .int k n := by cases h; rfl
theorem VR.str_inv {s : List UInt8} {v : Value} (h : VR μ (.str s) v) : v = .string ⟨s.toArray⟩ := by cases h; rfl

theorem VR.ofConst0 : ∀ v : Value, VR μ (ofConst0 v) v := by
  intro v
  unfold AI.ofConst0
  split <;> first | exact .any _ | (rename_i s; exact VR.str s.data.toList) | constructor | skip
  · split
    · rename_i fn a b h
      obtain ⟨ha, hb⟩ := h
      have ha' : a.toList = [] := by simpa using ha
      have hb' : b.toList = [] := by simpa using hb
      exact .func fn (by rw [ha']; exact .nil) (by rw [hb']; exact .nil)
    · exact .any _
theorem VRs.map_ofConst0 : ∀ l : List Value, VRs μ (l.map ofConst0) l
  | [] => .nil
  | v :: l => .cons (VR.ofConst0 v) (VRs.map_ofConst0 l)
theorem VR.ofConst (v : Value) : VR μ (ofConst v) v := by
  unfold AI.ofConst
  split
  · exact .agg (VRs.map_ofConst0 _)
  · exact .iface _ (VR.ofConst0 _)
  · exact VR.ofConst0 _

theorem VR.cells {a : AVal} {v : Value} (h : VR μ a v) {cs : List AVal} (hc : a.cells = some cs) : VRs μ cs v.cells.toList := by
  cases h <;> simp only [AVal.cells, Option.some.injEq, reduceCtorEq] at hc <;> subst hc
  case agg h => exact h
  all_goals (refine .cons ?_ .nil; constructor <;> assumption)
theorem VR.oneCell {a : AVal} {v : Value} (h : VR μ a v) (hc : a.isCell = true) : v.oneCell' = true := by
  cases h <;> simp_all [AVal.isCell, Value.oneCell']

theorem und_run (t : TypeId) {d : TypeDesc} (h : P.underlying t = some d) : (underlying t).run P w = .ok d w := by
  simp [underlying, h]
theorem size_run (t : TypeId) {n : Nat} (h : szT P t = some n) : (sizeOf t).run P w = .ok n w := by
  simp only [szT, Option.map_eq_some_iff] at h
  obtain ⟨i, hi, rfl⟩ := h
  simp [sizeOf, typeInfo, hi]
theorem run_typeInfo_by (t : TypeId) {n : Nat} (h : byT P t = some n) : ∃ i, (typeInfo t).run P w = .ok i w ∧ i.bytes = n := by
  simp only [byT, Option.map_eq_some_iff] at h
  obtain ⟨i, hi, rfl⟩ := h
  exact ⟨i, by simp [typeInfo, hi], rfl⟩
theorem agg_run (t : TypeId) {b : Bool} (h : aggT P t = some b) : (isAgg t).run P w = .ok b w := by
  simp only [aggT, Option.map_eq_some_iff] at h
  obtain ⟨d, hd, rfl⟩ := h
  simp only [isAgg, Sem.run_bind, und_run t hd, Result.andThen_ok]
  cases d <;> rfl
theorem zero_run (t : TypeId) {z : AVal} (h : zeroT P t = some z) : Good P μ w (zeroValue t) z := by
  simp only [zeroT, Option.bind_eq_some_iff, Option.map_eq_some_iff] at h
  obtain ⟨i, hi, v, hv, rfl⟩ := h
  exact ⟨v, by simp [zeroValue, typeInfo, hi, hv], VR.ofConst v⟩

theorem asIntOf_good {k : IntKind} {n : Int} : (asIntOf (.int k n)).run P w = .ok (k, n) w := rfl
theorem asInt_good {k : IntKind} {n : Int} : (asInt (.int k n)).run P w = .ok n w := by simp [asInt, asIntOf_good]

theorem aShift_good {op : BinOp} {k yk : IntKind} {x y : Int} {v : AVal} (h : aShift op k x y = some v) (t : TypeId) :
    Good P μ w (binOp op t (.int k x) (.int yk y)) v := by
  unfold aShift at h
  split at h
  · cases h
  rename_i hy
  split at h <;> simp only [Option.some.injEq, reduceCtorEq] at h <;> subst h
  all_goals exact ⟨_, by simp [binOp, Op.shift, hy], .int _ _⟩

theorem aInt_good {op : BinOp} {k : IntKind} {x y : Int} {v : AVal} (h : aInt op k x y = some v) (t : TypeId) :
    Good P μ w (binOp op t (.int k x) (.int k y)) v := by
  cases op <;> simp only [aInt, reduceCtorEq, Option.some.injEq] at h
  case add | sub | mul => subst h; exact ⟨_, by simp [binOp, Op.intArith], .int _ _⟩
  case quo | rem =>
    split at h
    · cases h
    rename_i hy
    simp only [Option.some.injEq] at h
    subst h
    exact ⟨_, by simp [binOp, Op.intDiv, hy], .int _ _⟩
  case and | or | xor | andNot =>
    simp only [bitsOp, Option.map_some, Option.some.injEq] at h
    subst h
    exact ⟨_, by simp [binOp, Op.intBits], .int _ _⟩
  all_goals (subst h; exact ⟨_, by simp [binOp, Op.intCmp], .bool _⟩)

theorem toList_mk (s : List UInt8) : (ByteArray.mk s.toArray).toList = s := by rw [Go.ByteArray.toList_eq]
theorem size_mk (s : List UInt8) : (ByteArray.mk s.toArray).size = s.length := by simp [ByteArray.size]
theorem append_mk (s t : List UInt8) : (ByteArray.mk s.toArray) ++ (ByteArray.mk t.toArray) = ByteArray.mk (s ++ t).toArray := by
  apply ByteArray.ext
  simp

theorem aStr_good {op : BinOp} {x y : List UInt8} {v : AVal} (h : aStr op x y = some v) (t : TypeId) :
    Good P μ w (binOp op t (.string ⟨x.toArray⟩) (.string ⟨y.toArray⟩)) v := by
  cases op <;> simp only [aStr, reduceCtorEq, Option.some.injEq] at h
  case add =>
    split at h
    · rename_i hl
      simp only [Option.some.injEq] at h
      subst h
      refine ⟨_, ?_, .str (x ++ y)⟩
      have : ¬ ((((ByteArray.mk x.toArray).size + (ByteArray.mk y.toArray).size : Nat) : Int) > IntKind.i64.max) := by
        rw [size_mk, size_mk, show IntKind.i64.max = 9223372036854775807 from rfl]
        omega
      simp only [binOp, Op.stringOp, if_neg this, append_mk]
      rfl
    · cases h
  all_goals (subst h; refine ⟨_, ?_, .bool _⟩; simp only [binOp, Op.stringOp, toList_mk]; rfl)

theorem aEq_good {t : TypeId} {a b : AVal} {r : Bool} (h : aEq P t a b = some r) {x y : Value} (hx : VR μ a x) (hy : VR μ b y) : (Op.equal t x y).run P w = .ok r w := by
  unfold aEq at h
  split at h <;> simp only [Option.some.injEq, reduceCtorEq] at h <;> subst h <;> rename_i hu
  all_goals (
    obtain ⟨d, hd⟩ : ∃ d, Op.maxDepth = d + 1 := ⟨9999, rfl⟩
    unfold Op.equal
    rw [hd]
    cases hx <;> cases hy <;> simp [Op.equalIn, und_run t hu])

theorem eqGuard_int {op : BinOp} {t : TypeId} {x y : Operand} {k : IntKind} {n : Int} {b : Value} : (eqGuard op t x y (.int k n) b).run P w = .ok () w := by
  unfold eqGuard; cases op <;> simp <;> cases b <;> rfl

theorem aBin_good {op : BinOp} {t : TypeId} {x y : Operand} {a b v : AVal} (h : aBin P op t x y a b = some v) {xv yv : Value} (hx : VR μ a xv) (hy : VR μ b yv) :
    Good P μ w (do eqGuard op t x y xv yv; binOp op t xv yv) v := by
  have guard : (eqGuard op t x y xv yv).run P w = .ok () w → Good P μ w (binOp op t xv yv) v → Good P μ w (do eqGuard op t x y xv yv; binOp op t xv yv) v := by
    rintro hg ⟨v', hr, hv⟩
    exact ⟨v', by simp [hg, hr], hv⟩
  have eqs : ∀ {r : Bool}, aEq P t a b = some r → (∀ s, a ≠ .str s) → (∀ k n, a ≠ .int k n) → 
      (op = .eql → Good P μ w (binOp op t xv yv) (.bool r)) ∧ (op = .neq → Good P μ w (binOp op t xv yv) (.bool !r)) := by
    intro r hr h1 h2
    have he := aEq_good (w := w) hr hx hy
    constructor
    · rintro rfl
      refine ⟨_, ?_, .bool r⟩
      unfold aEq at hr
      split at hr <;> simp only [Option.some.injEq, reduceCtorEq] at hr <;> subst hr <;> cases hx <;> cases hy <;> simp_all [binOp]
    · rintro rfl
      refine ⟨_, ?_, .bool _⟩
      unfold aEq at hr
      split at hr <;> simp only [Option.some.injEq, reduceCtorEq] at hr <;> subst hr <;> cases hx <;> cases hy <;> simp_all [binOp]
  unfold aBin at h
  split at h
  · cases hx; cases hy; exact guard eqGuard_int (aShift_good h t)
  · cases hx; cases hy; exact guard eqGuard_int (aShift_good h t)
  · split at h
    · rename_i hk; subst hk; cases hx; cases hy; exact guard eqGuard_int (aInt_good h t)
    · cases h
  · cases hx; cases hy
    refine guard ?_ (aStr_good h t)
    unfold eqGuard; cases op <;> simp
  · split at h
    · rename_i hc
      have hg : (eqGuard op t x y xv yv).run P w = .ok () w := by
        cases hx; cases hy
        clear h guard eqs
        unfold eqGuard
        simp only [Bool.or_eq_true] at hc
        rcases hc with hc | hc
        · cases x <;> first | (cases hc; done) | (cases op <;> simp)
        · cases y <;> first | (cases hc; done) | (cases op <;> simp)
      split at h <;> simp only [Option.map_eq_some_iff, reduceCtorEq] at h
      · obtain ⟨r, hr, rfl⟩ := h
        exact guard hg ((eqs hr (by simp) (by simp)).1 rfl)
      · obtain ⟨r, hr, rfl⟩ := h
        exact guard hg ((eqs hr (by simp) (by simp)).2 rfl)
    · cases h
  · simp only [Option.map_eq_some_iff] at h
    obtain ⟨r, hr, rfl⟩ := h
    refine guard ?_ ((eqs hr ?_ ?_).1 rfl)
    · unfold aEq at hr
      split at hr <;> simp only [Option.some.injEq, reduceCtorEq] at hr <;> cases hx <;> cases hy <;> simp_all [eqGuard]
    · rintro s rfl; unfold aEq at hr; split at hr <;> simp_all
    · rintro k n rfl; unfold aEq at hr; split at hr <;> simp_all
  · simp only [Option.map_eq_some_iff] at h
    obtain ⟨r, hr, rfl⟩ := h
    refine guard ?_ ((eqs hr ?_ ?_).2 rfl)
    · unfold aEq at hr
      split at hr <;> simp only [Option.some.injEq, reduceCtorEq] at hr <;> cases hx <;> cases hy <;> simp_all [eqGuard]
    · rintro s rfl; unfold aEq at hr; split at hr <;> simp_all
    · rintro k n rfl; unfold aEq at hr; split at hr <;> simp_all
  · cases h

theorem aUn_good {op : UnOp} {a v : AVal} (h : aUn op a = some v) {xv : Value} (hx : VR μ a xv) : Good P μ w (Op.unary op xv) v := by
  unfold aUn at h
  split at h <;> simp only [bitsOp, Option.map_some, Option.some.injEq, reduceCtorEq] at h <;> subst h <;> cases hx
  · exact ⟨_, by simp [Op.unary, Op.intArith], .int _ _⟩
  · exact ⟨_, by simp [Op.unary, Op.intBits], .int _ _⟩
  · exact ⟨_, by simp [Op.unary], .bool _⟩

theorem partT_good {t : TypeId} {cs : List AVal} {off : Nat} {v : AVal} (h : partT P t cs off = some v) {C : Array Value} (hC : VRs μ cs C.toList) :
    Good P μ w (part t C off) v := by
  unfold partT at h
  split at h
  · rename_i n ha hn
    split at h
    · rename_i hl
      simp only [Option.some.injEq] at h
      subst h
      refine ⟨_, by simp only [part, Sem.run_bind, agg_run t ha, Result.andThen_ok, size_run t hn, if_true]; rfl, ?_⟩
      refine .agg ?_
      have e : (C.extract off (off + n)).toList = (C.toList.drop off).take n := by
        rw [Array.toList_extract, List.extract_eq_take_drop]
        simp
      rw [e]
      exact (hC.drop off).take n
    · cases h
  · rename_i n ha hn
    obtain ⟨y, hy, hv⟩ := hC.get h
    refine ⟨y, ?_, hv⟩
    have : C[off]? = some y := by simpa using hy
    simp [part, agg_run t ha, this]
  · cases h

theorem aFieldV_good {t : TypeId} {x v : AVal} {f : Nat} (h : aFieldV P t x f = some v) {xv : Value} (hx : VR μ x xv) : Good P μ w (Instr.field t xv f) v := by
  unfold aFieldV at h
  split at h
  · rename_i fs cs hu
    simp only [Option.bind_eq_some_iff] at h
    obtain ⟨fl, hf, hp⟩ := h
    cases hx with
    | agg hC =>
      obtain ⟨v', hr, hv⟩ := partT_good (w := w) hp hC
      exact ⟨v', by simp [Instr.field, und_run t hu, hf, asAgg, hr], hv⟩
  · cases h

theorem aIndexV_good {t : TypeId} {x ix v : AVal} (h : aIndexV P t x ix = some v) {xv iv : Value} (hx : VR μ x xv) (hi : VR μ ix iv) : Good P μ w (Instr.index t xv iv) v := by
  unfold aIndexV at h
  split at h
  · rename_i len e cs k n hu
    simp only [Option.bind_eq_some_iff] at h
    obtain ⟨sz, hs, h⟩ := h
    split at h
    · rename_i hb
      cases hi
      cases hx with
      | agg hC =>
        obtain ⟨v', hr, hv⟩ := partT_good (w := w) h hC
        exact ⟨v', by simp [Instr.index, asIntOf, und_run t hu, hb, size_run e hs, hr], hv⟩
    · cases h
  · rename_i s k n hu
    split at h
    · rename_i h0
      simp only [Option.map_eq_some_iff] at h
      obtain ⟨b, hb, rfl⟩ := h
      cases hi; cases hx
      refine ⟨_, ?_, .int _ _⟩
      have : (ByteArray.mk s.toArray)[n.toNat]? = some b := by
        rw [List.getElem?_eq_some_iff] at hb
        obtain ⟨hl, hb⟩ := hb
        have hl' : n.toNat < (ByteArray.mk s.toArray).size := by rw [size_mk]; exact hl
        rw [getElem?_pos (ByteArray.mk s.toArray) n.toNat hl']
        congr 1
      simp [Instr.index, asIntOf, und_run t hu, h0, this]
    · cases h
  · cases h

theorem aExtract_good {x v : AVal} {i : Nat} (h : aExtract x i = some v) {xv : Value} (hx : VR μ x xv) : Good P μ w (Instr.extract xv i) v := by
  unfold aExtract at h
  split at h
  · cases hx with
    | tuple hC =>
      obtain ⟨y, hy, hv⟩ := hC.get h
      have hy' : ∀ (a : Array Value), a.toList[i]? = some y → a[i]? = some y := fun a ha => by simpa using ha
      exact ⟨y, by simp [Instr.extract, hy' _ hy], hv⟩
  · cases h

theorem aMakeIface_good {t : TypeId} {x v : AVal} (h : aMakeIface P t x = some v) {xv : Value} (hx : VR μ x xv) : Good P μ w (Instr.makeInterface t xv) v := by
  unfold aMakeIface at h
  split at h
  · cases h
  · rename_i d hn hd
    simp only [Option.some.injEq] at h
    subst h
    refine ⟨.iface t xv, ?_, .iface t hx⟩
    simp only [Instr.makeInterface, Sem.run_bind, und_run t hd, Result.andThen_ok]
    cases d <;> first | rfl | (exact absurd rfl (hn _))
  · cases h

theorem aField_good {s : TypeId} {a v : AVal} {f : Nat} (h : aField P s a f = some v) {xv : Value} (hx : VR μ a xv) : Good P μ w (Instr.fieldAt s xv f) v := by
  unfold aField at h
  split at h
  · rename_i fs i off hu
    simp only [Option.bind_eq_some_iff] at h
    obtain ⟨fl, hf, h⟩ := h
    split at h
    · rename_i n hs
      simp only [Option.some.injEq] at h
      subst h
      cases hx with
      | ptr hm =>
        rename_i m
        refine ⟨_, ?_, VR.ptr hm⟩
        simp only [Instr.fieldAt, Instr.sureAddr, fieldPlace, Sem.run_bind, und_run s hu, Result.andThen_ok, hf, size_run _ hs]
        simp [Addr.add]
        split <;> simp_all [Nat.add_assoc]
    · cases h
  · cases h

theorem aNilCheck_good {x v : AVal} (h : aNilCheck x = some v) {xv : Value} (hx : VR μ x xv) : v = x ∧ ∃ a, xv = .pointer (some a) := by
  unfold aNilCheck at h
  split at h
  · simp only [Option.some.injEq] at h
    subst h
    cases hx
    exact ⟨rfl, _, rfl⟩
  · cases h

theorem aIndexAddr_good {t : TypeId} {x ix v : AVal} (h : aIndexAddr P t x ix = some v) {xv iv : Value} (hx : VR μ x xv) (hi : VR μ ix iv) : Good P μ w (Instr.indexAt t xv iv) v := by
  have key : ∀ (cb b o : Nat), (Addr.add ⟨cb, b, none⟩ o) = ⟨cb, b + o, none⟩ := fun cb b o => by
    unfold Addr.add; split <;> simp_all
  unfold aIndexAddr at h
  split at h
  · rename_i len e i off k n hu
    simp only [Option.bind_eq_some_iff] at h
    obtain ⟨sz, hs, h⟩ := h
    split at h
    · rename_i hb
      simp only [Option.some.injEq] at h
      subst h
      cases hi
      cases hx with
      | ptr hm =>
        refine ⟨_, ?_, VR.ptr hm⟩
        simp [Instr.indexAt, asIntOf, und_run t hu, Instr.sureAddr, hb, size_run e hs, key, Nat.add_assoc]
    · cases h
  · rename_i e i off z len c k n hu
    simp only [Option.bind_eq_some_iff] at h
    obtain ⟨sz, hs, h⟩ := h
    split at h
    · rename_i hb
      simp only [Option.some.injEq] at h
      subst h
      cases hi
      cases hx with
      | slice hm hz hl hc hcap hr =>
        refine ⟨_, ?_, VR.ptr hm⟩
        simp [Instr.indexAt, asIntOf, und_run t hu, hb, size_run e hs, key, Nat.add_assoc]
      | sliceE => exfalso; omega
    · cases h
  · cases h
end Go.Proofs.Ytbcpmbggidemdaa.AI
