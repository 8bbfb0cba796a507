/- The operations once more, with all that the program says of types put in. -/
import Derived.Test.YtbcpmbggidemdaaAiDrawU
namespace Go.Proofs.Ytbcpmbggidemdaa.AI
open Go
set_option linter.unusedSimpArgs false

variable {P : Program}

def rPick (c a b : AVal) : Option AVal :=
  match c with
  | .bool t => some (if t then a else b)
  | _ => none
def rBuild (z : List AVal) (pl : List (Nat × Nat)) (parts : List (Nat × AVal)) : Option AVal := (aFill (fun i => pl[i]?) z parts).map .agg
def rBuildA (z : List AVal) (n : Nat) (parts : List (Nat × AVal)) : Option AVal := (aFill (fun i => some (i * n, n)) z parts).map .agg
/-- n cells, as a whole. -/
def rLoadA (n : Nat) (a : AVal) (h : AH) : Option AVal :=
  match a with
  | .ptr (some (i, off)) => (h.row i).bind fun cs => if off + n ≤ cs.length then some (.agg ((cs.drop off).take n)) else none
  | _ => none
def rLoad (a : AVal) (h : AH) : Option AVal :=
  match a with
  | .ptr (some (i, off)) => (h.row i).bind fun cs => cs[off]?
  | _ => none
inductive EqK where
  | no | bool | ptr | slice | map | func | iface
  deriving DecidableEq
def eqK (P : Program) (t : TypeId) : EqK :=
  match P.underlying t with
  | some .bool => .bool
  | some (.pointer _) => .ptr
  | some (.slice _) => .slice
  | some (.map _ _) => .map
  | some (.func _ _ _) => .func
  | some (.interface _) => .iface
  | _ => .no
def rEq (k : EqK) (x y : AVal) : Option Bool :=
  match k, x, y with
  | .bool, .bool a, .bool b => some (a == b)
  | .ptr, .ptr none, .ptr b => some b.isNone
  | .ptr, .ptr (some _), .ptr none => some false
  | .slice, .slice none _ _, .slice b _ _ => some b.isNone
  | .slice, .slice (some _) _ _, .slice none _ _ => some false
  | .map, .map none, .map b => some b.isNone
  | .map, .map (some _), .map none => some false
  | .func, .nilFunc, .nilFunc => some true
  | .func, .nilFunc, .func _ _ _ => some false
  | .func, .func _ _ _, .nilFunc => some false
  | .iface, .nilIface, .nilIface => some true
  | .iface, .nilIface, .iface _ _ => some false
  | .iface, .iface _ _, .nilIface => some false
  | _, _, _ => none
def rBin (op : BinOp) (k : EqK) (c : Bool) (a b : AVal) : Option AVal :=
  match op, a, b with
  | .shl, .int k n, .int _ m => aShift .shl k n m
  | .shr, .int k n, .int _ m => aShift .shr k n m
  | op, .int k n, .int k' m => if k = k' then aInt op k n m else none
  | op, .str a, .str b => aStr op a b
  | op, .nilIface, .nilIface => if c then
      match op with
      | .eql => (rEq k a b).map .bool
      | .neq => (rEq k a b).map fun r => .bool !r
      | _ => none
    else none
  | .eql, a, b => (rEq k a b).map .bool
  | .neq, a, b => (rEq k a b).map fun r => .bool !r
  | _, _, _ => none
theorem rEq_eq (t : TypeId) (x y : AVal) : rEq (eqK P t) x y = aEq P t x y := by
  unfold eqK aEq
  cases hu : P.underlying t with
  | none => simp [rEq]
  | some d => cases d <;> rcases x with _|_|_|_|(_|_)|⟨(_|_),_,_⟩|(_|_)|_|_|_|_|_|_ <;> first | rfl | (rcases y with _|_|_|_|(_|_)|⟨(_|_),_,_⟩|(_|_)|_|_|_|_|_|_ <;> rfl)
theorem rBin_eq (op : BinOp) (t : TypeId) (x y : Operand) (a b : AVal) : rBin op (eqK P t) (isConstB x || isConstB y) a b = aBin P op t x y a b := by
  unfold rBin aBin
  simp only [rEq_eq]
  rfl
def rConvI (k : IntKind) (x : AVal) : Option AVal :=
  match x with
  | .int _ n => some (.int k (k.wrap n))
  | _ => none
def rConvS (x : AVal) : Option AVal :=
  match x with
  | .str s => some (.str s)
  | _ => none
/-- A string out of bytes. -/
def rText (x : AVal) (h : AH) : Option AVal :=
  match x with
  | .slice none _ _ => some (.str [])
  | .slice (some (i, off, z)) len _ =>
    if len = 0 then some (.str []) else
    if z = 1 then ((h.read i off len).bind toBytes).map .str else none
  | _ => none
/-- A pointer, as unsafe.Pointer. -/
def rUnsafe (x : AVal) (h : AH) : Option AVal :=
  match x with
  | .ptr (some (i, off)) => (h.row i).bind fun cs => if off < cs.length then some (.ptr (some (i, off))) else none
  | _ => none
def rFieldP (off : Nat) (a : AVal) : Option AVal :=
  match a with
  | .ptr (some (i, o)) => some (.ptr (some (i, o + off)))
  | _ => none
def rFieldA (n off : Nat) (x : AVal) : Option AVal :=
  match x with
  | .agg cs => if off + n ≤ cs.length then some (.agg ((cs.drop off).take n)) else none
  | _ => none
def rField (off : Nat) (x : AVal) : Option AVal :=
  match x with
  | .agg cs => cs[off]?
  | _ => none
def rAtArr (len sz : Nat) (x ix : AVal) : Option AVal :=
  match x, ix with
  | .ptr (some (i, off)), .int _ n => if 0 ≤ n ∧ n < len then some (.ptr (some (i, off + n.toNat * sz))) else none
  | _, _ => none
def rAt (sz : Nat) (x ix : AVal) : Option AVal :=
  match x, ix with
  | .slice (some (i, off, z)) len _, .int _ n => if sz = z ∧ 0 ≤ n ∧ n < len then some (.ptr (some (i, off + n.toNat * sz))) else none
  | _, _ => none
def rCutS (x : AVal) (lo hi : Option AVal) : Option AVal :=
  match x with
  | .str s => (aBound hi s.length s.length).bind fun b => (aBound lo 0 b).bind fun a => some (.str ((s.take b).drop a))
  | _ => none
def rCut (sz : Nat) (x : AVal) (lo hi mx : Option AVal) : Option AVal :=
  match x with
  | .slice a len cap => (aBound mx cap cap).bind fun m => (aBound hi len m).bind fun b => (aBound lo 0 b).bind fun l =>
      match a with
      | none => some (.slice none (b - l) (m - l))
      | some (i, off, z) => if z = 0 ∧ len = 0 ∧ cap = 0 ∧ m = 0 ∧ b = 0 then some (.slice (some (i, off, 0)) 0 0) else if z = sz ∧ 0 < sz ∧ b ≤ m then some (.slice (some (i, off + l * sz, sz)) (b - l) (m - l)) else none
  | _ => none
def rCutA (n sz : Nat) (x : AVal) (lo hi mx : Option AVal) (h : AH) : Option AVal :=
  match x with
  | .ptr (some (i, off)) => (aBound mx n n).bind fun m => (aBound hi n m).bind fun b => (aBound lo 0 b).bind fun l =>
      (h.row i).bind fun cs => if 0 < sz ∧ b ≤ m ∧ off + n * sz ≤ cs.length then some (.slice (some (i, off + l * sz, sz)) (b - l) (m - l)) else none
  | _ => none
def rIndexA (ag : Bool) (len sz : Nat) (x ix : AVal) : Option AVal :=
  match x, ix with
  | .agg cs, .int _ n => if 0 ≤ n ∧ n < len then (if ag then (if n.toNat * sz + sz ≤ cs.length then some (.agg ((cs.drop (n.toNat * sz)).take sz)) else none) else cs[n.toNat * sz]?) else none
  | _, _ => none
def rIndexS (x ix : AVal) : Option AVal :=
  match x, ix with
  | .str s, .int _ n => if 0 ≤ n then (s[n.toNat]?).map fun b => .int .u8 b.toNat else none
  | _, _ => none
def rLenS (x : AVal) : Option AVal :=
  match x with
  | .str s => some (.int .i64 s.length)
  | _ => none
def rLen (x : AVal) : Option AVal :=
  match x with
  | .slice _ n _ => some (.int .i64 n)
  | _ => none
def rLenM (x : AVal) (h : AH) : Option AVal :=
  match x with
  | .map none => some (.int .i64 0)
  | .map (some i) => match h.get i with
    | some ⟨.map es, md, _⟩ => if md = .dead then none else some (.int .i64 es.length)
    | _ => none
  | _ => none
def rCap (x : AVal) (h : AH) : Option AVal :=
  match x with
  | .slice none _ n => some (.int .i64 n)
  | .slice (some (i, off, z)) _ n => match h.get i with
    | some ⟨.row cs _ opn, md, _⟩ => if md ≠ .dead ∧ (off + n * z < cs.length ∨ (opn = false ∧ off + n * z = cs.length)) then some (.int .i64 n) else none
    | _ => none
  | _ => none

/-- A quiet operation. -/
def qOp (P : Program) (ρ : AEnv) (op : Op) (h : AH) : Option AVal :=
  match op with
  | .move x | .assign x => some (ρ x)
  | .pick c a b => rPick (ρ c) (ρ a) (ρ b)
  | .build t ps => match P.underlying t, zeroCellsT P t with
    | some (.struct fs), some z => match placesT P fs with
      | some pl => rBuild z pl (aParts ρ ps)
      | none => none
    | some (.array _ e), some z => match szT P e with
      | some n => rBuildA z n (aParts ρ ps)
      | none => none
    | _, _ => none
  | .load t a => match aggT P t, szT P t with
    | some true, some n => rLoadA n (ρ a) h
    | some false, some _ => rLoad (ρ a) h
    | _, _ => none
  | .nilCheck x => aNilCheck (ρ x)
  | .binOp op t x y _ => rBin op (eqK P t) (isConstB x || isConstB y) (ρ x) (ρ y)
  | .unOp op _ x => aUn op (ρ x)
  | .convert s d x => match P.underlying s, P.underlying d with
    | some (.slice e), some .string => match P.underlying e with
      | some (.int .u8) => rText (ρ x) h
      | _ => none
    | some _, some (.int k) => rConvI k (ρ x)
    | some _, some .string => rConvS (ρ x)
    | some (.pointer t), some .unsafePointer => match szT P t with
      | some (_ + 1) => rUnsafe (ρ x) h
      | _ => none
    | _, _ => none
  | .makeInterface t x => match P.underlying t with
    | some (.interface _) => none
    | some _ => some (.iface t (ρ x))
    | none => none
  | .makeFunc fn a b => some (.func fn (a.toList.map ρ) (b.toList.map ρ))
  | .slice t x lo hi mx => match P.underlying t with
    | some .string => if mx.isSome then none else rCutS (ρ x) (lo.map ρ) (hi.map ρ)
    | some (.slice e) => if mx.isSome && hi.isNone then none else match szT P e with
      | some sz => rCut sz (ρ x) (lo.map ρ) (hi.map ρ) (mx.map ρ)
      | none => none
    | some (.array n e) => if mx.isSome && hi.isNone then none else match szT P e with
      | some sz => rCutA n sz (ρ x) (lo.map ρ) (hi.map ρ) (mx.map ρ) h
      | none => none
    | _ => none
  | .fieldAddr s x f => match P.underlying s with
    | some (.struct fs) => match fs[f]? with
      | some fl => match szT P fl.type with
        | some (_ + 1) => rFieldP fl.offset (ρ x)
        | _ => none
      | none => none
    | _ => none
  | .field t x f => match P.underlying t with
    | some (.struct fs) => match fs[f]? with
      | some fl => match aggT P fl.type, szT P fl.type with
        | some true, some n => rFieldA n fl.offset (ρ x)
        | some false, some _ => rField fl.offset (ρ x)
        | _, _ => none
      | none => none
    | _ => none
  | .indexAddr t x i => match P.underlying t with
    | some (.array len e) => match szT P e with
      | some sz => rAtArr len sz (ρ x) (ρ i)
      | none => none
    | some (.slice e) => match szT P e with
      | some sz => rAt sz (ρ x) (ρ i)
      | none => none
    | _ => none
  | .index t x i => match P.underlying t with
    | some (.array len e) => match aggT P e, szT P e with
      | some ag, some sz => rIndexA ag len sz (ρ x) (ρ i)
      | _, _ => none
    | some .string => rIndexS (ρ x) (ρ i)
    | _ => none
  | .extract x i => aExtract (ρ x) i
  | .call { callee := .builtin b, args, argTypes } =>
    match b, args.toList.map ρ with
    | .len, [x] => match argTypes.toList with
      | t :: _ => match P.underlying t with
        | some .string => rLenS x
        | some (.array n _) => some (.int .i64 n)
        | some (.slice _) => rLen x
        | some (.map _ _) => rLenM x h
        | _ => none
      | _ => none
    | .cap, [x] => match argTypes.toList with
      | t :: _ => match P.underlying t with
        | some (.slice _) => rCap x h
        | _ => none
      | _ => none
    | .max, l => aMM aMax2 l
    | .min, l => aMM aMin2 l
    | _, _ => none
  | _ => none

theorem qOp_aQ {ρ : AEnv} {op : Op} {h : AH} {v : AVal} (hq : qOp P ρ op h = some v) : aQ P ρ op h = some v := by
  unfold qOp at hq
  unfold aQ
  split at hq
  all_goals simp only
  · exact hq
  · exact hq
  · exact hq
  · -- build
    split at hq
    · rename_i fs z h1 h2
      split at hq
      · rename_i pl h3
        simp only [aBuild, h1, h2, h3, Option.bind_some]
        exact hq
      · cases hq
    · rename_i n e z h1 h2
      split at hq
      · rename_i m h3
        simp only [aBuild, h1, h2, h3, Option.bind_some]
        exact hq
      · cases hq
    · cases hq
  · -- load
    unfold aLoad partT
    split at hq
    · rename_i n h1 h2
      simp only [h1, h2]
      exact hq
    · rename_i n h1 h2
      simp only [h1, h2]
      exact hq
    · cases hq
  · exact hq
  · rw [rBin_eq] at hq; exact hq
  · exact hq
  · -- convert
    split at hq
    · rename_i e h1 h2
      split at hq
      · rename_i h3
        simp only [h2]
        unfold rText at hq
        unfold aConvert
        simp only [h1, h2]
        split at hq
        · rename_i hx; simp only [hx, h3]; simpa using hq
        · rename_i i off z len cap hx
          simp only [hx, h3]
          split at hq
          · rename_i hl; simp only [hl, if_true]; simpa using hq
          · rename_i hl
            simp only [if_neg hl]
            split at hq
            · rename_i hz
              simp only [if_pos hz, Option.map_map]
              exact hq
            · cases hq
        · cases hq
      · cases hq
    · rename_i d k h1 h2
      simp only [h2]
      unfold rConvI at hq
      unfold aConvert
      simp only [h1, h2]
      split at hq
      · rename_i hx; simp only [hx]; simpa using hq
      · cases hq
    · rename_i d h1 h2
      simp only [h2]
      unfold rConvS at hq
      unfold aConvert
      simp only [h1, h2]
      split at hq
      · rename_i hx; simp only [hx]; simpa using hq
      · cases hq
    · rename_i t h1 h2
      simp only [h2]
      unfold aConvert
      simp only [h1, h2]
      split at hq
      · rename_i n hn
        unfold rUnsafe at hq
        split at hq
        · rename_i i off hx
          simp only [hx, hn]
          simp only [Option.bind_eq_some_iff] at hq ⊢
          obtain ⟨cs, hr, hq⟩ := hq
          split at hq
          · rename_i hlt
            simp only [hr, Option.bind_some, if_pos hlt, Option.map_some]
            exact hq
          · cases hq
        · cases hq
      · cases hq
    · cases hq
  · -- makeInterface
    unfold aMakeIface
    exact hq
  · exact hq
  · -- slice
    rename_i t x lo hi mx
    unfold aSlice
    split at hq
    · rename_i h1
      split at hq
      · cases hq
      · rename_i hm
        have hmx : (mx.map ρ).isSome = mx.isSome := by cases mx <;> rfl
        simp only [h1]
        unfold rCutS at hq
        split at hq
        · rename_i hx
          simp only [hx, hmx, hm, if_false, Bool.false_eq_true]
          exact hq
        · cases hq
    · rename_i e h1
      split at hq
      · cases hq
      · rename_i hm
        have hmx : ((mx.map ρ).isSome && (hi.map ρ).isNone) = (mx.isSome && hi.isNone) := by cases mx <;> cases hi <;> rfl
        simp only [h1]
        split at hq
        · rename_i sz h2
          unfold rCut at hq
          split at hq
          · rename_i hx
            simp only [hx, hmx, hm, if_false, Bool.false_eq_true, h2, Option.bind_some]
            exact hq
          · cases hq
        · cases hq
    · rename_i n e h1
      split at hq
      · cases hq
      · rename_i hm
        have hmx : ((mx.map ρ).isSome && (hi.map ρ).isNone) = (mx.isSome && hi.isNone) := by cases mx <;> cases hi <;> rfl
        simp only [h1]
        split at hq
        · rename_i sz h2
          unfold rCutA at hq
          split at hq
          · rename_i hx
            simp only [hx, hmx, hm, if_false, Bool.false_eq_true, h2, Option.bind_some]
            exact hq
          · cases hq
        · cases hq
    · cases hq
  · -- fieldAddr
    unfold aField
    split at hq
    · rename_i fs h1
      split at hq
      · rename_i fl h2
        split at hq
        · rename_i h3
          unfold rFieldP at hq
          split at hq
          · rename_i hx
            simp only [h1, hx, h2, h3, Option.bind_some]
            exact hq
          · cases hq
        · cases hq
      · cases hq
    · cases hq
  · -- field
    unfold aFieldV partT
    split at hq
    · rename_i fs h1
      split at hq
      · rename_i fl h2
        split at hq
        · rename_i n h3 h4
          unfold rFieldA at hq
          split at hq
          · rename_i hx
            simp only [h1, hx, h2, h3, h4, Option.bind_some]
            exact hq
          · cases hq
        · rename_i n h3 h4
          unfold rField at hq
          split at hq
          · rename_i hx
            simp only [h1, hx, h2, h3, h4, Option.bind_some]
            exact hq
          · cases hq
        · cases hq
      · cases hq
    · cases hq
  · -- indexAddr
    unfold aIndexAddr
    split at hq
    · rename_i len e h1
      split at hq
      · rename_i sz h2
        unfold rAtArr at hq
        split at hq
        · rename_i hx hi
          simp only [h1, hx, hi, h2, Option.bind_some]
          exact hq
        · cases hq
      · cases hq
    · rename_i e h1
      split at hq
      · rename_i sz h2
        unfold rAt at hq
        split at hq
        · rename_i hx hi
          simp only [h1, hx, hi, h2, Option.bind_some]
          exact hq
        · cases hq
      · cases hq
    · cases hq
  · -- index
    unfold aIndexV partT
    split at hq
    · rename_i len e h1
      split at hq
      · rename_i ag sz h2 h3
        unfold rIndexA at hq
        split at hq
        · rename_i hx hi
          simp only [h1, hx, hi, h2, h3, Option.bind_some]
          cases ag <;> exact hq
        · cases hq
      · cases hq
    · rename_i h1
      unfold rIndexS at hq
      split at hq
      · rename_i hx hi
        simp only [h1, hx, hi]
        exact hq
      · cases hq
    · cases hq
  · exact hq
  · -- call
    rename_i b args argTypes
    split at hq
    · rename_i x hb hx
      unfold aLen
      split at hq
      · rename_i t r ht
        simp only [hx, ht]
        split at hq
        · rename_i h1
          unfold rLenS at hq
          split at hq
          · simp only [h1]; exact hq
          · cases hq
        · rename_i h1; simp only [h1]; exact hq
        · rename_i h1
          unfold rLen at hq
          split at hq
          · simp only [h1]; exact hq
          · cases hq
        · rename_i h1
          unfold rLenM at hq
          split at hq
          · simp only [h1]; exact hq
          · simp only [h1]; exact hq
          · cases hq
        · cases hq
      · cases hq
    · rename_i x hb hx
      unfold aCap
      split at hq
      · rename_i t r ht
        simp only [hx, ht]
        split at hq
        · rename_i h1
          unfold rCap at hq
          split at hq
          · simp only [h1]; exact hq
          · simp only [h1]; exact hq
          · cases hq
        · cases hq
      · cases hq
    · exact hq
    · exact hq
    · cases hq
  · cases hq
end Go.Proofs.Ytbcpmbggidemdaa.AI
