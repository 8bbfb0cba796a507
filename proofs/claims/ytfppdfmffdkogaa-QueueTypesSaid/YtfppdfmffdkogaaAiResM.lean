/- Res, ResM of the machine, joined. -/
import Derived.Test.YtfppdfmffdkogaaAiDrawU
namespace Go.Proofs.Ytfppdfmffdkogaa.AI
open Go
set_option linter.unusedSimpArgs false

variable {P : Program}

def rPick (c a b : AVal) : Option AVal :=
  match c with
  | .bool t => some (if t then a else b)
  | _ => none
def rBuild (z : List AVal) (pl : List (Nat × Nat)) (parts : List (Nat × AVal)) : Option AVal := (aFill (fun i => pl[i]?) z parts).map .agg
def rBuildA (z : List AVal) (n : Nat) (parts : List (Nat × AVal)) : Option AVal := (aFill (fun i => some (i * n, n)) z parts).map .agg
/-- n cells, as a whole. -/
def rLoadA (n : Nat) (a : AVal) (h : AH) : Option AVal :=
  match a with
  | .ptr (some (i, off)) => (h.row i).bind fun cs => if off + n ≤ cs.length then some (.agg ((cs.drop off).take n)) else none
  | _ => none
def rLoad (a : AVal) (h : AH) : Option AVal :=
  match a with
  | .ptr (some (i, off)) => (h.row i).bind fun cs => cs[off]?
  | _ => none
inductive EqK where
  | no | bool | ptr | slice | map | func | iface | ints (n : Nat)
  deriving DecidableEq
def eqK (P : Program) (t : TypeId) : EqK :=
  match P.underlying t with
  | some .bool => .bool
  | some (.pointer _) => .ptr
  | some (.slice _) => .slice
  | some (.map _ _) => .map
  | some (.func _ _ _) => .func
  | some (.interface _) => .iface
  | some (.array n e) => match intsT P e && !P.eqGuardType P.depth t with
    | true => .ints n
    | false => .no
  | _ => .no
def rEq (k : EqK) (x y : AVal) : Option Bool :=
  match k, x, y with
  | .bool, .bool a, .bool b => some (a == b)
  | .ptr, .ptr none, .ptr b => some b.isNone
  | .ptr, .ptr (some _), .ptr none => some false
  | .slice, .slice none _ _, .slice b _ _ => some b.isNone
  | .slice, .slice (some _) _ _, .slice none _ _ => some false
  | .map, .map none, .map b => some b.isNone
  | .map, .map (some _), .map none => some false
  | .func, .nilFunc, .nilFunc => some true
  | .func, .nilFunc, .func _ _ _ => some false
  | .func, .func _ _ _, .nilFunc => some false
  | .iface, .nilIface, .nilIface => some true
  | .iface, .nilIface, .iface _ _ => some false
  | .iface, .iface _ _, .nilIface => some false
  | .ints n, .agg a, .agg b => if a.length = n ∧ b.length = n then eqInts a b else none
  | _, _, _ => none
def rBin (op : BinOp) (k : EqK) (c : Bool) (a b : AVal) : Option AVal :=
  match op, a, b with
  | .shl, .int k n, .int _ m => aShift .shl k n m
  | .shr, .int k n, .int _ m => aShift .shr k n m
  | op, .int k n, .int k' m => if k = k' then aInt op k n m else none
  | op, .str a, .str b => aStr op a b
  | op, .nilIface, .nilIface => if c then
      match op with
      | .eql => (rEq k a b).map .bool
      | .neq => (rEq k a b).map fun r => .bool !r
      | _ => none
    else none
  | .eql, a, b => (rEq k a b).map .bool
  | .neq, a, b => (rEq k a b).map fun r => .bool !r
  | _, _, _ => none
theorem rEq_eq (t : TypeId) (x y : AVal) : rEq (eqK P t) x y = aEq P t x y := by
  unfold eqK aEq
  cases hu : P.underlying t with
  | none => simp [rEq]
  | some d =>
    cases d
    case array n e =>
      simp only
      cases hi : (intsT P e && !P.eqGuardType P.depth t)
      · rcases x with _|_|_|_|(_|_)|⟨(_|_),_,_⟩|(_|_)|_|_|_|_|_|_ <;> first | rfl | (rcases y with _|_|_|_|(_|_)|⟨(_|_),_,_⟩|(_|_)|_|_|_|_|_|_ <;> first | rfl | simp only [rEq, hi, Bool.false_eq_true, false_and, if_false, true_and])
      · rcases x with _|_|_|_|(_|_)|⟨(_|_),_,_⟩|(_|_)|_|_|_|_|_|_ <;> first | rfl | (rcases y with _|_|_|_|(_|_)|⟨(_|_),_,_⟩|(_|_)|_|_|_|_|_|_ <;> first | rfl | simp only [rEq, hi, Bool.false_eq_true, false_and, if_false, true_and])
    all_goals rcases x with _|_|_|_|(_|_)|⟨(_|_),_,_⟩|(_|_)|_|_|_|_|_|_ <;> first | rfl | (rcases y with _|_|_|_|(_|_)|⟨(_|_),_,_⟩|(_|_)|_|_|_|_|_|_ <;> rfl)
theorem rBin_eq (op : BinOp) (t : TypeId) (x y : Operand) (a b : AVal) : rBin op (eqK P t) (isConstB x || isConstB y) a b = aBin P op t x y a b := by
  unfold rBin aBin
  simp only [rEq_eq]
  rfl
def rConvI (k : IntKind) (x : AVal) : Option AVal :=
  match x with
  | .int _ n => some (.int k (k.wrap n))
  | _ => none
def rConvS (x : AVal) : Option AVal :=
  match x with
  | .str s => some (.str s)
  | _ => none
/-- A string out of bytes. -/
def rText (x : AVal) (h : AH) : Option AVal :=
  match x with
  | .slice none _ _ => some (.str [])
  | .slice (some (i, off, z)) len _ =>
    if len = 0 then some (.str []) else
    if z = 1 then ((h.read i off len).bind toBytes).map .str else none
  | _ => none
/-- A pointer, as unsafe.Pointer. -/
def rUnsafe (x : AVal) (h : AH) : Option AVal :=
  match x with
  | .ptr (some (i, off)) => (h.row i).bind fun cs => if off < cs.length then some (.ptr (some (i, off))) else none
  | _ => none
def rFieldP (off : Nat) (a : AVal) : Option AVal :=
  match a with
  | .ptr (some (i, o)) => some (.ptr (some (i, o + off)))
  | _ => none
def rFieldA (n off : Nat) (x : AVal) : Option AVal :=
  match x with
  | .agg cs => if off + n ≤ cs.length then some (.agg ((cs.drop off).take n)) else none
  | _ => none
def rField (off : Nat) (x : AVal) : Option AVal :=
  match x with
  | .agg cs => cs[off]?
  | _ => none
def rAtArr (len sz : Nat) (x ix : AVal) : Option AVal :=
  match x, ix with
  | .ptr (some (i, off)), .int _ n => if 0 ≤ n ∧ n < len then some (.ptr (some (i, off + n.toNat * sz))) else none
  | _, _ => none
def rAt (sz : Nat) (x ix : AVal) : Option AVal :=
  match x, ix with
  | .slice (some (i, off, z)) len _, .int _ n => if sz = z ∧ 0 ≤ n ∧ n < len then some (.ptr (some (i, off + n.toNat * sz))) else none
  | _, _ => none
def rCutS (x : AVal) (lo hi : Option AVal) : Option AVal :=
  match x with
  | .str s => (aBound hi s.length s.length).bind fun b => (aBound lo 0 b).bind fun a => some (.str ((s.take b).drop a))
  | _ => none
def rCut (sz : Nat) (x : AVal) (lo hi mx : Option AVal) : Option AVal :=
  match x with
  | .slice a len cap => (aBound mx cap cap).bind fun m => (aBound hi len m).bind fun b => (aBound lo 0 b).bind fun l =>
      match a with
      | none => some (.slice none (b - l) (m - l))
      | some (i, off, z) => if z = 0 ∧ len = 0 ∧ cap = 0 ∧ m = 0 ∧ b = 0 then some (.slice (some (i, off, 0)) 0 0) else if z = sz ∧ 0 < sz ∧ b ≤ m then some (.slice (some (i, off + l * sz, sz)) (b - l) (m - l)) else none
  | _ => none
def rCutA (n sz : Nat) (x : AVal) (lo hi mx : Option AVal) (h : AH) : Option AVal :=
  match x with
  | .ptr (some (i, off)) => (aBound mx n n).bind fun m => (aBound hi n m).bind fun b => (aBound lo 0 b).bind fun l =>
      (h.row i).bind fun cs => if 0 < sz ∧ b ≤ m ∧ off + n * sz ≤ cs.length then some (.slice (some (i, off + l * sz, sz)) (b - l) (m - l)) else none
  | _ => none
def rIndexA (ag : Bool) (len sz : Nat) (x ix : AVal) : Option AVal :=
  match x, ix with
  | .agg cs, .int _ n => if 0 ≤ n ∧ n < len then (if ag then (if n.toNat * sz + sz ≤ cs.length then some (.agg ((cs.drop (n.toNat * sz)).take sz)) else none) else cs[n.toNat * sz]?) else none
  | _, _ => none
def rIndexS (x ix : AVal) : Option AVal :=
  match x, ix with
  | .str s, .int _ n => if 0 ≤ n then (s[n.toNat]?).map fun b => .int .u8 b.toNat else none
  | _, _ => none
def rLenS (x : AVal) : Option AVal :=
  match x with
  | .str s => some (.int .i64 s.length)
  | _ => none
def rLen (x : AVal) : Option AVal :=
  match x with
  | .slice _ n _ => some (.int .i64 n)
  | _ => none
def rLenM (x : AVal) (h : AH) : Option AVal :=
  match x with
  | .map none => some (.int .i64 0)
  | .map (some i) => match h.get i with
    | some ⟨.map es, md, _⟩ => if md = .dead then none else some (.int .i64 es.length)
    | _ => none
  | _ => none
def rCap (x : AVal) (h : AH) : Option AVal :=
  match x with
  | .slice none _ n => some (.int .i64 n)
  | .slice (some (i, off, z)) _ n => match h.get i with
    | some ⟨.row cs _ opn, md, _⟩ => if md ≠ .dead ∧ (off + n * z < cs.length ∨ (opn = false ∧ off + n * z = cs.length)) then some (.int .i64 n) else none
    | _ => none
  | _ => none

/-- A quiet operation. -/
def qOp (P : Program) (ρ : AEnv) (op : Op) (h : AH) : Option AVal :=
  match op with
  | .move x | .assign x => some (ρ x)
  | .pick c a b => rPick (ρ c) (ρ a) (ρ b)
  | .build t ps => match P.underlying t, zeroCellsT P t with
    | some (.struct fs), some z => match placesT P fs with
      | some pl => rBuild z pl (aParts ρ ps)
      | none => none
    | some (.array _ e), some z => match szT P e with
      | some n => rBuildA z n (aParts ρ ps)
      | none => none
    | _, _ => none
  | .load t a => match aggT P t, szT P t with
    | some true, some n => rLoadA n (ρ a) h
    | some false, some _ => rLoad (ρ a) h
    | _, _ => none
  | .nilCheck x => aNilCheck (ρ x)
  | .binOp op t x y _ => rBin op (eqK P t) (isConstB x || isConstB y) (ρ x) (ρ y)
  | .unOp op _ x => aUn op (ρ x)
  | .convert s d x => match P.underlying s, P.underlying d with
    | some (.slice e), some .string => match P.underlying e with
      | some (.int .u8) => rText (ρ x) h
      | _ => none
    | some _, some (.int k) => rConvI k (ρ x)
    | some _, some .string => rConvS (ρ x)
    | some (.pointer t), some .unsafePointer => match szT P t with
      | some (_ + 1) => rUnsafe (ρ x) h
      | _ => none
    | _, _ => none
  | .makeInterface t x => match P.underlying t with
    | some (.interface _) => none
    | some _ => some (.iface t (ρ x))
    | none => none
  | .makeFunc fn a b => some (.func fn (a.toList.map ρ) (b.toList.map ρ))
  | .slice t x lo hi mx => match P.underlying t with
    | some .string => if mx.isSome then none else rCutS (ρ x) (lo.map ρ) (hi.map ρ)
    | some (.slice e) => if mx.isSome && hi.isNone then none else match szT P e with
      | some sz => rCut sz (ρ x) (lo.map ρ) (hi.map ρ) (mx.map ρ)
      | none => none
    | some (.array n e) => if mx.isSome && hi.isNone then none else match szT P e with
      | some sz => rCutA n sz (ρ x) (lo.map ρ) (hi.map ρ) (mx.map ρ) h
      | none => none
    | _ => none
  | .fieldAddr s x f => match P.underlying s with
    | some (.struct fs) => match fs[f]? with
      | some fl => match szT P fl.type with
        | some (_ + 1) => rFieldP fl.offset (ρ x)
        | _ => none
      | none => none
    | _ => none
  | .field t x f => match P.underlying t with
    | some (.struct fs) => match fs[f]? with
      | some fl => match aggT P fl.type, szT P fl.type with
        | some true, some n => rFieldA n fl.offset (ρ x)
        | some false, some _ => rField fl.offset (ρ x)
        | _, _ => none
      | none => none
    | _ => none
  | .indexAddr t x i => match P.underlying t with
    | some (.array len e) => match szT P e with
      | some sz => rAtArr len sz (ρ x) (ρ i)
      | none => none
    | some (.slice e) => match szT P e with
      | some sz => rAt sz (ρ x) (ρ i)
      | none => none
    | _ => none
  | .index t x i => match P.underlying t with
    | some (.array len e) => match aggT P e, szT P e with
      | some ag, some sz => rIndexA ag len sz (ρ x) (ρ i)
      | _, _ => none
    | some .string => rIndexS (ρ x) (ρ i)
    | _ => none
  | .extract x i => aExtract (ρ x) i
  | .call { callee := .builtin b, args, argTypes } =>
    match b, args.toList.map ρ with
    | .len, [x] => match argTypes.toList with
      | t :: _ => match P.underlying t with
        | some .string => rLenS x
        | some (.array n _) => some (.int .i64 n)
        | some (.slice _) => rLen x
        | some (.map _ _) => rLenM x h
        | _ => none
      | _ => none
    | .cap, [x] => match argTypes.toList with
      | t :: _ => match P.underlying t with
        | some (.slice _) => rCap x h
        | _ => none
      | _ => none
    | .max, l => aMM aMax2 l
    | .min, l => aMM aMin2 l
    | _, _ => none
  | .lookup t x k ok => aLookup P t (ρ x) (ρ k) ok h
  | _ => none

theorem qOp_aQ {ρ : AEnv} {op : Op} {h : AH} {v : AVal} (hq : qOp P ρ op h = some v) : aQ P ρ op h = some v := by
  unfold qOp at hq
  unfold aQ
  split at hq
  all_goals simp only
  · exact hq
  · exact hq
  · exact hq
  · -- build
    split at hq
    · rename_i fs z h1 h2
      split at hq
      · rename_i pl h3
        simp only [aBuild, h1, h2, h3, Option.bind_some]
        exact hq
      · cases hq
    · rename_i n e z h1 h2
      split at hq
      · rename_i m h3
        simp only [aBuild, h1, h2, h3, Option.bind_some]
        exact hq
      · cases hq
    · cases hq
  · -- load
    unfold aLoad partT
    split at hq
    · rename_i n h1 h2
      simp only [h1, h2]
      exact hq
    · rename_i n h1 h2
      simp only [h1, h2]
      exact hq
    · cases hq
  · exact hq
  · rw [rBin_eq] at hq; exact hq
  · exact hq
  · -- convert
    split at hq
    · rename_i e h1 h2
      split at hq
      · rename_i h3
        simp only [h2]
        unfold rText at hq
        unfold aConvert
        simp only [h1, h2]
        split at hq
        · rename_i hx; simp only [hx, h3]; simpa using hq
        · rename_i i off z len cap hx
          simp only [hx, h3]
          split at hq
          · rename_i hl; simp only [hl, if_true]; simpa using hq
          · rename_i hl
            simp only [if_neg hl]
            split at hq
            · rename_i hz
              simp only [if_pos hz, Option.map_map]
              exact hq
            · cases hq
        · cases hq
      · cases hq
    · rename_i d k h1 h2
      simp only [h2]
      unfold rConvI at hq
      unfold aConvert
      simp only [h1, h2]
      split at hq
      · rename_i hx; simp only [hx]; simpa using hq
      · cases hq
    · rename_i d h1 h2
      simp only [h2]
      unfold rConvS at hq
      unfold aConvert
      simp only [h1, h2]
      split at hq
      · rename_i hx; simp only [hx]; simpa using hq
      · cases hq
    · rename_i t h1 h2
      simp only [h2]
      unfold aConvert
      simp only [h1, h2]
      split at hq
      · rename_i n hn
        unfold rUnsafe at hq
        split at hq
        · rename_i i off hx
          simp only [hx, hn]
          simp only [Option.bind_eq_some_iff] at hq ⊢
          obtain ⟨cs, hr, hq⟩ := hq
          split at hq
          · rename_i hlt
            simp only [hr, Option.bind_some, if_pos hlt, Option.map_some]
            exact hq
          · cases hq
        · cases hq
      · cases hq
    · cases hq
  · -- makeInterface
    unfold aMakeIface
    exact hq
  · exact hq
  · -- slice
    rename_i t x lo hi mx
    unfold aSlice
    split at hq
    · rename_i h1
      split at hq
      · cases hq
      · rename_i hm
        have hmx : (mx.map ρ).isSome = mx.isSome := by cases mx <;> rfl
        simp only [h1]
        unfold rCutS at hq
        split at hq
        · rename_i hx
          simp only [hx, hmx, hm, if_false, Bool.false_eq_true]
          exact hq
        · cases hq
    · rename_i e h1
      split at hq
      · cases hq
      · rename_i hm
        have hmx : ((mx.map ρ).isSome && (hi.map ρ).isNone) = (mx.isSome && hi.isNone) := by cases mx <;> cases hi <;> rfl
        simp only [h1]
        split at hq
        · rename_i sz h2
          unfold rCut at hq
          split at hq
          · rename_i hx
            simp only [hx, hmx, hm, if_false, Bool.false_eq_true, h2, Option.bind_some]
            exact hq
          · cases hq
        · cases hq
    · rename_i n e h1
      split at hq
      · cases hq
      · rename_i hm
        have hmx : ((mx.map ρ).isSome && (hi.map ρ).isNone) = (mx.isSome && hi.isNone) := by cases mx <;> cases hi <;> rfl
        simp only [h1]
        split at hq
        · rename_i sz h2
          unfold rCutA at hq
          split at hq
          · rename_i hx
            simp only [hx, hmx, hm, if_false, Bool.false_eq_true, h2, Option.bind_some]
            exact hq
          · cases hq
        · cases hq
    · cases hq
  · -- fieldAddr
    unfold aField
    split at hq
    · rename_i fs h1
      split at hq
      · rename_i fl h2
        split at hq
        · rename_i h3
          unfold rFieldP at hq
          split at hq
          · rename_i hx
            simp only [h1, hx, h2, h3, Option.bind_some]
            exact hq
          · cases hq
        · cases hq
      · cases hq
    · cases hq
  · -- field
    unfold aFieldV partT
    split at hq
    · rename_i fs h1
      split at hq
      · rename_i fl h2
        split at hq
        · rename_i n h3 h4
          unfold rFieldA at hq
          split at hq
          · rename_i hx
            simp only [h1, hx, h2, h3, h4, Option.bind_some]
            exact hq
          · cases hq
        · rename_i n h3 h4
          unfold rField at hq
          split at hq
          · rename_i hx
            simp only [h1, hx, h2, h3, h4, Option.bind_some]
            exact hq
          · cases hq
        · cases hq
      · cases hq
    · cases hq
  · -- indexAddr
    unfold aIndexAddr
    split at hq
    · rename_i len e h1
      split at hq
      · rename_i sz h2
        unfold rAtArr at hq
        split at hq
        · rename_i hx hi
          simp only [h1, hx, hi, h2, Option.bind_some]
          exact hq
        · cases hq
      · cases hq
    · rename_i e h1
      split at hq
      · rename_i sz h2
        unfold rAt at hq
        split at hq
        · rename_i hx hi
          simp only [h1, hx, hi, h2, Option.bind_some]
          exact hq
        · cases hq
      · cases hq
    · cases hq
  · -- index
    unfold aIndexV partT
    split at hq
    · rename_i len e h1
      split at hq
      · rename_i ag sz h2 h3
        unfold rIndexA at hq
        split at hq
        · rename_i hx hi
          simp only [h1, hx, hi, h2, h3, Option.bind_some]
          cases ag <;> exact hq
        · cases hq
      · cases hq
    · rename_i h1
      unfold rIndexS at hq
      split at hq
      · rename_i hx hi
        simp only [h1, hx, hi]
        exact hq
      · cases hq
    · cases hq
  · exact hq
  · -- call
    rename_i b args argTypes
    split at hq
    · rename_i x hb hx
      unfold aLen
      split at hq
      · rename_i t r ht
        simp only [hx, ht]
        split at hq
        · rename_i h1
          unfold rLenS at hq
          split at hq
          · simp only [h1]; exact hq
          · cases hq
        · rename_i h1; simp only [h1]; exact hq
        · rename_i h1
          unfold rLen at hq
          split at hq
          · simp only [h1]; exact hq
          · cases hq
        · rename_i h1
          unfold rLenM at hq
          split at hq
          · simp only [h1]; exact hq
          · simp only [h1]; exact hq
          · cases hq
        · cases hq
      · cases hq
    · rename_i x hb hx
      unfold aCap
      split at hq
      · rename_i t r ht
        simp only [hx, ht]
        split at hq
        · rename_i h1
          unfold rCap at hq
          split at hq
          · simp only [h1]; exact hq
          · simp only [h1]; exact hq
          · cases hq
        · cases hq
      · cases hq
    · exact hq
    · exact hq
    · cases hq
  · exact hq
  · cases hq
end Go.Proofs.Ytfppdfmffdkogaa.AI
namespace Go.Proofs.Ytfppdfmffdkogaa.AI
open Go
set_option linter.unusedSimpArgs false

variable {P : Program}

def mBuildSl (e sz : Nat) (z : List AVal) (len : Nat) (parts : List (Nat × AVal)) : Option APlan :=
  if len * sz ≤ 2 ^ 24 ∧ z.length = sz ∧ 0 < sz then
    (aFill (fun i => some (i * sz, sz)) (manyT len z) parts).bind fun cs => rowPlan cs e false fun i => .slice (some (i, 0, sz)) len len
  else none
def mMakeSl (e sz by_ : Nat) (z : List AVal) (l c : AVal) : Option APlan :=
  match l, c with
  | .int _ l, .int _ c =>
      if 0 ≤ l ∧ l ≤ c ∧ c < 2 ^ 48 ∧ by_ * c ≤ 2 ^ 48 ∧ z.length = sz ∧ 0 < sz then
        rowPlan (manyT c.toNat z) e false fun i => .slice (some (i, 0, sz)) l.toNat c.toNat
      else none
  | _, _ => none
def mBytes (e : Nat) (x : AVal) : Option APlan :=
  match x with
  | .str s => if s.length ≤ 2 ^ 47 then rowPlan (bytesOf s) e true fun i => .slice (some (i, 0, 1)) s.length s.length else none
  | _ => none
def mOp (P : Program) (ρ : AEnv) (op : Op) : Option APlan :=
  match op with
  | .alloc e => match zeroT P e with
    | some z => pBox e z
    | none => none
  | .box e x => pBox e (ρ x)
  | .buildSlice t n ps => match P.underlying t with
    | some (.slice e) => match szT P e, zeroCellsT P e with
      | some sz, some z => mBuildSl e sz z n (aParts ρ ps)
      | _, _ => none
    | _ => none
  | .makeMap _ none => some pMap
  | .makeSlice t l c => match P.underlying t with
    | some (.slice e) => match szT P e, byT P e, zeroCellsT P e with
      | some sz, some by_, some z => mMakeSl e sz by_ z (ρ l) (ρ c)
      | _, _, _ => none
    | _ => none
  | .convert s d x => match P.underlying s, P.underlying d with
    | some .string, some (.slice e) => match P.underlying e with
      | some (.int .u8) => mBytes e (ρ x)
      | _ => none
    | _, _ => none
  | _ => none

theorem mOp_aM {ρ : AEnv} {op : Op} {p : APlan} (hq : mOp P ρ op = some p) : aM P ρ op = some p := by
  unfold mOp at hq
  unfold aM
  split at hq
  all_goals simp only
  · unfold pAlloc
    split at hq
    · rename_i z h1; simp only [h1, Option.bind_some]; exact hq
    · cases hq
  · exact hq
  · unfold pBuildSlice
    split at hq
    · rename_i e h1
      split at hq
      · rename_i sz z h2 h3; simp only [h1, h2, h3, Option.bind_some]; exact hq
      · cases hq
    · cases hq
  · exact hq
  · unfold pMakeSlice
    split at hq
    · rename_i e h1
      split at hq
      · rename_i sz b z h2 h3 h4
        unfold mMakeSl at hq
        split at hq
        · rename_i hl hc
          simp only [h1, hl, hc, h2, h3, h4, Option.bind_some]; exact hq
        · cases hq
      · cases hq
    · cases hq
  · unfold pConvert
    split at hq
    · rename_i e h1 h2
      split at hq
      · rename_i h3
        unfold mBytes at hq
        split at hq
        · rename_i hx
          simp only [h1, h2, hx, h3]; exact hq
        · cases hq
      · cases hq
    · cases hq
  · cases hq

def rStore (n : Nat) (a v : AVal) (h : AH) : Option AH :=
  match a, v.cells with
  | .ptr (some (i, off)), some cs => if cs.length = n then h.write i off cs else none
  | _, _ => none
def rAppendTo (e sz by_ : Nat) (s : AVal) (n : Nat) (xs : List AVal) (h : AH) : Option (AVal × AH) :=
  if n = 0 then
    match s with
    | .slice _ _ _ => some (s, h)
    | _ => none
  else
  match s with
  | .slice none 0 0 => if 0 < by_ ∧ 2 * n * by_ ≤ 2 ^ 48 then (h.newRow xs e true).map fun (i, h') => (.slice (some (i, 0, sz)) n n, h') else none
  | .slice (some (i, off, z)) len cap =>
    if z ≠ sz then none else
    if len + n ≤ cap then (h.write i (off + len * sz) xs).map fun h' => (.slice (some (i, off, sz)) (len + n) cap, h') else
    if 0 < by_ ∧ 2 * (len + n) * by_ ≤ 2 ^ 48 then
      match h.get i with
      | some ⟨.row cs el opn, md, par⟩ =>
        if md = .dead then none else
        if off + cap * sz < cs.length ∨ (opn = false ∧ off + cap * sz = cs.length) then
          (h.newRow ((cs.drop off).take (len * sz) ++ xs) e true).map fun (j, h') => (.slice (some (j, 0, sz)) (len + n) (len + n), h')
        else if md = .rw ∧ el = e ∧ off + cap * sz = cs.length ∧ xs.all AVal.isCell then
          let new := (cs.drop off).take (len * sz) ++ xs
          if len = cap then
            let h1 := h.set i ⟨.row cs el opn, .sup, par⟩
            some (.slice (some (h.n, 0, sz)) (len + n) (len + n), h1.push ⟨.row new e true, .rw, i :: par⟩)
          else
            let h1 := (h.kill par).kill1 i
            some (.slice (some (h.n, 0, sz)) (len + n) (len + n), h1.push ⟨.row new e true, .rw, []⟩)
        else none
      | _ => none
    else none
  | _ => none
theorem rAppendTo_eq {e sz by_ : Nat} (hb : byT P e = some by_) (s : AVal) (n : Nat) (xs : List AVal) (h : AH) : rAppendTo e sz by_ s n xs h = aAppendTo P e sz s n xs h := by
  unfold rAppendTo aAppendTo
  simp only [hb, Option.bind_some]
  rfl
def rAppend (e sz by_ : Nat) (s x : AVal) (h : AH) : Option (AVal × AH) := (aSource sz x h).bind fun (n, xs) => rAppendTo e sz by_ s n xs h
def rAppendN (e sz by_ : Nat) (z : List AVal) (s x : AVal) (h : AH) : Option (AVal × AH) :=
  match x with
  | .int _ n => if 0 ≤ n ∧ n < 2 ^ 48 ∧ by_ * n.toNat ≤ 2 ^ 48 then rAppendTo e sz by_ s n.toNat (manyT n.toNat z) h else none
  | _ => none
def rCopy (sz : Nat) (d x : AVal) (h : AH) : Option (AVal × AH) :=
  (aSource sz x h).bind fun (n, xs) =>
    match d with
    | .slice none _ _ => some (.int .i64 0, h)
    | .slice (some (i, off, z)) len _ =>
      let k := min n len
      if k = 0 then some (.int .i64 0, h) else
      if z = sz then (h.write i off (xs.take (k * sz))).map fun h' => (.int .i64 k, h') else none
    | _ => none
def rCallV (call : ACall) (f : AVal) (args : List AVal) (h : AH) : Option (AVal × AH) :=
  match f with
  | .func (.func g) first cap => call g (first ++ args ++ cap) h
  | _ => none

/-- Bytes turned into bytes. -/
def rConvB (x : AVal) (h : AH) : Option (AVal × AH) :=
  match x with
  | .slice (some (i, off, sz)) len cap => if 0 < len then match h.get i with
      | some ⟨.row cs el opn, .rw, par⟩ => some (.slice (some (i, off, sz)) len cap, h.set i ⟨.row cs el opn, .ro, par⟩)
      | _ => none
    else none
  | _ => none
/-- An operation that writes, or calls. -/
def eOp (P : Program) (call : ACall) (ρ : AEnv) (op : Op) (h : AH) : Option (AVal × AH) :=
  match op with
  | .store t a x => match szT P t with
    | some n => (rStore n (ρ a) (ρ x) h).map fun h' => (.tuple [], h')
    | none => none
  | .call { callee := .builtin b, args, argTypes } =>
    match b, args.toList.map ρ with
    | .append, [s, x] => match argTypes.toList with
      | st :: xt :: _ => match P.underlying st, isIntT P xt with
        | some (.slice e), some zs => match szT P e, zeroCellsT P e, byT P e with
          | some sz, some z, some by_ =>
            if sz = 0 ∨ z.length ≠ sz then none else
            if zs then rAppendN e sz by_ z s x h else rAppend e sz by_ s x h
          | _, _, _ => none
        | _, _ => none
      | _ => none
    | .copy, [d, x] => match argTypes.toList with
      | dt :: _ => match P.underlying dt with
        | some (.slice e) => match szT P e with
          | some sz => if sz = 0 then none else rCopy sz d x h
          | none => none
        | _ => none
      | _ => none
    | _, _ => none
  | .call { callee := .value f, args, .. } => rCallV call (ρ f) (args.toList.map ρ) h
  | .convert s d x => match P.underlying s, P.underlying d with
    | some (.slice _), some (.slice e) => match P.underlying e with
      | some (.int .u8) => if s = d then rConvB (ρ x) h else none
      | _ => none
    | _, _ => none
  | .mapUpdate t m k x => (aMapSet P t (ρ m) (ρ k) (ρ x) h).map fun h' => (.tuple [], h')
  | .insert t m k x => (aMapSet P t (ρ m) (ρ k) (ρ x) h).map fun h' => (.tuple [], h')
  | .mapEntry t m k => aMapEnt P t (ρ m) (ρ k) h
  | .entryStore _ m s x => (rEntSet (ρ m) (ρ s) (ρ x) h).map fun h' => (.tuple [], h')
  | .call { callee := .invoke r name, args, .. } => rInv P call name (ρ r) (args.toList.map ρ) h
  | _ => none

theorem eOp_aE {call : ACall} {ρ : AEnv} {op : Op} {h : AH} {r : AVal × AH} (hq : eOp P call ρ op h = some r) : aE P call ρ op h = some r := by
  unfold eOp at hq
  unfold aE
  split at hq
  all_goals simp only
  · unfold aStore
    split at hq
    · rename_i n h1
      unfold rStore at hq
      split at hq
      · rename_i hx hv
        simp only [hx, hv, h1]; exact hq
      · cases hq
    · cases hq
  · split at hq
    · rename_i s x hb ha
      simp only [ha]
      unfold aAppend
      split at hq
      · rename_i st xt r ht
        split at hq
        · rename_i e zs h1 h2
          split at hq
          · rename_i sz z b h3 h4 h5
            simp only [ht, h1, h2, h3, h4, h5, Option.bind_some]
            split at hq
            · cases hq
            · rename_i hs
              simp only [if_neg hs]
              split at hq
              · rename_i hz
                simp only [if_pos hz]
                unfold rAppendN at hq
                simp only [rAppendTo_eq h5] at hq
                exact hq
              · rename_i hz
                simp only [if_neg hz]
                unfold rAppend at hq
                simp only [rAppendTo_eq h5] at hq
                exact hq
          · cases hq
        · cases hq
      · cases hq
    · rename_i d x hb ha
      simp only [ha]
      unfold aCopy
      split at hq
      · rename_i st r ht
        split at hq
        · rename_i e h1
          split at hq
          · rename_i sz h3
            simp only [ht, h1, h3, Option.bind_some]
            split at hq
            · cases hq
            · rename_i hs
              simp only [if_neg hs]
              exact hq
          · cases hq
        · cases hq
      · cases hq
    · cases hq
  · unfold rCallV at hq
    exact hq
  · split at hq
    · rename_i e0 e h1 h2
      split at hq
      · rename_i h3
        split at hq
        · rename_i hsd
          unfold rConvB at hq
          split at hq
          · rename_i hx
            split at hq
            · rename_i hl
              subst hsd
              rw [h1] at h2
              simp only [Option.some.injEq, TypeDesc.slice.injEq] at h2
              subst h2
              simp only [hx, aConvB, h1, h3, hl, and_self, if_true]
              exact hq
            · cases hq
          · cases hq
        · cases hq
      · cases hq
    · cases hq
  · exact hq
  · exact hq
  · exact hq
  · exact hq
  · exact hq
  · cases hq
end Go.Proofs.Ytfppdfmffdkogaa.AI
