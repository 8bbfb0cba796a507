/- The abstract machine's operations. -/
import Derived.Test.YtfppdfmffdkogaaAiBasic
namespace Go.Proofs.Ytfppdfmffdkogaa.AI
open Go

/-- The cells of a value; none: not known. -/
def AVal.cells : AVal → Option (List AVal)
  | .any => none
  | .tuple _ => none
  | .agg cs => some cs
  | v => some [v]
/-- May it be one cell of a row? -/
def AVal.isCell : AVal → Bool
  | .any | .agg _ | .tuple _ => false
  | _ => true

/-- A constant without addresses. -/
def ofConst0 : Value → AVal
  | .bool b => .bool b
  | .int k n => .int k n
  | .string s => .str s.data.toList
  | .pointer none => .ptr none
  | .slice none 0 0 => .slice none 0 0
  | .map none => .map none
  | .nilFunc => .nilFunc
  | .nilIface => .nilIface
  | .func fn a b => if a.size = 0 ∧ b.size = 0 then .func fn [] [] else .any
  | _ => .any
def ofConst : Value → AVal
  | .agg cs => .agg (cs.toList.map ofConst0)
  | .iface t v => .iface t (ofConst0 v)
  | v => ofConst0 v

def uT (P : Program) (t : TypeId) : Option TypeDesc := P.underlying t
def szT (P : Program) (t : TypeId) : Option Nat := (P.info? t).map (·.size)
def byT (P : Program) (t : TypeId) : Option Nat := (P.info? t).map (·.bytes)
def aggT (P : Program) (t : TypeId) : Option Bool := (P.underlying t).map fun | .struct _ | .array _ _ => true | _ => false
def zeroT (P : Program) (t : TypeId) : Option AVal := (P.info? t).bind fun i => i.zero.map ofConst

def splice (cs : List AVal) (off : Nat) (vs : List AVal) : List AVal := cs.take off ++ vs ++ cs.drop (off + vs.length)

/-- A row's cells, where it may be read. -/
def AH.row (h : AH) (i : Nat) : Option (List AVal) :=
  match h.get i with
  | some ⟨.row cs _ _, md, _⟩ => if md = .dead then none else some cs
  | _ => none
/-- n cells from off on. -/
def AH.read (h : AH) (i off n : Nat) : Option (List AVal) :=
  (h.row i).bind fun cs => if off + n ≤ cs.length then some ((cs.drop off).take n) else none
def AH.kill1 (h : AH) (p : Nat) : AH :=
  match h.get p with
  | some b => h.set p { b with mode := .dead }
  | none => h
def AH.kill (h : AH) (ps : List Nat) : AH := ps.foldl AH.kill1 h
/-- vs is laid from off on. -/
def AH.write (h : AH) (i off : Nat) (vs : List AVal) : Option AH :=
  match h.get i with
  | some ⟨.row cs e o, .rw, par⟩ => if off + vs.length ≤ cs.length ∧ vs.all AVal.isCell then some ((h.kill par).set i ⟨.row (splice cs off vs) e o, .rw, []⟩) else none
  | _ => none
/-- A new row of its own. -/
def AH.newRow (h : AH) (cs : List AVal) (elem : TypeId) (opn : Bool) : Option (Nat × AH) :=
  if cs.all AVal.isCell then some (h.n, h.push ⟨.row cs elem opn, .rw, []⟩) else none

/-- A value out of cells. -/
def partT (P : Program) (t : TypeId) (cs : List AVal) (off : Nat) : Option AVal :=
  match aggT P t, szT P t with
  | some true, some n => if off + n ≤ cs.length then some (.agg ((cs.drop off).take n)) else none
  | some false, some _ => cs[off]?
  | _, _ => none

def aLoad (P : Program) (t : TypeId) (a : AVal) (h : AH) : Option AVal :=
  match a with
  | .ptr (some (i, off)) => (h.row i).bind fun cs => partT P t cs off
  | _ => none
def aStore (P : Program) (t : TypeId) (a v : AVal) (h : AH) : Option AH :=
  match a, v.cells, szT P t with
  | .ptr (some (i, off)), some cs, some n => if cs.length = n then h.write i off cs else none
  | _, _, _ => none

/-! ### Operators -/
def bitsOp (op : BinOp) (k : IntKind) (x y : Int) : Option Int :=
  let a := BitVec.ofInt k.bits x
  let b := BitVec.ofInt k.bits y
  match op with
  | .and => some (k.wrap (a &&& b).toNat)
  | .or => some (k.wrap (a ||| b).toNat)
  | .xor => some (k.wrap (a ^^^ b).toNat)
  | .andNot => some (k.wrap (a &&& ~~~b).toNat)
  | _ => none
def aShift (op : BinOp) (k : IntKind) (x y : Int) : Option AVal :=
  if y < 0 then none else
    match op with
    | .shl => some (.int k (k.wrap (x * 2 ^ (min y.toNat k.bits))))
    | .shr => some (.int k (x.fdiv (2 ^ (min y.toNat k.bits))))
    | _ => none
def aInt (op : BinOp) (k : IntKind) (x y : Int) : Option AVal :=
  match op with
  | .add => some (.int k (k.wrap (x + y)))
  | .sub => some (.int k (k.wrap (x - y)))
  | .mul => some (.int k (k.wrap (x * y)))
  | .quo => if y = 0 then none else some (.int k (k.wrap (x.tdiv y)))
  | .rem => if y = 0 then none else some (.int k (x.tmod y))
  | .and | .or | .xor | .andNot => (bitsOp op k x y).map (.int k)
  | .eql => some (.bool (x == y))
  | .neq => some (.bool (x != y))
  | .lss => some (.bool (x < y))
  | .leq => some (.bool (x ≤ y))
  | .gtr => some (.bool (x > y))
  | .geq => some (.bool (x ≥ y))
  | _ => none
def aStr (op : BinOp) (x y : List UInt8) : Option AVal :=
  match op with
  | .add => if x.length + y.length ≤ 2 ^ 62 then some (.str (x ++ y)) else none
  | .eql => some (.bool (x == y))
  | .neq => some (.bool (!(x == y)))
  | .lss => some (.bool (Op.bytesLess x y))
  | .leq => some (.bool (Op.bytesLess x y || x == y))
  | .gtr => some (.bool (!(Op.bytesLess x y || x == y)))
  | .geq => some (.bool (!Op.bytesLess x y))
  | _ => none
def isConstB : Operand → Bool
  | .const _ => true
  | _ => false
/-- Equality of rows of integers. -/
def eqInts : List AVal → List AVal → Option Bool
  | [], [] => some true
  | .int k x :: a, .int k' y :: b => if k = k' then match eqInts a b with
      | some r => some ((x == y) && r)
      | none => none
    else none
  | _, _ => none
/-- Is the type an array of integers? -/
def intsT (P : Program) (e : TypeId) : Bool := match P.underlying e, szT P e, aggT P e with
  | some (.int _), some 1, some false => true
  | _, _, _ => false
/-- Equality of two values that are neither integers nor strings, at the type's description. -/
def aEq (P : Program) (t : TypeId) (x y : AVal) : Option Bool :=
  match P.underlying t, x, y with
  | some .bool, .bool a, .bool b => some (a == b)
  | some (.pointer _), .ptr none, .ptr b => some b.isNone
  | some (.pointer _), .ptr (some _), .ptr none => some false
  | some (.slice _), .slice none _ _, .slice b _ _ => some b.isNone
  | some (.slice _), .slice (some _) _ _, .slice none _ _ => some false
  | some (.map _ _), .map none, .map b => some b.isNone
  | some (.map _ _), .map (some _), .map none => some false
  | some (.func _ _ _), .nilFunc, .nilFunc => some true
  | some (.func _ _ _), .nilFunc, .func _ _ _ => some false
  | some (.func _ _ _), .func _ _ _, .nilFunc => some false
  | some (.interface _), .nilIface, .nilIface => some true
  | some (.interface _), .nilIface, .iface _ _ => some false
  | some (.interface _), .iface _ _, .nilIface => some false
  | some (.array n e), .agg a, .agg b => if (intsT P e && !P.eqGuardType P.depth t) = true ∧ a.length = n ∧ b.length = n then eqInts a b else none
  | _, _, _ => none
def aBin (P : Program) (op : BinOp) (t : TypeId) (x y : Operand) (a b : AVal) : Option AVal :=
  match op, a, b with
  | .shl, .int k n, .int _ m => aShift .shl k n m
  | .shr, .int k n, .int _ m => aShift .shr k n m
  | op, .int k n, .int k' m => if k = k' then aInt op k n m else none
  | op, .str a, .str b => aStr op a b
  | op, .nilIface, .nilIface => if isConstB x || isConstB y then
      match op with
      | .eql => (aEq P t a b).map .bool
      | .neq => (aEq P t a b).map fun r => .bool !r
      | _ => none
    else none
  | .eql, a, b => (aEq P t a b).map .bool
  | .neq, a, b => (aEq P t a b).map fun r => .bool !r
  | _, _, _ => none
def aUn (op : UnOp) (x : AVal) : Option AVal :=
  match op, x with
  | .neg, .int k n => some (.int k (k.wrap (0 - n)))
  | .xor, .int k n => (bitsOp .xor k (if k.signed then -1 else k.max) n).map (.int k)
  | .not, .bool b => some (.bool !b)
  | _, _ => none

/-! ### Addresses, slices -/
def aField (P : Program) (s : TypeId) (a : AVal) (f : Nat) : Option AVal :=
  match P.underlying s, a with
  | some (.struct fs), .ptr (some (i, off)) => (fs[f]?).bind fun fl =>
      match szT P fl.type with
      | some (_ + 1) => some (.ptr (some (i, off + fl.offset)))
      | _ => none
  | _, _ => none
def aIndexAddr (P : Program) (t : TypeId) (x ix : AVal) : Option AVal :=
  match P.underlying t, x, ix with
  | some (.array len e), .ptr (some (i, off)), .int _ n => (szT P e).bind fun sz =>
      if 0 ≤ n ∧ n < len then some (.ptr (some (i, off + n.toNat * sz))) else none
  | some (.slice e), .slice (some (i, off, z)) len _, .int _ n => (szT P e).bind fun sz =>
      if sz = z ∧ 0 ≤ n ∧ n < len then some (.ptr (some (i, off + n.toNat * sz))) else none
  | _, _, _ => none
/-- A bound of a slice expression. -/
def aBound (x : Option AVal) (dflt most : Nat) : Option Nat :=
  match x with
  | none => some dflt
  | some (.int _ n) => if 0 ≤ n ∧ n ≤ most then some n.toNat else none
  | some _ => none
def aSlice (P : Program) (t : TypeId) (x : AVal) (lo hi mx : Option AVal) (h : AH) : Option AVal :=
  match P.underlying t, x with
  | some .string, .str s =>
    if mx.isSome then none else
    (aBound hi s.length s.length).bind fun b => (aBound lo 0 b).bind fun a => some (.str ((s.take b).drop a))
  | some (.slice e), .slice a len cap =>
    if mx.isSome && hi.isNone then none else
    (szT P e).bind fun sz => (aBound mx cap cap).bind fun m => (aBound hi len m).bind fun b => (aBound lo 0 b).bind fun l =>
      match a with
      | none => some (.slice none (b - l) (m - l))
      | some (i, off, z) => if z = 0 ∧ len = 0 ∧ cap = 0 ∧ m = 0 ∧ b = 0 then some (.slice (some (i, off, 0)) 0 0) else if z = sz ∧ 0 < sz ∧ b ≤ m then some (.slice (some (i, off + l * sz, sz)) (b - l) (m - l)) else none
  | some (.array n e), .ptr (some (i, off)) =>
    if mx.isSome && hi.isNone then none else
    (szT P e).bind fun sz => (aBound mx n n).bind fun m => (aBound hi n m).bind fun b => (aBound lo 0 b).bind fun l =>
      (h.row i).bind fun cs => if 0 < sz ∧ b ≤ m ∧ off + n * sz ≤ cs.length then some (.slice (some (i, off + l * sz, sz)) (b - l) (m - l)) else none
  | _, _ => none
def aFieldV (P : Program) (t : TypeId) (x : AVal) (f : Nat) : Option AVal :=
  match P.underlying t, x with
  | some (.struct fs), .agg cs => (fs[f]?).bind fun fl => partT P fl.type cs fl.offset
  | _, _ => none
def aIndexV (P : Program) (t : TypeId) (x ix : AVal) : Option AVal :=
  match P.underlying t, x, ix with
  | some (.array len e), .agg cs, .int _ n => (szT P e).bind fun sz => if 0 ≤ n ∧ n < len then partT P e cs (n.toNat * sz) else none
  | some .string, .str s, .int _ n => if 0 ≤ n then (s[n.toNat]?).map fun b => .int .u8 b.toNat else none
  | _, _, _ => none
def aExtract (x : AVal) (i : Nat) : Option AVal :=
  match x with
  | .tuple vs => vs[i]?
  | _ => none
def aNilCheck : AVal → Option AVal
  | .ptr (some a) => some (.ptr (some a))
  | _ => none

/-! ### Memory that is made -/
def aFill (place : Nat → Option (Nat × Nat)) (cells : List AVal) : List (Nat × AVal) → Option (List AVal)
  | [] => some cells
  | (i, v) :: rest =>
    match place i, v.cells with
    | some (off, size), some vs => if vs.length = size ∧ off + vs.length ≤ cells.length then aFill place (splice cells off vs) rest else none
    | _, _ => none
def zeroCellsT (P : Program) (t : TypeId) : Option (List AVal) := (zeroT P t).bind AVal.cells
def manyT (n : Nat) (z : List AVal) : List AVal := (List.replicate n z).flatten
def placesT (P : Program) (fs : Array Field) : Option (List (Nat × Nat)) := fs.toList.mapM (fun f => (P.info? f.type).map fun i => (f.offset, i.size))
def aBuild (P : Program) (t : TypeId) (parts : List (Nat × AVal)) : Option AVal :=
  match P.underlying t, zeroCellsT P t with
  | some (.struct fs), some z => (placesT P fs).bind fun pl => (aFill (fun i => pl[i]?) z parts).map .agg
  | some (.array _ e), some z => (szT P e).bind fun n => (aFill (fun i => some (i * n, n)) z parts).map .agg
  | _, _ => none
def aBuildSlice (P : Program) (t : TypeId) (len : Nat) (parts : List (Nat × AVal)) (h : AH) : Option (AVal × AH) :=
  match P.underlying t with
  | some (.slice e) => (szT P e).bind fun sz => (zeroCellsT P e).bind fun z =>
      if len * sz ≤ 2 ^ 24 ∧ z.length = sz ∧ 0 < sz then
        (aFill (fun i => some (i * sz, sz)) (manyT len z) parts).bind fun cs => (h.newRow cs e false).map fun (i, h') => (.slice (some (i, 0, sz)) len len, h')
      else none
  | _ => none
def aMakeSlice (P : Program) (t : TypeId) (l c : AVal) (h : AH) : Option (AVal × AH) :=
  match P.underlying t, l, c with
  | some (.slice e), .int _ l, .int _ c => (szT P e).bind fun sz => (byT P e).bind fun by_ => (zeroCellsT P e).bind fun z =>
      if 0 ≤ l ∧ l ≤ c ∧ c < 2 ^ 48 ∧ by_ * c ≤ 2 ^ 48 ∧ z.length = sz ∧ 0 < sz then
        (h.newRow (manyT c.toNat z) e false).map fun (i, h') => (.slice (some (i, 0, sz)) l.toNat c.toNat, h')
      else none
  | _, _, _ => none
def aBox (e : TypeId) (v : AVal) (h : AH) : Option (AVal × AH) :=
  v.cells.bind fun cs => (h.newRow cs e false).map fun (i, h') => (.ptr (some (i, 0)), h')
def aAlloc (P : Program) (e : TypeId) (h : AH) : Option (AVal × AH) := (zeroT P e).bind fun z => aBox e z h
def aMakeMap (h : AH) : AVal × AH := (.map (some h.n), h.push ⟨.map [], .rw, []⟩)
def aMakeIface (P : Program) (t : TypeId) (x : AVal) : Option AVal :=
  match P.underlying t with
  | some (.interface _) => none
  | some _ => some (.iface t x)
  | none => none

def bytesOf (s : List UInt8) : List AVal := s.map fun b => .int .u8 b.toNat
def toBytes : List AVal → Option (List UInt8)
  | [] => some []
  | .int .u8 n :: l => (toBytes l).map fun r => UInt8.ofNat n.toNat :: r
  | _ :: _ => none

/-- The cells that append and copy take; how many elements. -/
def aSource (sz : Nat) (x : AVal) (h : AH) : Option (Nat × List AVal) :=
  match x with
  | .slice none _ _ => some (0, [])
  | .slice (some (i, off, z)) len _ => if len = 0 then some (0, []) else if z = sz then (h.read i off (len * sz)).map fun cs => (len, cs) else none
  | .str s => if sz = 1 then some (s.length, bytesOf s) else none
  | _ => none
def isIntT (P : Program) (t : TypeId) : Option Bool := (P.underlying t).map fun | .int _ => true | _ => false
def aAppendTo (P : Program) (e : TypeId) (sz : Nat) (s : AVal) (n : Nat) (xs : List AVal) (h : AH) : Option (AVal × AH) :=
  if n = 0 then
    match s with
    | .slice _ _ _ => some (s, h)
    | _ => none
  else
  (byT P e).bind fun by_ =>
  match s with
  | .slice none 0 0 => if 0 < by_ ∧ 2 * n * by_ ≤ 2 ^ 48 then (h.newRow xs e true).map fun (i, h') => (.slice (some (i, 0, sz)) n n, h') else none
  | .slice (some (i, off, z)) len cap =>
    if z ≠ sz then none else
    if len + n ≤ cap then (h.write i (off + len * sz) xs).map fun h' => (.slice (some (i, off, sz)) (len + n) cap, h') else
    if 0 < by_ ∧ 2 * (len + n) * by_ ≤ 2 ^ 48 then
      match h.get i with
      | some ⟨.row cs el opn, md, par⟩ =>
        if md = .dead then none else
        if off + cap * sz < cs.length ∨ (opn = false ∧ off + cap * sz = cs.length) then
          (h.newRow ((cs.drop off).take (len * sz) ++ xs) e true).map fun (j, h') => (.slice (some (j, 0, sz)) (len + n) (len + n), h')
        else if md = .rw ∧ el = e ∧ off + cap * sz = cs.length ∧ xs.all AVal.isCell then
          let new := (cs.drop off).take (len * sz) ++ xs
          if len = cap then
            let h1 := h.set i ⟨.row cs el opn, .sup, par⟩
            some (.slice (some (h.n, 0, sz)) (len + n) (len + n), h1.push ⟨.row new e true, .rw, i :: par⟩)
          else
            let h1 := (h.kill par).kill1 i
            some (.slice (some (h.n, 0, sz)) (len + n) (len + n), h1.push ⟨.row new e true, .rw, []⟩)
        else none
      | _ => none
    else none
  | _ => none
def aAppend (P : Program) (argTypes : List TypeId) (s x : AVal) (h : AH) : Option (AVal × AH) :=
  match argTypes with
  | st :: xt :: _ =>
    match P.underlying st, isIntT P xt with
    | some (.slice e), some zs => (szT P e).bind fun sz => (zeroCellsT P e).bind fun z => (byT P e).bind fun by_ =>
      if sz = 0 ∨ z.length ≠ sz then none else
      if zs then
        match x with
        | .int _ n => if 0 ≤ n ∧ n < 2 ^ 48 ∧ by_ * n.toNat ≤ 2 ^ 48 then aAppendTo P e sz s n.toNat (manyT n.toNat z) h else none
        | _ => none
      else (aSource sz x h).bind fun (n, xs) => aAppendTo P e sz s n xs h
    | _, _ => none
  | _ => none
def aCopy (P : Program) (argTypes : List TypeId) (d x : AVal) (h : AH) : Option (AVal × AH) :=
  match argTypes with
  | dt :: _ =>
    match P.underlying dt with
    | some (.slice e) => (szT P e).bind fun sz =>
      if sz = 0 then none else
      (aSource sz x h).bind fun (n, xs) =>
        match d with
        | .slice none _ _ => some (.int .i64 0, h)
        | .slice (some (i, off, z)) len _ =>
          let k := min n len
          if k = 0 then some (.int .i64 0, h) else
          if z = sz then (h.write i off (xs.take (k * sz))).map fun h' => (.int .i64 k, h') else none
        | _ => none
    | _ => none
  | _ => none
def aLen (P : Program) (argTypes : List TypeId) (x : AVal) (h : AH) : Option AVal :=
  match argTypes with
  | t :: _ =>
    match P.underlying t, x with
    | some .string, .str s => some (.int .i64 s.length)
    | some (.array n _), _ => some (.int .i64 n)
    | some (.slice _), .slice _ n _ => some (.int .i64 n)
    | some (.map _ _), .map none => some (.int .i64 0)
    | some (.map _ _), .map (some i) => match h.get i with
      | some ⟨.map es, md, _⟩ => if md = .dead then none else some (.int .i64 es.length)
      | _ => none
    | _, _ => none
  | _ => none
def aCap (P : Program) (argTypes : List TypeId) (x : AVal) (h : AH) : Option AVal :=
  match argTypes with
  | t :: _ =>
    match P.underlying t, x with
    | some (.slice _), .slice none _ n => some (.int .i64 n)
    | some (.slice _), .slice (some (i, off, z)) _ n => match h.get i with
      | some ⟨.row cs _ opn, md, _⟩ => if md ≠ .dead ∧ (off + n * z < cs.length ∨ (opn = false ∧ off + n * z = cs.length)) then some (.int .i64 n) else none
      | _ => none
    | _, _ => none
  | _ => none
def aMax2 : AVal → AVal → Option AVal
  | .int k x, .int _ y => some (.int k (if y > x then y else x))
  | _, _ => none
def aMin2 : AVal → AVal → Option AVal
  | .int k x, .int _ y => some (.int k (if y < x then y else x))
  | _, _ => none
def aFold (f : AVal → AVal → Option AVal) : AVal → List AVal → Option AVal
  | x, [] => some x
  | x, y :: l => (f x y).bind fun z => aFold f z l
def aMM (f : AVal → AVal → Option AVal) : List AVal → Option AVal
  | [] => none
  | x :: l => aFold f x l
def aConvert (P : Program) (src dst : TypeId) (x : AVal) (h : AH) : Option (AVal × AH) :=
  match P.underlying src, P.underlying dst, x with
  | some _, some (.int k), .int _ n => some (.int k (k.wrap n), h)
  | some _, some .string, .str s => some (.str s, h)
  | some _, some (.slice e), .str s =>
    match P.underlying e with
    | some (.int .u8) => if s.length ≤ 2 ^ 47 then (h.newRow (bytesOf s) e true).map fun (i, h') => (.slice (some (i, 0, 1)) s.length s.length, h') else none
    | _ => none
  | some (.slice e), some .string, .slice a len _ =>
    match P.underlying e, a with
    | some (.int .u8), none => some (.str [], h)
    | some (.int .u8), some (i, off, z) =>
      if len = 0 then some (.str [], h) else
      if z = 1 then ((h.read i off len).bind toBytes).map fun s => (.str s, h) else none
    | _, _ => none
  | some (.pointer t), some .unsafePointer, .ptr (some (i, off)) =>
    match szT P t with
    | some (_ + 1) => (h.row i).bind fun cs => if off < cs.length then some (.ptr (some (i, off)), h) else none
    | _ => none
  | _, _, _ => none
end Go.Proofs.Ytfppdfmffdkogaa.AI
