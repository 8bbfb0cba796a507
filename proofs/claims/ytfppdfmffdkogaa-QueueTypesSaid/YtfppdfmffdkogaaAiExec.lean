/- The abstract machine: operations, regions, statements, calls. -/
import Derived.Test.YtfppdfmffdkogaaAiPlan
import Derived.Test.YtfppdfmffdkogaaAiOpsM
import Derived.Orders
import Derived.Defers
namespace Go.Proofs.Ytfppdfmffdkogaa.AI
open Go
set_option linter.unusedSimpArgs false

inductive OKind where
  | quiet | make | eff
  deriving DecidableEq

def kindOf (P : Program) (op : Op) : OKind :=
  match op with
  | .alloc _ | .box .. | .buildSlice .. | .makeMap .. | .makeSlice .. => .make
  | .convert src dst _ => match P.underlying dst with
    | some (.slice _) => match P.underlying src with
      | some (.slice _) => .eff
      | _ => .make
    | _ => .quiet
  | .move _ | .assign _ | .pick .. | .build .. | .load .. | .nilCheck _ | .binOp .. | .unOp .. | .makeInterface .. | .makeFunc .. | .slice .. | .fieldAddr .. | .field ..
  | .indexAddr .. | .index .. | .extract .. => .quiet
  | .lookup .. => .quiet
  | .call { callee := .builtin .len, .. } | .call { callee := .builtin .cap, .. } | .call { callee := .builtin .max, .. } | .call { callee := .builtin .min, .. } => .quiet
  | _ => .eff

abbrev AEnv := Operand → AVal
abbrev ACall := FuncId → List AVal → AH → Option (AVal × AH)

def aEval (gl : List Nat) (t : List AVal) : AEnv
  | .tmp i => t.getD i (.tuple [])
  | .const v => ofConst v
  | .global g => if g ∈ gl then .ptr (some (g, 0)) else .any
  | .func f => .func (.func f) [] []
def aPut (t : List AVal) (dst : Option Tmp) (v : AVal) : List AVal :=
  match dst with
  | some d => t.set d v
  | none => t
def aParts (ρ : AEnv) (ps : Array (Nat × Operand)) : List (Nat × AVal) := ps.toList.map fun p => (p.1, ρ p.2)

/-- An operation that leaves the heap alone. -/
def aQ (P : Program) (ρ : AEnv) (op : Op) (h : AH) : Option AVal :=
  match op with
  | .move x | .assign x => some (ρ x)
  | .pick c a b => match ρ c with
    | .bool t => some (if t then ρ a else ρ b)
    | _ => none
  | .build t ps => aBuild P t (aParts ρ ps)
  | .load t a => aLoad P t (ρ a) h
  | .nilCheck x => aNilCheck (ρ x)
  | .binOp op t x y _ => aBin P op t x y (ρ x) (ρ y)
  | .unOp op _ x => aUn op (ρ x)
  | .convert s d x => match P.underlying d with
    | some (.slice _) => none
    | _ => (aConvert P s d (ρ x) h).map (·.1)
  | .makeInterface t x => aMakeIface P t (ρ x)
  | .makeFunc fn a b => some (.func fn (a.toList.map ρ) (b.toList.map ρ))
  | .slice t x lo hi mx => aSlice P t (ρ x) (lo.map ρ) (hi.map ρ) (mx.map ρ) h
  | .fieldAddr s x f => aField P s (ρ x) f
  | .field t x f => aFieldV P t (ρ x) f
  | .indexAddr t x i => aIndexAddr P t (ρ x) (ρ i)
  | .index t x i => aIndexV P t (ρ x) (ρ i)
  | .extract x i => aExtract (ρ x) i
  | .call { callee := .builtin b, args, argTypes } =>
    match b, args.toList.map ρ with
    | .len, [x] => aLen P argTypes.toList x h
    | .cap, [x] => aCap P argTypes.toList x h
    | .max, l => aMM aMax2 l
    | .min, l => aMM aMin2 l
    | _, _ => none
  | .lookup t x k ok => aLookup P t (ρ x) (ρ k) ok h
  | _ => none
/-- An operation that makes memory. -/
def aM (P : Program) (ρ : AEnv) (op : Op) : Option APlan :=
  match op with
  | .alloc e => pAlloc P e
  | .box e x => pBox e (ρ x)
  | .buildSlice t n ps => pBuildSlice P t n (aParts ρ ps)
  | .makeMap _ none => some pMap
  | .makeSlice t l c => pMakeSlice P t (ρ l) (ρ c)
  | .convert s d x => pConvert P s d (ρ x)
  | _ => none
/-- A method of what lies in an interface. -/
def rInv (P : Program) (call : ACall) (name : String) (x : AVal) (args : List AVal) (h : AH) : Option (AVal × AH) := match x with
  | .iface t v => match aMeth P t name with
    | some f => call f (v :: args) h
    | none => none
  | _ => none
/-- Any other. -/
def aE (P : Program) (call : ACall) (ρ : AEnv) (op : Op) (h : AH) : Option (AVal × AH) :=
  match op with
  | .store t a x => (aStore P t (ρ a) (ρ x) h).map fun h' => (.tuple [], h')
  | .call { callee := .builtin b, args, argTypes } =>
    match b, args.toList.map ρ with
    | .append, [s, x] => aAppend P argTypes.toList s x h
    | .copy, [d, x] => aCopy P argTypes.toList d x h
    | _, _ => none
  | .call { callee := .value f, args, .. } =>
    match ρ f with
    | .func (.func g) first cap => call g (first ++ args.toList.map ρ ++ cap) h
    | _ => none
  | .convert src dst x => aConvB P src dst (ρ x) h
  | .mapUpdate t m k x => (aMapSet P t (ρ m) (ρ k) (ρ x) h).map fun h' => (.tuple [], h')
  | .insert t m k x => (aMapSet P t (ρ m) (ρ k) (ρ x) h).map fun h' => (.tuple [], h')
  | .mapEntry t m k => aMapEnt P t (ρ m) (ρ k) h
  | .entryStore _ m s x => (rEntSet (ρ m) (ρ s) (ρ x) h).map fun h' => (.tuple [], h')
  | .call { callee := .invoke r name, args, .. } => rInv P call name (ρ r) (args.toList.map ρ) h
  | _ => none
def aOp (P : Program) (call : ACall) (ρ : AEnv) (op : Op) (h : AH) : Option (AVal × AH) :=
  match kindOf P op with
  | .quiet => (aQ P ρ op h).map fun v => (v, h)
  | .make => (aM P ρ op).map fun p => (p.2 h.n, h.push p.1)
  | .eff => aE P call ρ op h

/-- Is the operation wanted? none: not known. -/
def aWanted (ops : Array Oper) (t : List AVal) (o : Oper) : Option Bool :=
  match o.guard with
  | none => some true
  | some (j, want) =>
    match ((ops[j]?).bind (·.dst)).bind (t[·]?) with
    | some .any => none
    | some (.bool b) => some (b == want)
    | _ => some false

abbrev ADef := FuncId × List AVal
structure St where
  t : List AVal
  d : List ADef
  h : AH

def aDefer (ρ : AEnv) (c : Call) : Option ADef :=
  match c.callee with
  | .value f => match ρ f with
    | .func (.func g) first cap => some (g, first ++ c.args.toList.map ρ ++ cap)
    | _ => none
  | _ => none

/-- Operations, one behind the other. -/
def aRun (P : Program) (gl : List Nat) (call : ACall) (ops : Array Oper) : List Nat → St → Option St
  | [], s => some s
  | i :: rest, s =>
    match ops[i]? with
    | none => none
    | some o =>
      match aWanted ops s.t o with
      | none => none
      | some false => aRun P gl call ops rest { s with t := aPut s.t o.dst (.tuple []) }
      | some true =>
        match o.op with
        | .defer c => match aDefer (aEval gl s.t) c with
          | some d => aRun P gl call ops rest { s with t := aPut s.t o.dst (.tuple []), d := d :: s.d }
          | none => none
        | op => match aOp P call (aEval gl s.t) op s.h with
          | some (v, h') => aRun P gl call ops rest { s with t := aPut s.t o.dst v, h := h' }
          | none => none

inductive AExit where
  | normal
  | exit (id : Nat)
  | ret
  deriving DecidableEq

def aLoop (step : St → Option (AExit × St)) : Nat → St → Option (AExit × St)
  | 0, _ => none
  | k + 1, s => match step s with
    | some (.normal, s') => aLoop step k s'
    | r => r
/-- More rounds than any loop that ends has. -/
def rounds : Nat := 2 ^ 64

def aCode (P : Program) (gl : List Nat) (call : ACall) (draw : Array Oper → St → Option St) : Code → St → Option (AExit × St)
  | .skip, s => some (.normal, s)
  | .region _ ops false, s => (aRun P gl call ops (List.range ops.size) s).map fun s' => (.normal, s')
  | .region _ ops true, s => (draw ops s).map fun s' => (.normal, s')
  | .seq a b, s => match aCode P gl call draw a s with
    | some (.normal, s') => aCode P gl call draw b s'
    | r => r
  | .cond c a b, s => match aEval gl s.t c with
    | .bool true => aCode P gl call draw a s
    | .bool false => aCode P gl call draw b s
    | _ => none
  | .block id a, s => match aCode P gl call draw a s with
    | some (.exit j, s') => if j = id then some (.normal, s') else some (.exit j, s')
    | r => r
  | .loop a, s => aLoop (fun s => aCode P gl call draw a s) rounds s
  | .exit id, s => some (.exit id, s)
  | .ret, s => some (.ret, s)
  | _, _ => none

/-- The results of a function. -/
def aRes (P : Program) (t : List AVal) (h : AH) : List ResultVar → Option (List AVal)
  | [] => some []
  | .tmp i :: l => (aRes P t h l).map (t.getD i (.tuple []) :: ·)
  | .cell i ty :: l => (aLoad P ty (t.getD i (.tuple [])) h).bind fun v => (aRes P t h l).map (v :: ·)
def oneOf : List AVal → AVal
  | [v] => v
  | vs => .tuple vs
def aResults (P : Program) (fn : Func) (t : List AVal) (h : AH) : Option AVal := (aRes P t h fn.results.toList).map oneOf

/-- The deferred calls, the last one laid first. -/
def aLeave (call : ACall) : List ADef → AH → Option AH
  | [], h => some h
  | (g, args) :: ds, h => match call g args h with
    | some (_, h') => aLeave call ds h'
    | none => none
/-- A function's text. 'call': the calls in it; 'callD': the calls that it defers. -/
def aBody (P : Program) (gl : List Nat) (call callD : ACall) (draw : Array Oper → St → Option St) (f : FuncId) (args : List AVal) (h : AH) : Option (AVal × AH) :=
  match P.funcs[f]? with
  | none => none
  | some fn => match fn.body with
    | none => none
    | some c =>
      match aCode P gl call draw c ⟨args ++ List.replicate (fn.ntmps - args.length) (.tuple []), [], h⟩ with
      | some (.normal, s) => (aLeave callD s.d s.h).bind fun h' => (aResults P fn s.t h').map fun v => (v, h')
      | some (.ret, s) => (aLeave callD s.d s.h).bind fun h' => (aResults P fn s.t h').map fun v => (v, h')
      | _ => none
/-- A deferred function's: one that defers nothing itself. -/
def aBodyD (P : Program) (gl : List Nat) (call : ACall) (draw : Array Oper → St → Option St) (f : FuncId) (args : List AVal) (h : AH) : Option (AVal × AH) :=
  aBody P gl call (fun _ _ _ => none) draw f args h
end Go.Proofs.Ytfppdfmffdkogaa.AI
