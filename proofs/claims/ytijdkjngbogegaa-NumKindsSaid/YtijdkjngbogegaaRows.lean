/-
  No cell of these rows narrows 'for every input' (looked for: loops, veiled, ifaces, maps, wideKeys, modest, calm, conditions, laid).
  DERIVED. THE GIVEN ROWS OF THIS SEAT. 7 by the template 'for every input the law returns true; each argument reads behind the call as it read before'; 0 by the template 'total and deterministic' (their statements: YtijdkjngbogegaaTotals.lean).
  GIVEN WITH THE SEED: the statements are not yours to turn. If you find one false, say at which input.
  Laid BY PROGRAM, IN A SANDBOX (cutbox-rows.mjs): the forced cells as the released guide's own fill.sh prints them over the translation 8b303a7c04632cc6… (all of the seat's roots in one cut). By AI agents, Wed Nov 11 2026. No macro, syntax, notation, axiom, sorry.
-/
import Derived.Test.YtijdkjngbogegaaChecked
import GoSem.Claim
import GoSem.ClaimJoined
import GoSem.ClaimMapViews
import Derived.JoinedTies
import Derived.KernelRfl
namespace Go.Proofs.Ytijdkjngbogegaa
/- THE CELL 'sum', in the pinned program and in every row, IS THE sha256 OF THE DUMP (.gsa) THAT YtijdkjngbogegaaProg.lean LOADS. Nothing in Lean hashes anything: it is a label: what it is worth is what the hold of that sum in a sandbox is worth. -/
noncomputable def Try.pinned : Pinned := { name := "ytijdkjngbogegaa", sum := "8b303a7c04632cc6946a54df573d18d9a0c7443a8290132c73019172eff140ff", checked := Try.checked }
namespace Rows
def none {H : Type} : Left H := { results := [], args := [] }

/-- 'runglaw1.NumDivides': WHATEVER THE INPUT: true; the input reads as it did. -/
def numDividesSpec : ChangeSpec := { name := "numDivides", fn := fun _ => fun
  | [d1, d2, d3] => { results := [.lit (.bool true)], args := [d1, d2, d3] }
  | _ => none }
def numDividesRow : OpenClaim := { program := "ytijdkjngbogegaa", sum := "8b303a7c04632cc6946a54df573d18d9a0c7443a8290132c73019172eff140ff", func := "rung/runglaw1.NumDivides", spec := "numDivides", unfollowed := true, recurses := true, apart := false }
def NumDividesSaid : Prop := numDividesRow.holds Try.pinned (OpenSpec.ofChange numDividesSpec)

/-- ITS FALSE NEIGHBOUR: 'it returns false'. Refute it at one input. -/
def numDividesWrong : ChangeSpec := { name := "numDivides", fn := fun _ => fun
  | [d1, d2, d3] => { results := [.lit (.bool false)], args := [d1, d2, d3] }
  | _ => none }
def NumDividesWrongFalsely : Prop := numDividesRow.holds Try.pinned (OpenSpec.ofChange numDividesWrong)

/-- 'runglaw1.NumOrders': WHATEVER THE INPUT: true; the input reads as it did. -/
def numOrdersSpec : ChangeSpec := { name := "numOrders", fn := fun _ => fun
  | [d1, d2, d3, d4] => { results := [.lit (.bool true)], args := [d1, d2, d3, d4] }
  | _ => none }
def numOrdersRow : OpenClaim := { program := "ytijdkjngbogegaa", sum := "8b303a7c04632cc6946a54df573d18d9a0c7443a8290132c73019172eff140ff", func := "rung/runglaw1.NumOrders", spec := "numOrders", unfollowed := true, recurses := true, apart := false }
def NumOrdersSaid : Prop := numOrdersRow.holds Try.pinned (OpenSpec.ofChange numOrdersSpec)

/-- ITS FALSE NEIGHBOUR: 'it returns false'. Refute it at one input. -/
def numOrdersWrong : ChangeSpec := { name := "numOrders", fn := fun _ => fun
  | [d1, d2, d3, d4] => { results := [.lit (.bool false)], args := [d1, d2, d3, d4] }
  | _ => none }
def NumOrdersWrongFalsely : Prop := numOrdersRow.holds Try.pinned (OpenSpec.ofChange numOrdersWrong)

/-- 'runglaw1.NumRing': WHATEVER THE INPUT: true; the input reads as it did. -/
def numRingSpec : ChangeSpec := { name := "numRing", fn := fun _ => fun
  | [d1, d2, d3, d4] => { results := [.lit (.bool true)], args := [d1, d2, d3, d4] }
  | _ => none }
def numRingRow : OpenClaim := { program := "ytijdkjngbogegaa", sum := "8b303a7c04632cc6946a54df573d18d9a0c7443a8290132c73019172eff140ff", func := "rung/runglaw1.NumRing", spec := "numRing", unfollowed := true, recurses := true, apart := false }
def NumRingSaid : Prop := numRingRow.holds Try.pinned (OpenSpec.ofChange numRingSpec)

/-- ITS FALSE NEIGHBOUR: 'it returns false'. Refute it at one input. -/
def numRingWrong : ChangeSpec := { name := "numRing", fn := fun _ => fun
  | [d1, d2, d3, d4] => { results := [.lit (.bool false)], args := [d1, d2, d3, d4] }
  | _ => none }
def NumRingWrongFalsely : Prop := numRingRow.holds Try.pinned (OpenSpec.ofChange numRingWrong)

/-- 'runglaw1.NumLogic': WHATEVER THE INPUT: true; the input reads as it did. -/
def numLogicSpec : ChangeSpec := { name := "numLogic", fn := fun _ => fun
  | [d1, d2, d3, d4] => { results := [.lit (.bool true)], args := [d1, d2, d3, d4] }
  | _ => none }
def numLogicRow : OpenClaim := { program := "ytijdkjngbogegaa", sum := "8b303a7c04632cc6946a54df573d18d9a0c7443a8290132c73019172eff140ff", func := "rung/runglaw1.NumLogic", spec := "numLogic", unfollowed := true, recurses := true, apart := false }
def NumLogicSaid : Prop := numLogicRow.holds Try.pinned (OpenSpec.ofChange numLogicSpec)

/-- ITS FALSE NEIGHBOUR: 'it returns false'. Refute it at one input. -/
def numLogicWrong : ChangeSpec := { name := "numLogic", fn := fun _ => fun
  | [d1, d2, d3, d4] => { results := [.lit (.bool false)], args := [d1, d2, d3, d4] }
  | _ => none }
def NumLogicWrongFalsely : Prop := numLogicRow.holds Try.pinned (OpenSpec.ofChange numLogicWrong)

/-- 'runglaw1.NumWraps': WHATEVER THE INPUT: true; the input reads as it did. -/
def numWrapsSpec : ChangeSpec := { name := "numWraps", fn := fun _ => fun
  | [d1, d2] => { results := [.lit (.bool true)], args := [d1, d2] }
  | _ => none }
def numWrapsRow : OpenClaim := { program := "ytijdkjngbogegaa", sum := "8b303a7c04632cc6946a54df573d18d9a0c7443a8290132c73019172eff140ff", func := "rung/runglaw1.NumWraps", spec := "numWraps", apart := false }
def NumWrapsSaid : Prop := numWrapsRow.holds Try.pinned (OpenSpec.ofChange numWrapsSpec)

/-- ITS FALSE NEIGHBOUR: 'it returns false'. Refute it at one input. -/
def numWrapsWrong : ChangeSpec := { name := "numWraps", fn := fun _ => fun
  | [d1, d2] => { results := [.lit (.bool false)], args := [d1, d2] }
  | _ => none }
def NumWrapsWrongFalsely : Prop := numWrapsRow.holds Try.pinned (OpenSpec.ofChange numWrapsWrong)

/-- 'runglaw1.NumKinds': WHATEVER THE INPUT: true; the input reads as it did. -/
def numKindsSpec : ChangeSpec := { name := "numKinds", fn := fun _ => fun
  | [d1, d2] => { results := [.lit (.bool true)], args := [d1, d2] }
  | _ => none }
def numKindsRow : OpenClaim := { program := "ytijdkjngbogegaa", sum := "8b303a7c04632cc6946a54df573d18d9a0c7443a8290132c73019172eff140ff", func := "rung/runglaw1.NumKinds", spec := "numKinds", apart := false }
def NumKindsSaid : Prop := numKindsRow.holds Try.pinned (OpenSpec.ofChange numKindsSpec)

/-- ITS FALSE NEIGHBOUR: 'it returns false'. Refute it at one input. -/
def numKindsWrong : ChangeSpec := { name := "numKinds", fn := fun _ => fun
  | [d1, d2] => { results := [.lit (.bool false)], args := [d1, d2] }
  | _ => none }
def NumKindsWrongFalsely : Prop := numKindsRow.holds Try.pinned (OpenSpec.ofChange numKindsWrong)

/-- 'runglaw1.NumMoves': WHATEVER THE INPUT: true; the input reads as it did. -/
def numMovesSpec : ChangeSpec := { name := "numMoves", fn := fun _ => fun
  | [d1, d2, d3, d4, d5] => { results := [.lit (.bool true)], args := [d1, d2, d3, d4, d5] }
  | _ => none }
def numMovesRow : OpenClaim := { program := "ytijdkjngbogegaa", sum := "8b303a7c04632cc6946a54df573d18d9a0c7443a8290132c73019172eff140ff", func := "rung/runglaw1.NumMoves", spec := "numMoves", apart := false }
def NumMovesSaid : Prop := numMovesRow.holds Try.pinned (OpenSpec.ofChange numMovesSpec)

/-- ITS FALSE NEIGHBOUR: 'it returns false'. Refute it at one input. -/
def numMovesWrong : ChangeSpec := { name := "numMoves", fn := fun _ => fun
  | [d1, d2, d3, d4, d5] => { results := [.lit (.bool false)], args := [d1, d2, d3, d4, d5] }
  | _ => none }
def NumMovesWrongFalsely : Prop := numMovesRow.holds Try.pinned (OpenSpec.ofChange numMovesWrong)

/- THE SECOND FORM. 'bulk': how many values and letters a reading holds, each counted each time it is reached (what is shared counts as often as it is met; a slice's spare places count too). A statement '..UptoSaid' is the law's where the arguments, and the package variables that the reading takes, are together of bulk at most 1048576: NARROWER than '..Said'. Prove '..Said' where nothing that the law and all that it calls make is longer than what came in: it says more and counts as full. Else prove '..UptoSaid'. A law counts once. -/
mutual
def uptoBulk {H : Type} : DataW H → Nat
  | .lit (.string bytes) => bytes.length + 1
  | .lit _ => 1
  | .nil => 1
  | .ptr d => uptoBulk d + 1
  | .slice elems spare => uptoBulkAll elems + uptoBulkAll spare + 1
  | .agg parts => uptoBulkAll parts + 1
  | .iface _ d => uptoBulk d + 1
  | .map entries => uptoBulkEntries entries + 1
  | .held _ => 1
def uptoBulkAll {H : Type} : List (DataW H) → Nat
  | [] => 0
  | d :: r => uptoBulk d + uptoBulkAll r
def uptoBulkEntries {H : Type} : List (Lit × DataW H) → Nat
  | [] => 0
  | x :: r => uptoBulkEntry x + uptoBulkEntries r
def uptoBulkEntry {H : Type} : Lit × DataW H → Nat
  | (.string bytes, d) => bytes.length + uptoBulk d + 1
  | (_, d) => uptoBulk d + 1
 end
def uptoSmall : (H : Type) → List (DataW H) → Bool := fun _ ds => decide (uptoBulkAll ds ≤ 1048576)
def OpenSpec.upto (s : _root_.Go.ChangeSpec) : _root_.Go.OpenSpec := { _root_.Go.OpenSpec.ofChange s with cond := some uptoSmall }

/-- 'runglaw1.NumDivides', WHERE WHAT IT READS IS OF BULK AT MOST 1048576: true; the input reads as it did. -/
def numDividesUptoRow : OpenClaim := { program := "ytijdkjngbogegaa", sum := "8b303a7c04632cc6946a54df573d18d9a0c7443a8290132c73019172eff140ff", func := "rung/runglaw1.NumDivides", spec := "numDivides", unfollowed := true, recurses := true, apart := false, narrowed := true }
def NumDividesUptoSaid : Prop := numDividesUptoRow.holds Try.pinned (OpenSpec.upto numDividesSpec)

/-- 'runglaw1.NumOrders', WHERE WHAT IT READS IS OF BULK AT MOST 1048576: true; the input reads as it did. -/
def numOrdersUptoRow : OpenClaim := { program := "ytijdkjngbogegaa", sum := "8b303a7c04632cc6946a54df573d18d9a0c7443a8290132c73019172eff140ff", func := "rung/runglaw1.NumOrders", spec := "numOrders", unfollowed := true, recurses := true, apart := false, narrowed := true }
def NumOrdersUptoSaid : Prop := numOrdersUptoRow.holds Try.pinned (OpenSpec.upto numOrdersSpec)

/-- 'runglaw1.NumRing', WHERE WHAT IT READS IS OF BULK AT MOST 1048576: true; the input reads as it did. -/
def numRingUptoRow : OpenClaim := { program := "ytijdkjngbogegaa", sum := "8b303a7c04632cc6946a54df573d18d9a0c7443a8290132c73019172eff140ff", func := "rung/runglaw1.NumRing", spec := "numRing", unfollowed := true, recurses := true, apart := false, narrowed := true }
def NumRingUptoSaid : Prop := numRingUptoRow.holds Try.pinned (OpenSpec.upto numRingSpec)

/-- 'runglaw1.NumLogic', WHERE WHAT IT READS IS OF BULK AT MOST 1048576: true; the input reads as it did. -/
def numLogicUptoRow : OpenClaim := { program := "ytijdkjngbogegaa", sum := "8b303a7c04632cc6946a54df573d18d9a0c7443a8290132c73019172eff140ff", func := "rung/runglaw1.NumLogic", spec := "numLogic", unfollowed := true, recurses := true, apart := false, narrowed := true }
def NumLogicUptoSaid : Prop := numLogicUptoRow.holds Try.pinned (OpenSpec.upto numLogicSpec)

/-- 'runglaw1.NumWraps', WHERE WHAT IT READS IS OF BULK AT MOST 1048576: true; the input reads as it did. -/
def numWrapsUptoRow : OpenClaim := { program := "ytijdkjngbogegaa", sum := "8b303a7c04632cc6946a54df573d18d9a0c7443a8290132c73019172eff140ff", func := "rung/runglaw1.NumWraps", spec := "numWraps", apart := false, narrowed := true }
def NumWrapsUptoSaid : Prop := numWrapsUptoRow.holds Try.pinned (OpenSpec.upto numWrapsSpec)

/-- 'runglaw1.NumKinds', WHERE WHAT IT READS IS OF BULK AT MOST 1048576: true; the input reads as it did. -/
def numKindsUptoRow : OpenClaim := { program := "ytijdkjngbogegaa", sum := "8b303a7c04632cc6946a54df573d18d9a0c7443a8290132c73019172eff140ff", func := "rung/runglaw1.NumKinds", spec := "numKinds", apart := false, narrowed := true }
def NumKindsUptoSaid : Prop := numKindsUptoRow.holds Try.pinned (OpenSpec.upto numKindsSpec)

/-- 'runglaw1.NumMoves', WHERE WHAT IT READS IS OF BULK AT MOST 1048576: true; the input reads as it did. -/
def numMovesUptoRow : OpenClaim := { program := "ytijdkjngbogegaa", sum := "8b303a7c04632cc6946a54df573d18d9a0c7443a8290132c73019172eff140ff", func := "rung/runglaw1.NumMoves", spec := "numMoves", apart := false, narrowed := true }
def NumMovesUptoSaid : Prop := numMovesUptoRow.holds Try.pinned (OpenSpec.upto numMovesSpec)

end Rows
end Go.Proofs.Ytijdkjngbogegaa
