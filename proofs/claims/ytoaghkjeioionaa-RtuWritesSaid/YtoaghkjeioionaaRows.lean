/-
  No cell of these rows narrows 'for every input' (looked for: loops, veiled, ifaces, maps, wideKeys, modest, calm, conditions, laid).
  DERIVED. THE GIVEN ROWS OF THIS SEAT. 3 by the template 'for every input the law returns true; each argument reads behind the call as it read before'; 0 by the template 'total and deterministic' (their statements: YtoaghkjeioionaaTotals.lean).
  GIVEN WITH THE SEED: the statements are not yours to turn. If you find one false, say at which input.
  Laid BY PROGRAM, IN A SANDBOX (cutbox-rows.mjs): the forced cells as the released guide's own fill.sh prints them over the translation 7ea7d5969e437c13… (all of the seat's roots in one cut). By AI agents, Wed Nov 11 2026. No macro, syntax, notation, axiom, sorry.
-/
import Derived.Test.YtoaghkjeioionaaChecked
import GoSem.Claim
import GoSem.ClaimJoined
import GoSem.ClaimMapViews
import Derived.JoinedTies
import Derived.KernelRfl
namespace Go.Proofs.Ytoaghkjeioionaa
/- THE CELL 'sum', in the pinned program and in every row, IS THE sha256 OF THE DUMP (.gsa) THAT YtoaghkjeioionaaProg.lean LOADS. Nothing in Lean hashes anything: it is a label: what it is worth is what the hold of that sum in a sandbox is worth. -/
noncomputable def Try.pinned : Pinned := { name := "ytoaghkjeioionaa", sum := "7ea7d5969e437c1372d4c097fd9478735a04e53fbc71c87ef59afacb5aa1bd13", checked := Try.checked }
namespace Rows
def none {H : Type} : Left H := { results := [], args := [] }

/-- 'runglaw5.RtuWrites': WHATEVER THE INPUT: true; the input reads as it did. -/
def rtuWritesSpec : ChangeSpec := { name := "rtuWrites", fn := fun _ => fun
  | [d1, d2] => { results := [.lit (.bool true)], args := [d1, d2] }
  | _ => none }
def rtuWritesRow : OpenClaim := { program := "ytoaghkjeioionaa", sum := "7ea7d5969e437c1372d4c097fd9478735a04e53fbc71c87ef59afacb5aa1bd13", func := "rung/runglaw5.RtuWrites", spec := "rtuWrites", apart := false }
def RtuWritesSaid : Prop := rtuWritesRow.holds Try.pinned (OpenSpec.ofChange rtuWritesSpec)

/-- ITS FALSE NEIGHBOUR: 'it returns false'. Refute it at one input. -/
def rtuWritesWrong : ChangeSpec := { name := "rtuWrites", fn := fun _ => fun
  | [d1, d2] => { results := [.lit (.bool false)], args := [d1, d2] }
  | _ => none }
def RtuWritesWrongFalsely : Prop := rtuWritesRow.holds Try.pinned (OpenSpec.ofChange rtuWritesWrong)

/-- 'runglaw5.RtuReads': WHATEVER THE INPUT: true; the input reads as it did. -/
def rtuReadsSpec : ChangeSpec := { name := "rtuReads", fn := fun _ => fun
  | [d] => { results := [.lit (.bool true)], args := [d] }
  | _ => none }
def rtuReadsRow : OpenClaim := { program := "ytoaghkjeioionaa", sum := "7ea7d5969e437c1372d4c097fd9478735a04e53fbc71c87ef59afacb5aa1bd13", func := "rung/runglaw5.RtuReads", spec := "rtuReads", apart := false }
def RtuReadsSaid : Prop := rtuReadsRow.holds Try.pinned (OpenSpec.ofChange rtuReadsSpec)

/-- ITS FALSE NEIGHBOUR: 'it returns false'. Refute it at one input. -/
def rtuReadsWrong : ChangeSpec := { name := "rtuReads", fn := fun _ => fun
  | [d] => { results := [.lit (.bool false)], args := [d] }
  | _ => none }
def RtuReadsWrongFalsely : Prop := rtuReadsRow.holds Try.pinned (OpenSpec.ofChange rtuReadsWrong)

/-- 'runglaw5.RtuTells': WHATEVER THE INPUT: true; the input reads as it did. -/
def rtuTellsSpec : ChangeSpec := { name := "rtuTells", fn := fun _ => fun
  | [d1, d2, d3, d4] => { results := [.lit (.bool true)], args := [d1, d2, d3, d4] }
  | _ => none }
def rtuTellsRow : OpenClaim := { program := "ytoaghkjeioionaa", sum := "7ea7d5969e437c1372d4c097fd9478735a04e53fbc71c87ef59afacb5aa1bd13", func := "rung/runglaw5.RtuTells", spec := "rtuTells", apart := false }
def RtuTellsSaid : Prop := rtuTellsRow.holds Try.pinned (OpenSpec.ofChange rtuTellsSpec)

/-- ITS FALSE NEIGHBOUR: 'it returns false'. Refute it at one input. -/
def rtuTellsWrong : ChangeSpec := { name := "rtuTells", fn := fun _ => fun
  | [d1, d2, d3, d4] => { results := [.lit (.bool false)], args := [d1, d2, d3, d4] }
  | _ => none }
def RtuTellsWrongFalsely : Prop := rtuTellsRow.holds Try.pinned (OpenSpec.ofChange rtuTellsWrong)

/- THE SECOND FORM. 'bulk': how many values and letters a reading holds, each counted each time it is reached (what is shared counts as often as it is met; a slice's spare places count too). A statement '..UptoSaid' is the law's where the arguments, and the package variables that the reading takes, are together of bulk at most 1048576: NARROWER than '..Said'. Prove '..Said' where nothing that the law and all that it calls make is longer than what came in: it says more and counts as full. Else prove '..UptoSaid'. A law counts once. -/
mutual
def uptoBulk {H : Type} : DataW H → Nat
  | .lit (.string bytes) => bytes.length + 1
  | .lit _ => 1
  | .nil => 1
  | .ptr d => uptoBulk d + 1
  | .slice elems spare => uptoBulkAll elems + uptoBulkAll spare + 1
  | .agg parts => uptoBulkAll parts + 1
  | .iface _ d => uptoBulk d + 1
  | .map entries => uptoBulkEntries entries + 1
  | .held _ => 1
def uptoBulkAll {H : Type} : List (DataW H) → Nat
  | [] => 0
  | d :: r => uptoBulk d + uptoBulkAll r
def uptoBulkEntries {H : Type} : List (Lit × DataW H) → Nat
  | [] => 0
  | x :: r => uptoBulkEntry x + uptoBulkEntries r
def uptoBulkEntry {H : Type} : Lit × DataW H → Nat
  | (.string bytes, d) => bytes.length + uptoBulk d + 1
  | (_, d) => uptoBulk d + 1
 end
def uptoSmall : (H : Type) → List (DataW H) → Bool := fun _ ds => decide (uptoBulkAll ds ≤ 1048576)
def OpenSpec.upto (s : _root_.Go.ChangeSpec) : _root_.Go.OpenSpec := { _root_.Go.OpenSpec.ofChange s with cond := some uptoSmall }

/-- 'runglaw5.RtuWrites', WHERE WHAT IT READS IS OF BULK AT MOST 1048576: true; the input reads as it did. -/
def rtuWritesUptoRow : OpenClaim := { program := "ytoaghkjeioionaa", sum := "7ea7d5969e437c1372d4c097fd9478735a04e53fbc71c87ef59afacb5aa1bd13", func := "rung/runglaw5.RtuWrites", spec := "rtuWrites", apart := false, narrowed := true }
def RtuWritesUptoSaid : Prop := rtuWritesUptoRow.holds Try.pinned (OpenSpec.upto rtuWritesSpec)

/-- 'runglaw5.RtuReads', WHERE WHAT IT READS IS OF BULK AT MOST 1048576: true; the input reads as it did. -/
def rtuReadsUptoRow : OpenClaim := { program := "ytoaghkjeioionaa", sum := "7ea7d5969e437c1372d4c097fd9478735a04e53fbc71c87ef59afacb5aa1bd13", func := "rung/runglaw5.RtuReads", spec := "rtuReads", apart := false, narrowed := true }
def RtuReadsUptoSaid : Prop := rtuReadsUptoRow.holds Try.pinned (OpenSpec.upto rtuReadsSpec)

/-- 'runglaw5.RtuTells', WHERE WHAT IT READS IS OF BULK AT MOST 1048576: true; the input reads as it did. -/
def rtuTellsUptoRow : OpenClaim := { program := "ytoaghkjeioionaa", sum := "7ea7d5969e437c1372d4c097fd9478735a04e53fbc71c87ef59afacb5aa1bd13", func := "rung/runglaw5.RtuTells", spec := "rtuTells", apart := false, narrowed := true }
def RtuTellsUptoSaid : Prop := rtuTellsUptoRow.holds Try.pinned (OpenSpec.upto rtuTellsSpec)

end Rows
end Go.Proofs.Ytoaghkjeioionaa
