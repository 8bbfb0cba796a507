/-
  No cell of these rows narrows 'for every input' (looked for: loops, veiled, ifaces, maps, wideKeys, modest, calm, conditions, laid).
  DERIVED. THE GIVEN ROWS OF THIS SEAT. 4 by the template 'for every input the law returns true; each argument reads behind the call as it read before'; 0 by the template 'total and deterministic' (their statements: YtbicodikokfokaaTotals.lean).
  GIVEN WITH THE SEED: the statements are not yours to turn. If you find one false, say at which input.
  Laid BY PROGRAM, IN A SANDBOX (cutbox-rows.mjs): the forced cells as the released guide's own fill.sh prints them over the translation b4b8965221220a2d… (all of the seat's roots in one cut). By AI agents, Wed Nov 11 2026. No macro, syntax, notation, axiom, sorry.
-/
import Derived.Test.YtbicodikokfokaaChecked
import GoSem.Claim
import GoSem.ClaimJoined
import GoSem.ClaimMapViews
import Derived.JoinedTies
import Derived.KernelRfl
namespace Go.Proofs.Ytbicodikokfokaa
/- THE CELL 'sum', in the pinned program and in every row, IS THE sha256 OF THE DUMP (.gsa) THAT YtbicodikokfokaaProg.lean LOADS. Nothing in Lean hashes anything: it is a label: what it is worth is what the hold of that sum in a sandbox is worth. -/
noncomputable def Try.pinned : Pinned := { name := "ytbicodikokfokaa", sum := "b4b8965221220a2d62d2119b1ec8a314929ce201d26bdfe7d1d385866def6584", checked := Try.checked }
namespace Rows
def none {H : Type} : Left H := { results := [], args := [] }

/-- 'runglaw8.BlockTears': WHATEVER THE INPUT: true; the input reads as it did. -/
def blockTearsSpec : ChangeSpec := { name := "blockTears", fn := fun _ => fun
  | [d1, d2, d3, d4, d5] => { results := [.lit (.bool true)], args := [d1, d2, d3, d4, d5] }
  | _ => none }
def blockTearsRow : OpenClaim := { program := "ytbicodikokfokaa", sum := "b4b8965221220a2d62d2119b1ec8a314929ce201d26bdfe7d1d385866def6584", func := "rung/runglaw8.BlockTears", spec := "blockTears", apart := false }
def BlockTearsSaid : Prop := blockTearsRow.holds Try.pinned (OpenSpec.ofChange blockTearsSpec)

/-- ITS FALSE NEIGHBOUR: 'it returns false'. Refute it at one input. -/
def blockTearsWrong : ChangeSpec := { name := "blockTears", fn := fun _ => fun
  | [d1, d2, d3, d4, d5] => { results := [.lit (.bool false)], args := [d1, d2, d3, d4, d5] }
  | _ => none }
def BlockTearsWrongFalsely : Prop := blockTearsRow.holds Try.pinned (OpenSpec.ofChange blockTearsWrong)

/-- 'runglaw8.BlockShape': WHATEVER THE INPUT: true; the input reads as it did. -/
def blockShapeSpec : ChangeSpec := { name := "blockShape", fn := fun _ => fun
  | [d1, d2] => { results := [.lit (.bool true)], args := [d1, d2] }
  | _ => none }
def blockShapeRow : OpenClaim := { program := "ytbicodikokfokaa", sum := "b4b8965221220a2d62d2119b1ec8a314929ce201d26bdfe7d1d385866def6584", func := "rung/runglaw8.BlockShape", spec := "blockShape", apart := false }
def BlockShapeSaid : Prop := blockShapeRow.holds Try.pinned (OpenSpec.ofChange blockShapeSpec)

/-- ITS FALSE NEIGHBOUR: 'it returns false'. Refute it at one input. -/
def blockShapeWrong : ChangeSpec := { name := "blockShape", fn := fun _ => fun
  | [d1, d2] => { results := [.lit (.bool false)], args := [d1, d2] }
  | _ => none }
def BlockShapeWrongFalsely : Prop := blockShapeRow.holds Try.pinned (OpenSpec.ofChange blockShapeWrong)

/-- 'runglaw8.BlockPlays': WHATEVER THE INPUT: true; the input reads as it did. -/
def blockPlaysSpec : ChangeSpec := { name := "blockPlays", fn := fun _ => fun
  | [d1, d2, d3] => { results := [.lit (.bool true)], args := [d1, d2, d3] }
  | _ => none }
def blockPlaysRow : OpenClaim := { program := "ytbicodikokfokaa", sum := "b4b8965221220a2d62d2119b1ec8a314929ce201d26bdfe7d1d385866def6584", func := "rung/runglaw8.BlockPlays", spec := "blockPlays", apart := false }
def BlockPlaysSaid : Prop := blockPlaysRow.holds Try.pinned (OpenSpec.ofChange blockPlaysSpec)

/-- ITS FALSE NEIGHBOUR: 'it returns false'. Refute it at one input. -/
def blockPlaysWrong : ChangeSpec := { name := "blockPlays", fn := fun _ => fun
  | [d1, d2, d3] => { results := [.lit (.bool false)], args := [d1, d2, d3] }
  | _ => none }
def BlockPlaysWrongFalsely : Prop := blockPlaysRow.holds Try.pinned (OpenSpec.ofChange blockPlaysWrong)

/-- 'runglaw8.BlockApart': WHATEVER THE INPUT: true; the input reads as it did. -/
def blockApartSpec : ChangeSpec := { name := "blockApart", fn := fun _ => fun
  | [d1, d2, d3, d4, d5, d6] => { results := [.lit (.bool true)], args := [d1, d2, d3, d4, d5, d6] }
  | _ => none }
def blockApartRow : OpenClaim := { program := "ytbicodikokfokaa", sum := "b4b8965221220a2d62d2119b1ec8a314929ce201d26bdfe7d1d385866def6584", func := "rung/runglaw8.BlockApart", spec := "blockApart", apart := false }
def BlockApartSaid : Prop := blockApartRow.holds Try.pinned (OpenSpec.ofChange blockApartSpec)

/-- ITS FALSE NEIGHBOUR: 'it returns false'. Refute it at one input. -/
def blockApartWrong : ChangeSpec := { name := "blockApart", fn := fun _ => fun
  | [d1, d2, d3, d4, d5, d6] => { results := [.lit (.bool false)], args := [d1, d2, d3, d4, d5, d6] }
  | _ => none }
def BlockApartWrongFalsely : Prop := blockApartRow.holds Try.pinned (OpenSpec.ofChange blockApartWrong)

/- THE SECOND FORM. 'bulk': how many values and letters a reading holds, each counted each time it is reached (what is shared counts as often as it is met; a slice's spare places count too). A statement '..UptoSaid' is the law's where the arguments, and the package variables that the reading takes, are together of bulk at most 1048576: NARROWER than '..Said'. Prove '..Said' where nothing that the law and all that it calls make is longer than what came in: it says more and counts as full. Else prove '..UptoSaid'. A law counts once. -/
mutual
def uptoBulk {H : Type} : DataW H → Nat
  | .lit (.string bytes) => bytes.length + 1
  | .lit _ => 1
  | .nil => 1
  | .ptr d => uptoBulk d + 1
  | .slice elems spare => uptoBulkAll elems + uptoBulkAll spare + 1
  | .agg parts => uptoBulkAll parts + 1
  | .iface _ d => uptoBulk d + 1
  | .map entries => uptoBulkEntries entries + 1
  | .held _ => 1
def uptoBulkAll {H : Type} : List (DataW H) → Nat
  | [] => 0
  | d :: r => uptoBulk d + uptoBulkAll r
def uptoBulkEntries {H : Type} : List (Lit × DataW H) → Nat
  | [] => 0
  | x :: r => uptoBulkEntry x + uptoBulkEntries r
def uptoBulkEntry {H : Type} : Lit × DataW H → Nat
  | (.string bytes, d) => bytes.length + uptoBulk d + 1
  | (_, d) => uptoBulk d + 1
 end
def uptoSmall : (H : Type) → List (DataW H) → Bool := fun _ ds => decide (uptoBulkAll ds ≤ 1048576)
def OpenSpec.upto (s : _root_.Go.ChangeSpec) : _root_.Go.OpenSpec := { _root_.Go.OpenSpec.ofChange s with cond := some uptoSmall }

/-- 'runglaw8.BlockTears', WHERE WHAT IT READS IS OF BULK AT MOST 1048576: true; the input reads as it did. -/
def blockTearsUptoRow : OpenClaim := { program := "ytbicodikokfokaa", sum := "b4b8965221220a2d62d2119b1ec8a314929ce201d26bdfe7d1d385866def6584", func := "rung/runglaw8.BlockTears", spec := "blockTears", apart := false, narrowed := true }
def BlockTearsUptoSaid : Prop := blockTearsUptoRow.holds Try.pinned (OpenSpec.upto blockTearsSpec)

/-- 'runglaw8.BlockShape', WHERE WHAT IT READS IS OF BULK AT MOST 1048576: true; the input reads as it did. -/
def blockShapeUptoRow : OpenClaim := { program := "ytbicodikokfokaa", sum := "b4b8965221220a2d62d2119b1ec8a314929ce201d26bdfe7d1d385866def6584", func := "rung/runglaw8.BlockShape", spec := "blockShape", apart := false, narrowed := true }
def BlockShapeUptoSaid : Prop := blockShapeUptoRow.holds Try.pinned (OpenSpec.upto blockShapeSpec)

/-- 'runglaw8.BlockPlays', WHERE WHAT IT READS IS OF BULK AT MOST 1048576: true; the input reads as it did. -/
def blockPlaysUptoRow : OpenClaim := { program := "ytbicodikokfokaa", sum := "b4b8965221220a2d62d2119b1ec8a314929ce201d26bdfe7d1d385866def6584", func := "rung/runglaw8.BlockPlays", spec := "blockPlays", apart := false, narrowed := true }
def BlockPlaysUptoSaid : Prop := blockPlaysUptoRow.holds Try.pinned (OpenSpec.upto blockPlaysSpec)

/-- 'runglaw8.BlockApart', WHERE WHAT IT READS IS OF BULK AT MOST 1048576: true; the input reads as it did. -/
def blockApartUptoRow : OpenClaim := { program := "ytbicodikokfokaa", sum := "b4b8965221220a2d62d2119b1ec8a314929ce201d26bdfe7d1d385866def6584", func := "rung/runglaw8.BlockApart", spec := "blockApart", apart := false, narrowed := true }
def BlockApartUptoSaid : Prop := blockApartUptoRow.holds Try.pinned (OpenSpec.upto blockApartSpec)

end Rows
end Go.Proofs.Ytbicodikokfokaa
