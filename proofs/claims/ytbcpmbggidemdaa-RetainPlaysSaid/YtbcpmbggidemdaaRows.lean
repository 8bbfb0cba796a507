/-
  No cell of these rows narrows 'for every input' (looked for: loops, veiled, ifaces, maps, wideKeys, modest, calm, conditions, laid).
  DERIVED. THE GIVEN ROWS OF THIS SEAT. 7 by the template 'for every input the law returns true; each argument reads behind the call as it read before'; 0 by the template 'total and deterministic' (their statements: YtbcpmbggidemdaaTotals.lean).
  GIVEN WITH THE SEED: the statements are not yours to turn. If you find one false, say at which input.
  Laid BY PROGRAM, IN A SANDBOX (cutbox-rows.mjs): the forced cells as the released guide's own fill.sh prints them over the translation 790e6525451d70bf… (all of the seat's roots in one cut). By AI agents, Wed Nov 11 2026. No macro, syntax, notation, axiom, sorry.
-/
import Derived.Test.YtbcpmbggidemdaaChecked
import GoSem.Claim
import GoSem.ClaimJoined
import GoSem.ClaimMapViews
import Derived.JoinedTies
import Derived.KernelRfl
namespace Go.Proofs.Ytbcpmbggidemdaa
/- THE CELL 'sum', in the pinned program and in every row, IS THE sha256 OF THE DUMP (.gsa) THAT YtbcpmbggidemdaaProg.lean LOADS. Nothing in Lean hashes anything: it is a label: what it is worth is what the hold of that sum in a sandbox is worth. -/
noncomputable def Try.pinned : Pinned := { name := "ytbcpmbggidemdaa", sum := "790e6525451d70bfc1d588ccce2ffde55ed5c9c40961b87bc1f0d421dd1ffeb0", checked := Try.checked }
namespace Rows
def none {H : Type} : Left H := { results := [], args := [] }

/-- 'runglaw9.RetainRooms': WHATEVER THE INPUT: true; the input reads as it did. -/
def retainRoomsSpec : ChangeSpec := { name := "retainRooms", fn := fun _ => fun
  | [d1, d2, d3] => { results := [.lit (.bool true)], args := [d1, d2, d3] }
  | _ => none }
def retainRoomsRow : OpenClaim := { program := "ytbcpmbggidemdaa", sum := "790e6525451d70bfc1d588ccce2ffde55ed5c9c40961b87bc1f0d421dd1ffeb0", func := "rung/runglaw9.RetainRooms", spec := "retainRooms", inPlace := ["sync/atomic.AddUint64", "sync/atomic.LoadUint64"], apart := false }
def RetainRoomsSaid : Prop := retainRoomsRow.holds Try.pinned (OpenSpec.ofChange retainRoomsSpec)

/-- ITS FALSE NEIGHBOUR: 'it returns false'. Refute it at one input. -/
def retainRoomsWrong : ChangeSpec := { name := "retainRooms", fn := fun _ => fun
  | [d1, d2, d3] => { results := [.lit (.bool false)], args := [d1, d2, d3] }
  | _ => none }
def RetainRoomsWrongFalsely : Prop := retainRoomsRow.holds Try.pinned (OpenSpec.ofChange retainRoomsWrong)

/-- 'runglaw9.RetainLong': WHATEVER THE INPUT: true; the input reads as it did. -/
def retainLongSpec : ChangeSpec := { name := "retainLong", fn := fun _ => fun
  | [d1, d2, d3, d4] => { results := [.lit (.bool true)], args := [d1, d2, d3, d4] }
  | _ => none }
def retainLongRow : OpenClaim := { program := "ytbcpmbggidemdaa", sum := "790e6525451d70bfc1d588ccce2ffde55ed5c9c40961b87bc1f0d421dd1ffeb0", func := "rung/runglaw9.RetainLong", spec := "retainLong", inPlace := ["sync/atomic.AddUint64", "sync/atomic.LoadUint64"], apart := false }
def RetainLongSaid : Prop := retainLongRow.holds Try.pinned (OpenSpec.ofChange retainLongSpec)

/-- ITS FALSE NEIGHBOUR: 'it returns false'. Refute it at one input. -/
def retainLongWrong : ChangeSpec := { name := "retainLong", fn := fun _ => fun
  | [d1, d2, d3, d4] => { results := [.lit (.bool false)], args := [d1, d2, d3, d4] }
  | _ => none }
def RetainLongWrongFalsely : Prop := retainLongRow.holds Try.pinned (OpenSpec.ofChange retainLongWrong)

/-- 'runglaw9.RetainOther': WHATEVER THE INPUT: true; the input reads as it did. -/
def retainOtherSpec : ChangeSpec := { name := "retainOther", fn := fun _ => fun
  | [d1, d2, d3, d4] => { results := [.lit (.bool true)], args := [d1, d2, d3, d4] }
  | _ => none }
def retainOtherRow : OpenClaim := { program := "ytbcpmbggidemdaa", sum := "790e6525451d70bfc1d588ccce2ffde55ed5c9c40961b87bc1f0d421dd1ffeb0", func := "rung/runglaw9.RetainOther", spec := "retainOther", inPlace := ["sync/atomic.AddUint64", "sync/atomic.LoadUint64"], apart := false }
def RetainOtherSaid : Prop := retainOtherRow.holds Try.pinned (OpenSpec.ofChange retainOtherSpec)

/-- ITS FALSE NEIGHBOUR: 'it returns false'. Refute it at one input. -/
def retainOtherWrong : ChangeSpec := { name := "retainOther", fn := fun _ => fun
  | [d1, d2, d3, d4] => { results := [.lit (.bool false)], args := [d1, d2, d3, d4] }
  | _ => none }
def RetainOtherWrongFalsely : Prop := retainOtherRow.holds Try.pinned (OpenSpec.ofChange retainOtherWrong)

/-- 'runglaw9.RetainPlays': WHATEVER THE INPUT: true; the input reads as it did. -/
def retainPlaysSpec : ChangeSpec := { name := "retainPlays", fn := fun _ => fun
  | [d1, d2, d3] => { results := [.lit (.bool true)], args := [d1, d2, d3] }
  | _ => none }
def retainPlaysRow : OpenClaim := { program := "ytbcpmbggidemdaa", sum := "790e6525451d70bfc1d588ccce2ffde55ed5c9c40961b87bc1f0d421dd1ffeb0", func := "rung/runglaw9.RetainPlays", spec := "retainPlays", inPlace := ["sync/atomic.AddUint64", "sync/atomic.LoadUint64"], apart := false }
def RetainPlaysSaid : Prop := retainPlaysRow.holds Try.pinned (OpenSpec.ofChange retainPlaysSpec)

/-- ITS FALSE NEIGHBOUR: 'it returns false'. Refute it at one input. -/
def retainPlaysWrong : ChangeSpec := { name := "retainPlays", fn := fun _ => fun
  | [d1, d2, d3] => { results := [.lit (.bool false)], args := [d1, d2, d3] }
  | _ => none }
def RetainPlaysWrongFalsely : Prop := retainPlaysRow.holds Try.pinned (OpenSpec.ofChange retainPlaysWrong)

/-- 'runglaw9.RetainFirst': WHATEVER THE INPUT: true; the input reads as it did. -/
def retainFirstSpec : ChangeSpec := { name := "retainFirst", fn := fun _ => fun
  | [d1, d2, d3, d4, d5] => { results := [.lit (.bool true)], args := [d1, d2, d3, d4, d5] }
  | _ => none }
def retainFirstRow : OpenClaim := { program := "ytbcpmbggidemdaa", sum := "790e6525451d70bfc1d588ccce2ffde55ed5c9c40961b87bc1f0d421dd1ffeb0", func := "rung/runglaw9.RetainFirst", spec := "retainFirst", inPlace := ["sync/atomic.AddUint64", "sync/atomic.LoadUint64"], apart := false }
def RetainFirstSaid : Prop := retainFirstRow.holds Try.pinned (OpenSpec.ofChange retainFirstSpec)

/-- ITS FALSE NEIGHBOUR: 'it returns false'. Refute it at one input. -/
def retainFirstWrong : ChangeSpec := { name := "retainFirst", fn := fun _ => fun
  | [d1, d2, d3, d4, d5] => { results := [.lit (.bool false)], args := [d1, d2, d3, d4, d5] }
  | _ => none }
def RetainFirstWrongFalsely : Prop := retainFirstRow.holds Try.pinned (OpenSpec.ofChange retainFirstWrong)

/-- 'runglaw9.RetainSpoilt': WHATEVER THE INPUT: true; the input reads as it did. -/
def retainSpoiltSpec : ChangeSpec := { name := "retainSpoilt", fn := fun _ => fun
  | [d1, d2, d3, d4, d5, d6, d7] => { results := [.lit (.bool true)], args := [d1, d2, d3, d4, d5, d6, d7] }
  | _ => none }
def retainSpoiltRow : OpenClaim := { program := "ytbcpmbggidemdaa", sum := "790e6525451d70bfc1d588ccce2ffde55ed5c9c40961b87bc1f0d421dd1ffeb0", func := "rung/runglaw9.RetainSpoilt", spec := "retainSpoilt", inPlace := ["sync/atomic.AddUint64", "sync/atomic.LoadUint64"], apart := false }
def RetainSpoiltSaid : Prop := retainSpoiltRow.holds Try.pinned (OpenSpec.ofChange retainSpoiltSpec)

/-- ITS FALSE NEIGHBOUR: 'it returns false'. Refute it at one input. -/
def retainSpoiltWrong : ChangeSpec := { name := "retainSpoilt", fn := fun _ => fun
  | [d1, d2, d3, d4, d5, d6, d7] => { results := [.lit (.bool false)], args := [d1, d2, d3, d4, d5, d6, d7] }
  | _ => none }
def RetainSpoiltWrongFalsely : Prop := retainSpoiltRow.holds Try.pinned (OpenSpec.ofChange retainSpoiltWrong)

/-- 'runglaw9.RetainEvery': WHATEVER THE INPUT: true; the input reads as it did. -/
def retainEverySpec : ChangeSpec := { name := "retainEvery", fn := fun _ => fun
  | [d1, d2, d3, d4, d5, d6] => { results := [.lit (.bool true)], args := [d1, d2, d3, d4, d5, d6] }
  | _ => none }
def retainEveryRow : OpenClaim := { program := "ytbcpmbggidemdaa", sum := "790e6525451d70bfc1d588ccce2ffde55ed5c9c40961b87bc1f0d421dd1ffeb0", func := "rung/runglaw9.RetainEvery", spec := "retainEvery", inPlace := ["sync/atomic.AddUint64", "sync/atomic.LoadUint64"], apart := false }
def RetainEverySaid : Prop := retainEveryRow.holds Try.pinned (OpenSpec.ofChange retainEverySpec)

/-- ITS FALSE NEIGHBOUR: 'it returns false'. Refute it at one input. -/
def retainEveryWrong : ChangeSpec := { name := "retainEvery", fn := fun _ => fun
  | [d1, d2, d3, d4, d5, d6] => { results := [.lit (.bool false)], args := [d1, d2, d3, d4, d5, d6] }
  | _ => none }
def RetainEveryWrongFalsely : Prop := retainEveryRow.holds Try.pinned (OpenSpec.ofChange retainEveryWrong)

/- THE SECOND FORM. 'bulk': how many values and letters a reading holds, each counted each time it is reached (what is shared counts as often as it is met; a slice's spare places count too). A statement '..UptoSaid' is the law's where the arguments, and the package variables that the reading takes, are together of bulk at most 1048576: NARROWER than '..Said'. Prove '..Said' where nothing that the law and all that it calls make is longer than what came in: it says more and counts as full. Else prove '..UptoSaid'. A law counts once. -/
mutual
def uptoBulk {H : Type} : DataW H → Nat
  | .lit (.string bytes) => bytes.length + 1
  | .lit _ => 1
  | .nil => 1
  | .ptr d => uptoBulk d + 1
  | .slice elems spare => uptoBulkAll elems + uptoBulkAll spare + 1
  | .agg parts => uptoBulkAll parts + 1
  | .iface _ d => uptoBulk d + 1
  | .map entries => uptoBulkEntries entries + 1
  | .held _ => 1
def uptoBulkAll {H : Type} : List (DataW H) → Nat
  | [] => 0
  | d :: r => uptoBulk d + uptoBulkAll r
def uptoBulkEntries {H : Type} : List (Lit × DataW H) → Nat
  | [] => 0
  | x :: r => uptoBulkEntry x + uptoBulkEntries r
def uptoBulkEntry {H : Type} : Lit × DataW H → Nat
  | (.string bytes, d) => bytes.length + uptoBulk d + 1
  | (_, d) => uptoBulk d + 1
 end
def uptoSmall : (H : Type) → List (DataW H) → Bool := fun _ ds => decide (uptoBulkAll ds ≤ 1048576)
def OpenSpec.upto (s : _root_.Go.ChangeSpec) : _root_.Go.OpenSpec := { _root_.Go.OpenSpec.ofChange s with cond := some uptoSmall }

/-- 'runglaw9.RetainRooms', WHERE WHAT IT READS IS OF BULK AT MOST 1048576: true; the input reads as it did. -/
def retainRoomsUptoRow : OpenClaim := { program := "ytbcpmbggidemdaa", sum := "790e6525451d70bfc1d588ccce2ffde55ed5c9c40961b87bc1f0d421dd1ffeb0", func := "rung/runglaw9.RetainRooms", spec := "retainRooms", inPlace := ["sync/atomic.AddUint64", "sync/atomic.LoadUint64"], apart := false, narrowed := true }
def RetainRoomsUptoSaid : Prop := retainRoomsUptoRow.holds Try.pinned (OpenSpec.upto retainRoomsSpec)

/-- 'runglaw9.RetainLong', WHERE WHAT IT READS IS OF BULK AT MOST 1048576: true; the input reads as it did. -/
def retainLongUptoRow : OpenClaim := { program := "ytbcpmbggidemdaa", sum := "790e6525451d70bfc1d588ccce2ffde55ed5c9c40961b87bc1f0d421dd1ffeb0", func := "rung/runglaw9.RetainLong", spec := "retainLong", inPlace := ["sync/atomic.AddUint64", "sync/atomic.LoadUint64"], apart := false, narrowed := true }
def RetainLongUptoSaid : Prop := retainLongUptoRow.holds Try.pinned (OpenSpec.upto retainLongSpec)

/-- 'runglaw9.RetainOther', WHERE WHAT IT READS IS OF BULK AT MOST 1048576: true; the input reads as it did. -/
def retainOtherUptoRow : OpenClaim := { program := "ytbcpmbggidemdaa", sum := "790e6525451d70bfc1d588ccce2ffde55ed5c9c40961b87bc1f0d421dd1ffeb0", func := "rung/runglaw9.RetainOther", spec := "retainOther", inPlace := ["sync/atomic.AddUint64", "sync/atomic.LoadUint64"], apart := false, narrowed := true }
def RetainOtherUptoSaid : Prop := retainOtherUptoRow.holds Try.pinned (OpenSpec.upto retainOtherSpec)

/-- 'runglaw9.RetainPlays', WHERE WHAT IT READS IS OF BULK AT MOST 1048576: true; the input reads as it did. -/
def retainPlaysUptoRow : OpenClaim := { program := "ytbcpmbggidemdaa", sum := "790e6525451d70bfc1d588ccce2ffde55ed5c9c40961b87bc1f0d421dd1ffeb0", func := "rung/runglaw9.RetainPlays", spec := "retainPlays", inPlace := ["sync/atomic.AddUint64", "sync/atomic.LoadUint64"], apart := false, narrowed := true }
def RetainPlaysUptoSaid : Prop := retainPlaysUptoRow.holds Try.pinned (OpenSpec.upto retainPlaysSpec)

/-- 'runglaw9.RetainFirst', WHERE WHAT IT READS IS OF BULK AT MOST 1048576: true; the input reads as it did. -/
def retainFirstUptoRow : OpenClaim := { program := "ytbcpmbggidemdaa", sum := "790e6525451d70bfc1d588ccce2ffde55ed5c9c40961b87bc1f0d421dd1ffeb0", func := "rung/runglaw9.RetainFirst", spec := "retainFirst", inPlace := ["sync/atomic.AddUint64", "sync/atomic.LoadUint64"], apart := false, narrowed := true }
def RetainFirstUptoSaid : Prop := retainFirstUptoRow.holds Try.pinned (OpenSpec.upto retainFirstSpec)

/-- 'runglaw9.RetainSpoilt', WHERE WHAT IT READS IS OF BULK AT MOST 1048576: true; the input reads as it did. -/
def retainSpoiltUptoRow : OpenClaim := { program := "ytbcpmbggidemdaa", sum := "790e6525451d70bfc1d588ccce2ffde55ed5c9c40961b87bc1f0d421dd1ffeb0", func := "rung/runglaw9.RetainSpoilt", spec := "retainSpoilt", inPlace := ["sync/atomic.AddUint64", "sync/atomic.LoadUint64"], apart := false, narrowed := true }
def RetainSpoiltUptoSaid : Prop := retainSpoiltUptoRow.holds Try.pinned (OpenSpec.upto retainSpoiltSpec)

/-- 'runglaw9.RetainEvery', WHERE WHAT IT READS IS OF BULK AT MOST 1048576: true; the input reads as it did. -/
def retainEveryUptoRow : OpenClaim := { program := "ytbcpmbggidemdaa", sum := "790e6525451d70bfc1d588ccce2ffde55ed5c9c40961b87bc1f0d421dd1ffeb0", func := "rung/runglaw9.RetainEvery", spec := "retainEvery", inPlace := ["sync/atomic.AddUint64", "sync/atomic.LoadUint64"], apart := false, narrowed := true }
def RetainEveryUptoSaid : Prop := retainEveryUptoRow.holds Try.pinned (OpenSpec.upto retainEverySpec)

end Rows
end Go.Proofs.Ytbcpmbggidemdaa
