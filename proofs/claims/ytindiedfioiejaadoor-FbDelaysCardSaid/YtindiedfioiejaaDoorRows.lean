/-
  NARROWER THAN 'FOR EVERY INPUT', by the rows' own cells (each row's printed sentence says how): FbSteps: laid · FbTimers: laid · FbDelays: laid · FbCounts: laid · FbLatches: laid · FbApart: laid · FbBoth: laid · FbEver: laid.
  DERIVED. THE GIVEN ROWS OF THIS SEAT. 8 by the template 'for every input the law returns true; each argument reads behind the call as it read before'; 0 by the template 'total and deterministic' (their statements: YtindiedfioiejaaDoorTotals.lean).
  GIVEN WITH THE SEED: the statements are not yours to turn. If you find one false, say at which input.
  Laid BY PROGRAM, IN A SANDBOX (cutbox-rows.mjs): the forced cells as the released guide's own fill.sh prints them over the translation 14cdaa3aacda47b2… (all of the seat's roots in one cut). By AI agents, Wed Nov 11 2026. No macro, syntax, notation, axiom, sorry.
-/
import Derived.Test.YtindiedfioiejaaDoorChecked
import GoSem.Claim
import GoSem.ClaimJoined
import GoSem.ClaimMapViews
import Derived.JoinedTies
import Derived.KernelRfl
namespace Go.Proofs.YtindiedfioiejaaDoor
/- THE CELL 'sum', in the pinned program and in every row, IS THE sha256 OF THE DUMP (.gsa) THAT YtindiedfioiejaaDoorProg.lean LOADS. Nothing in Lean hashes anything: it is a label: what it is worth is what the hold of that sum in a sandbox is worth. -/
noncomputable def Tryd.pinned : Pinned := { name := "ytindiedfioiejaadoor", sum := "14cdaa3aacda47b2bce3878015785a50b3bae70acd32538f0e31971b3263cfcc", checked := Tryd.checked }
namespace Rows
def none {H : Type} : Left H := { results := [], args := [] }

/- WHAT THE LISTED PACKAGE-LEVEL VARIABLES READ AS WHEN THE CALL BEGINS. Each datum BY PROGRAM (the guide's laid-datum.mjs) off the statement by which the dump's own 'gosem.cut.vars' lays the variable. In a bare row this is a premise. The card (YtindiedfioiejaaDoorCards.lean) ties it to the program's text. -/
def laid_unicode_White_Space {H : Type} : DataW H := .ptr (.agg [.slice [.agg [.lit (.int .u16 9), .lit (.int .u16 13), .lit (.int .u16 1)], .agg [.lit (.int .u16 32), .lit (.int .u16 133), .lit (.int .u16 101)], .agg [.lit (.int .u16 160), .lit (.int .u16 5760), .lit (.int .u16 5600)], .agg [.lit (.int .u16 8192), .lit (.int .u16 8202), .lit (.int .u16 1)], .agg [.lit (.int .u16 8232), .lit (.int .u16 8233), .lit (.int .u16 1)], .agg [.lit (.int .u16 8239), .lit (.int .u16 8287), .lit (.int .u16 48)], .agg [.lit (.int .u16 12288), .lit (.int .u16 12288), .lit (.int .u16 1)]] [], .nil, .lit (.int .i64 2)])
def laid_strings_asciiSpace {H : Type} : DataW H := .agg [.lit (.int .u8 0), .lit (.int .u8 0), .lit (.int .u8 0), .lit (.int .u8 0), .lit (.int .u8 0), .lit (.int .u8 0), .lit (.int .u8 0), .lit (.int .u8 0), .lit (.int .u8 0), .lit (.int .u8 1), .lit (.int .u8 1), .lit (.int .u8 1), .lit (.int .u8 1), .lit (.int .u8 1), .lit (.int .u8 0), .lit (.int .u8 0), .lit (.int .u8 0), .lit (.int .u8 0), .lit (.int .u8 0), .lit (.int .u8 0), .lit (.int .u8 0), .lit (.int .u8 0), .lit (.int .u8 0), .lit (.int .u8 0), .lit (.int .u8 0), .lit (.int .u8 0), .lit (.int .u8 0), .lit (.int .u8 0), .lit (.int .u8 0), .lit (.int .u8 0), .lit (.int .u8 0), .lit (.int .u8 0), .lit (.int .u8 1), .lit (.int .u8 0), .lit (.int .u8 0), .lit (.int .u8 0), .lit (.int .u8 0), .lit (.int .u8 0), .lit (.int .u8 0), .lit (.int .u8 0), .lit (.int .u8 0), .lit (.int .u8 0), .lit (.int .u8 0), .lit (.int .u8 0), .lit (.int .u8 0), .lit (.int .u8 0), .lit (.int .u8 0), .lit (.int .u8 0), .lit (.int .u8 0), .lit (.int .u8 0), .lit (.int .u8 0), .lit (.int .u8 0), .lit (.int .u8 0), .lit (.int .u8 0), .lit (.int .u8 0), .lit (.int .u8 0), .lit (.int .u8 0), .lit (.int .u8 0), .lit (.int .u8 0), .lit (.int .u8 0), .lit (.int .u8 0), .lit (.int .u8 0), .lit (.int .u8 0), .lit (.int .u8 0), .lit (.int .u8 0), .lit (.int .u8 0), .lit (.int .u8 0), .lit (.int .u8 0), .lit (.int .u8 0), .lit (.int .u8 0), .lit (.int .u8 0), .lit (.int .u8 0), .lit (.int .u8 0), .lit (.int .u8 0), .lit (.int .u8 0), .lit (.int .u8 0), .lit (.int .u8 0), .lit (.int .u8 0), .lit (.int .u8 0), .lit (.int .u8 0), .lit (.int .u8 0), .lit (.int .u8 0), .lit (.int .u8 0), .lit (.int .u8 0), .lit (.int .u8 0), .lit (.int .u8 0), .lit (.int .u8 0), .lit (.int .u8 0), .lit (.int .u8 0), .lit (.int .u8 0), .lit (.int .u8 0), .lit (.int .u8 0), .lit (.int .u8 0), .lit (.int .u8 0), .lit (.int .u8 0), .lit (.int .u8 0), .lit (.int .u8 0), .lit (.int .u8 0), .lit (.int .u8 0), .lit (.int .u8 0), .lit (.int .u8 0), .lit (.int .u8 0), .lit (.int .u8 0), .lit (.int .u8 0), .lit (.int .u8 0), .lit (.int .u8 0), .lit (.int .u8 0), .lit (.int .u8 0), .lit (.int .u8 0), .lit (.int .u8 0), .lit (.int .u8 0), .lit (.int .u8 0), .lit (.int .u8 0), .lit (.int .u8 0), .lit (.int .u8 0), .lit (.int .u8 0), .lit (.int .u8 0), .lit (.int .u8 0), .lit (.int .u8 0), .lit (.int .u8 0), .lit (.int .u8 0), .lit (.int .u8 0), .lit (.int .u8 0), .lit (.int .u8 0), .lit (.int .u8 0), .lit (.int .u8 0), .lit (.int .u8 0), .lit (.int .u8 0), .lit (.int .u8 0), .lit (.int .u8 0), .lit (.int .u8 0), .lit (.int .u8 0), .lit (.int .u8 0), .lit (.int .u8 0), .lit (.int .u8 0), .lit (.int .u8 0), .lit (.int .u8 0), .lit (.int .u8 0), .lit (.int .u8 0), .lit (.int .u8 0), .lit (.int .u8 0), .lit (.int .u8 0), .lit (.int .u8 0), .lit (.int .u8 0), .lit (.int .u8 0), .lit (.int .u8 0), .lit (.int .u8 0), .lit (.int .u8 0), .lit (.int .u8 0), .lit (.int .u8 0), .lit (.int .u8 0), .lit (.int .u8 0), .lit (.int .u8 0), .lit (.int .u8 0), .lit (.int .u8 0), .lit (.int .u8 0), .lit (.int .u8 0), .lit (.int .u8 0), .lit (.int .u8 0), .lit (.int .u8 0), .lit (.int .u8 0), .lit (.int .u8 0), .lit (.int .u8 0), .lit (.int .u8 0), .lit (.int .u8 0), .lit (.int .u8 0), .lit (.int .u8 0), .lit (.int .u8 0), .lit (.int .u8 0), .lit (.int .u8 0), .lit (.int .u8 0), .lit (.int .u8 0), .lit (.int .u8 0), .lit (.int .u8 0), .lit (.int .u8 0), .lit (.int .u8 0), .lit (.int .u8 0), .lit (.int .u8 0), .lit (.int .u8 0), .lit (.int .u8 0), .lit (.int .u8 0), .lit (.int .u8 0), .lit (.int .u8 0), .lit (.int .u8 0), .lit (.int .u8 0), .lit (.int .u8 0), .lit (.int .u8 0), .lit (.int .u8 0), .lit (.int .u8 0), .lit (.int .u8 0), .lit (.int .u8 0), .lit (.int .u8 0), .lit (.int .u8 0), .lit (.int .u8 0), .lit (.int .u8 0), .lit (.int .u8 0), .lit (.int .u8 0), .lit (.int .u8 0), .lit (.int .u8 0), .lit (.int .u8 0), .lit (.int .u8 0), .lit (.int .u8 0), .lit (.int .u8 0), .lit (.int .u8 0), .lit (.int .u8 0), .lit (.int .u8 0), .lit (.int .u8 0), .lit (.int .u8 0), .lit (.int .u8 0), .lit (.int .u8 0), .lit (.int .u8 0), .lit (.int .u8 0), .lit (.int .u8 0), .lit (.int .u8 0), .lit (.int .u8 0), .lit (.int .u8 0), .lit (.int .u8 0), .lit (.int .u8 0), .lit (.int .u8 0), .lit (.int .u8 0), .lit (.int .u8 0), .lit (.int .u8 0), .lit (.int .u8 0), .lit (.int .u8 0), .lit (.int .u8 0), .lit (.int .u8 0), .lit (.int .u8 0), .lit (.int .u8 0), .lit (.int .u8 0), .lit (.int .u8 0), .lit (.int .u8 0), .lit (.int .u8 0), .lit (.int .u8 0), .lit (.int .u8 0), .lit (.int .u8 0), .lit (.int .u8 0), .lit (.int .u8 0), .lit (.int .u8 0), .lit (.int .u8 0), .lit (.int .u8 0), .lit (.int .u8 0), .lit (.int .u8 0), .lit (.int .u8 0), .lit (.int .u8 0), .lit (.int .u8 0), .lit (.int .u8 0), .lit (.int .u8 0), .lit (.int .u8 0), .lit (.int .u8 0), .lit (.int .u8 0), .lit (.int .u8 0), .lit (.int .u8 0), .lit (.int .u8 0), .lit (.int .u8 0), .lit (.int .u8 0), .lit (.int .u8 0)]

/-- 'runglaw17.FbSteps': WHATEVER THE INPUT: true; the input reads as it did. -/
def fbStepsSpec : ChangeSpec := { name := "fbSteps", fn := fun _ => fun
  | [d1, d2, d3, d4, d5, d6] => { results := [.lit (.bool true)], args := [d1, d2, d3, d4, d5, d6] }
  | _ => none }
def fbStepsRow : OpenClaim := { program := "ytindiedfioiejaadoor", sum := "14cdaa3aacda47b2bce3878015785a50b3bae70acd32538f0e31971b3263cfcc", func := "rung/runglaw17.FbSteps", spec := "fbSteps", unfollowed := true, recurses := true, named := ["strings.asciiSpace", "unicode.White_Space"], apart := false, laid := [("unicode.White_Space", laid_unicode_White_Space), ("strings.asciiSpace", laid_strings_asciiSpace)] }
def FbStepsSaid : Prop := fbStepsRow.holds Tryd.pinned (OpenSpec.ofChange fbStepsSpec)

/-- ITS FALSE NEIGHBOUR: 'it returns false'. Refute it at one input. -/
def fbStepsWrong : ChangeSpec := { name := "fbSteps", fn := fun _ => fun
  | [d1, d2, d3, d4, d5, d6] => { results := [.lit (.bool false)], args := [d1, d2, d3, d4, d5, d6] }
  | _ => none }
def FbStepsWrongFalsely : Prop := fbStepsRow.holds Tryd.pinned (OpenSpec.ofChange fbStepsWrong)

/-- 'runglaw17.FbTimers': WHATEVER THE INPUT: true; the input reads as it did. -/
def fbTimersSpec : ChangeSpec := { name := "fbTimers", fn := fun _ => fun
  | [d1, d2, d3, d4, d5, d6] => { results := [.lit (.bool true)], args := [d1, d2, d3, d4, d5, d6] }
  | _ => none }
def fbTimersRow : OpenClaim := { program := "ytindiedfioiejaadoor", sum := "14cdaa3aacda47b2bce3878015785a50b3bae70acd32538f0e31971b3263cfcc", func := "rung/runglaw17.FbTimers", spec := "fbTimers", unfollowed := true, recurses := true, named := ["strings.asciiSpace", "unicode.White_Space"], apart := false, laid := [("unicode.White_Space", laid_unicode_White_Space), ("strings.asciiSpace", laid_strings_asciiSpace)] }
def FbTimersSaid : Prop := fbTimersRow.holds Tryd.pinned (OpenSpec.ofChange fbTimersSpec)

/-- ITS FALSE NEIGHBOUR: 'it returns false'. Refute it at one input. -/
def fbTimersWrong : ChangeSpec := { name := "fbTimers", fn := fun _ => fun
  | [d1, d2, d3, d4, d5, d6] => { results := [.lit (.bool false)], args := [d1, d2, d3, d4, d5, d6] }
  | _ => none }
def FbTimersWrongFalsely : Prop := fbTimersRow.holds Tryd.pinned (OpenSpec.ofChange fbTimersWrong)

/-- 'runglaw17.FbDelays': WHATEVER THE INPUT: true; the input reads as it did. -/
def fbDelaysSpec : ChangeSpec := { name := "fbDelays", fn := fun _ => fun
  | [d1, d2, d3] => { results := [.lit (.bool true)], args := [d1, d2, d3] }
  | _ => none }
def fbDelaysRow : OpenClaim := { program := "ytindiedfioiejaadoor", sum := "14cdaa3aacda47b2bce3878015785a50b3bae70acd32538f0e31971b3263cfcc", func := "rung/runglaw17.FbDelays", spec := "fbDelays", unfollowed := true, recurses := true, named := ["strings.asciiSpace", "unicode.White_Space"], apart := false, laid := [("unicode.White_Space", laid_unicode_White_Space), ("strings.asciiSpace", laid_strings_asciiSpace)] }
def FbDelaysSaid : Prop := fbDelaysRow.holds Tryd.pinned (OpenSpec.ofChange fbDelaysSpec)

/-- ITS FALSE NEIGHBOUR: 'it returns false'. Refute it at one input. -/
def fbDelaysWrong : ChangeSpec := { name := "fbDelays", fn := fun _ => fun
  | [d1, d2, d3] => { results := [.lit (.bool false)], args := [d1, d2, d3] }
  | _ => none }
def FbDelaysWrongFalsely : Prop := fbDelaysRow.holds Tryd.pinned (OpenSpec.ofChange fbDelaysWrong)

/-- 'runglaw17.FbCounts': WHATEVER THE INPUT: true; the input reads as it did. -/
def fbCountsSpec : ChangeSpec := { name := "fbCounts", fn := fun _ => fun
  | [d1, d2, d3, d4] => { results := [.lit (.bool true)], args := [d1, d2, d3, d4] }
  | _ => none }
def fbCountsRow : OpenClaim := { program := "ytindiedfioiejaadoor", sum := "14cdaa3aacda47b2bce3878015785a50b3bae70acd32538f0e31971b3263cfcc", func := "rung/runglaw17.FbCounts", spec := "fbCounts", unfollowed := true, recurses := true, named := ["strings.asciiSpace", "unicode.White_Space"], apart := false, laid := [("unicode.White_Space", laid_unicode_White_Space), ("strings.asciiSpace", laid_strings_asciiSpace)] }
def FbCountsSaid : Prop := fbCountsRow.holds Tryd.pinned (OpenSpec.ofChange fbCountsSpec)

/-- ITS FALSE NEIGHBOUR: 'it returns false'. Refute it at one input. -/
def fbCountsWrong : ChangeSpec := { name := "fbCounts", fn := fun _ => fun
  | [d1, d2, d3, d4] => { results := [.lit (.bool false)], args := [d1, d2, d3, d4] }
  | _ => none }
def FbCountsWrongFalsely : Prop := fbCountsRow.holds Tryd.pinned (OpenSpec.ofChange fbCountsWrong)

/-- 'runglaw17.FbLatches': WHATEVER THE INPUT: true; the input reads as it did. -/
def fbLatchesSpec : ChangeSpec := { name := "fbLatches", fn := fun _ => fun
  | [d] => { results := [.lit (.bool true)], args := [d] }
  | _ => none }
def fbLatchesRow : OpenClaim := { program := "ytindiedfioiejaadoor", sum := "14cdaa3aacda47b2bce3878015785a50b3bae70acd32538f0e31971b3263cfcc", func := "rung/runglaw17.FbLatches", spec := "fbLatches", unfollowed := true, recurses := true, named := ["strings.asciiSpace", "unicode.White_Space"], apart := false, laid := [("unicode.White_Space", laid_unicode_White_Space), ("strings.asciiSpace", laid_strings_asciiSpace)] }
def FbLatchesSaid : Prop := fbLatchesRow.holds Tryd.pinned (OpenSpec.ofChange fbLatchesSpec)

/-- ITS FALSE NEIGHBOUR: 'it returns false'. Refute it at one input. -/
def fbLatchesWrong : ChangeSpec := { name := "fbLatches", fn := fun _ => fun
  | [d] => { results := [.lit (.bool false)], args := [d] }
  | _ => none }
def FbLatchesWrongFalsely : Prop := fbLatchesRow.holds Tryd.pinned (OpenSpec.ofChange fbLatchesWrong)

/-- 'runglaw17.FbApart': WHATEVER THE INPUT: true; the input reads as it did. -/
def fbApartSpec : ChangeSpec := { name := "fbApart", fn := fun _ => fun
  | [d1, d2, d3, d4, d5] => { results := [.lit (.bool true)], args := [d1, d2, d3, d4, d5] }
  | _ => none }
def fbApartRow : OpenClaim := { program := "ytindiedfioiejaadoor", sum := "14cdaa3aacda47b2bce3878015785a50b3bae70acd32538f0e31971b3263cfcc", func := "rung/runglaw17.FbApart", spec := "fbApart", unfollowed := true, recurses := true, named := ["strings.asciiSpace", "unicode.White_Space"], apart := false, laid := [("unicode.White_Space", laid_unicode_White_Space), ("strings.asciiSpace", laid_strings_asciiSpace)] }
def FbApartSaid : Prop := fbApartRow.holds Tryd.pinned (OpenSpec.ofChange fbApartSpec)

/-- ITS FALSE NEIGHBOUR: 'it returns false'. Refute it at one input. -/
def fbApartWrong : ChangeSpec := { name := "fbApart", fn := fun _ => fun
  | [d1, d2, d3, d4, d5] => { results := [.lit (.bool false)], args := [d1, d2, d3, d4, d5] }
  | _ => none }
def FbApartWrongFalsely : Prop := fbApartRow.holds Tryd.pinned (OpenSpec.ofChange fbApartWrong)

/-- 'runglaw17.FbBoth': WHATEVER THE INPUT: true; the input reads as it did. -/
def fbBothSpec : ChangeSpec := { name := "fbBoth", fn := fun _ => fun
  | [d1, d2, d3] => { results := [.lit (.bool true)], args := [d1, d2, d3] }
  | _ => none }
def fbBothRow : OpenClaim := { program := "ytindiedfioiejaadoor", sum := "14cdaa3aacda47b2bce3878015785a50b3bae70acd32538f0e31971b3263cfcc", func := "rung/runglaw17.FbBoth", spec := "fbBoth", unfollowed := true, recurses := true, named := ["strings.asciiSpace", "unicode.White_Space"], apart := false, laid := [("unicode.White_Space", laid_unicode_White_Space), ("strings.asciiSpace", laid_strings_asciiSpace)] }
def FbBothSaid : Prop := fbBothRow.holds Tryd.pinned (OpenSpec.ofChange fbBothSpec)

/-- ITS FALSE NEIGHBOUR: 'it returns false'. Refute it at one input. -/
def fbBothWrong : ChangeSpec := { name := "fbBoth", fn := fun _ => fun
  | [d1, d2, d3] => { results := [.lit (.bool false)], args := [d1, d2, d3] }
  | _ => none }
def FbBothWrongFalsely : Prop := fbBothRow.holds Tryd.pinned (OpenSpec.ofChange fbBothWrong)

/-- 'runglaw17.FbEver': WHATEVER THE INPUT: true; the input reads as it did. -/
def fbEverSpec : ChangeSpec := { name := "fbEver", fn := fun _ => fun
  | [d1, d2] => { results := [.lit (.bool true)], args := [d1, d2] }
  | _ => none }
def fbEverRow : OpenClaim := { program := "ytindiedfioiejaadoor", sum := "14cdaa3aacda47b2bce3878015785a50b3bae70acd32538f0e31971b3263cfcc", func := "rung/runglaw17.FbEver", spec := "fbEver", unfollowed := true, recurses := true, named := ["strings.asciiSpace", "unicode.White_Space"], apart := false, laid := [("unicode.White_Space", laid_unicode_White_Space), ("strings.asciiSpace", laid_strings_asciiSpace)] }
def FbEverSaid : Prop := fbEverRow.holds Tryd.pinned (OpenSpec.ofChange fbEverSpec)

/-- ITS FALSE NEIGHBOUR: 'it returns false'. Refute it at one input. -/
def fbEverWrong : ChangeSpec := { name := "fbEver", fn := fun _ => fun
  | [d1, d2] => { results := [.lit (.bool false)], args := [d1, d2] }
  | _ => none }
def FbEverWrongFalsely : Prop := fbEverRow.holds Tryd.pinned (OpenSpec.ofChange fbEverWrong)

/- THE SECOND FORM. 'bulk': how many values and letters a reading holds, each counted each time it is reached (what is shared counts as often as it is met; a slice's spare places count too). A statement '..UptoSaid' is the law's where the arguments, and the package variables that the reading takes, are together of bulk at most 1048576: NARROWER than '..Said'. Prove '..Said' where nothing that the law and all that it calls make is longer than what came in: it says more and counts as full. Else prove '..UptoSaid'. A law counts once. -/
mutual
def uptoBulk {H : Type} : DataW H → Nat
  | .lit (.string bytes) => bytes.length + 1
  | .lit _ => 1
  | .nil => 1
  | .ptr d => uptoBulk d + 1
  | .slice elems spare => uptoBulkAll elems + uptoBulkAll spare + 1
  | .agg parts => uptoBulkAll parts + 1
  | .iface _ d => uptoBulk d + 1
  | .map entries => uptoBulkEntries entries + 1
  | .held _ => 1
def uptoBulkAll {H : Type} : List (DataW H) → Nat
  | [] => 0
  | d :: r => uptoBulk d + uptoBulkAll r
def uptoBulkEntries {H : Type} : List (Lit × DataW H) → Nat
  | [] => 0
  | x :: r => uptoBulkEntry x + uptoBulkEntries r
def uptoBulkEntry {H : Type} : Lit × DataW H → Nat
  | (.string bytes, d) => bytes.length + uptoBulk d + 1
  | (_, d) => uptoBulk d + 1
 end
def uptoSmall : (H : Type) → List (DataW H) → Bool := fun _ ds => decide (uptoBulkAll ds ≤ 1048576)
def OpenSpec.upto (s : _root_.Go.ChangeSpec) : _root_.Go.OpenSpec := { _root_.Go.OpenSpec.ofChange s with cond := some uptoSmall }

/-- 'runglaw17.FbSteps', WHERE WHAT IT READS IS OF BULK AT MOST 1048576: true; the input reads as it did. -/
def fbStepsUptoRow : OpenClaim := { program := "ytindiedfioiejaadoor", sum := "14cdaa3aacda47b2bce3878015785a50b3bae70acd32538f0e31971b3263cfcc", func := "rung/runglaw17.FbSteps", spec := "fbSteps", unfollowed := true, recurses := true, named := ["strings.asciiSpace", "unicode.White_Space"], apart := false, laid := [("unicode.White_Space", laid_unicode_White_Space), ("strings.asciiSpace", laid_strings_asciiSpace)], narrowed := true }
def FbStepsUptoSaid : Prop := fbStepsUptoRow.holds Tryd.pinned (OpenSpec.upto fbStepsSpec)

/-- 'runglaw17.FbTimers', WHERE WHAT IT READS IS OF BULK AT MOST 1048576: true; the input reads as it did. -/
def fbTimersUptoRow : OpenClaim := { program := "ytindiedfioiejaadoor", sum := "14cdaa3aacda47b2bce3878015785a50b3bae70acd32538f0e31971b3263cfcc", func := "rung/runglaw17.FbTimers", spec := "fbTimers", unfollowed := true, recurses := true, named := ["strings.asciiSpace", "unicode.White_Space"], apart := false, laid := [("unicode.White_Space", laid_unicode_White_Space), ("strings.asciiSpace", laid_strings_asciiSpace)], narrowed := true }
def FbTimersUptoSaid : Prop := fbTimersUptoRow.holds Tryd.pinned (OpenSpec.upto fbTimersSpec)

/-- 'runglaw17.FbDelays', WHERE WHAT IT READS IS OF BULK AT MOST 1048576: true; the input reads as it did. -/
def fbDelaysUptoRow : OpenClaim := { program := "ytindiedfioiejaadoor", sum := "14cdaa3aacda47b2bce3878015785a50b3bae70acd32538f0e31971b3263cfcc", func := "rung/runglaw17.FbDelays", spec := "fbDelays", unfollowed := true, recurses := true, named := ["strings.asciiSpace", "unicode.White_Space"], apart := false, laid := [("unicode.White_Space", laid_unicode_White_Space), ("strings.asciiSpace", laid_strings_asciiSpace)], narrowed := true }
def FbDelaysUptoSaid : Prop := fbDelaysUptoRow.holds Tryd.pinned (OpenSpec.upto fbDelaysSpec)

/-- 'runglaw17.FbCounts', WHERE WHAT IT READS IS OF BULK AT MOST 1048576: true; the input reads as it did. -/
def fbCountsUptoRow : OpenClaim := { program := "ytindiedfioiejaadoor", sum := "14cdaa3aacda47b2bce3878015785a50b3bae70acd32538f0e31971b3263cfcc", func := "rung/runglaw17.FbCounts", spec := "fbCounts", unfollowed := true, recurses := true, named := ["strings.asciiSpace", "unicode.White_Space"], apart := false, laid := [("unicode.White_Space", laid_unicode_White_Space), ("strings.asciiSpace", laid_strings_asciiSpace)], narrowed := true }
def FbCountsUptoSaid : Prop := fbCountsUptoRow.holds Tryd.pinned (OpenSpec.upto fbCountsSpec)

/-- 'runglaw17.FbLatches', WHERE WHAT IT READS IS OF BULK AT MOST 1048576: true; the input reads as it did. -/
def fbLatchesUptoRow : OpenClaim := { program := "ytindiedfioiejaadoor", sum := "14cdaa3aacda47b2bce3878015785a50b3bae70acd32538f0e31971b3263cfcc", func := "rung/runglaw17.FbLatches", spec := "fbLatches", unfollowed := true, recurses := true, named := ["strings.asciiSpace", "unicode.White_Space"], apart := false, laid := [("unicode.White_Space", laid_unicode_White_Space), ("strings.asciiSpace", laid_strings_asciiSpace)], narrowed := true }
def FbLatchesUptoSaid : Prop := fbLatchesUptoRow.holds Tryd.pinned (OpenSpec.upto fbLatchesSpec)

/-- 'runglaw17.FbApart', WHERE WHAT IT READS IS OF BULK AT MOST 1048576: true; the input reads as it did. -/
def fbApartUptoRow : OpenClaim := { program := "ytindiedfioiejaadoor", sum := "14cdaa3aacda47b2bce3878015785a50b3bae70acd32538f0e31971b3263cfcc", func := "rung/runglaw17.FbApart", spec := "fbApart", unfollowed := true, recurses := true, named := ["strings.asciiSpace", "unicode.White_Space"], apart := false, laid := [("unicode.White_Space", laid_unicode_White_Space), ("strings.asciiSpace", laid_strings_asciiSpace)], narrowed := true }
def FbApartUptoSaid : Prop := fbApartUptoRow.holds Tryd.pinned (OpenSpec.upto fbApartSpec)

/-- 'runglaw17.FbBoth', WHERE WHAT IT READS IS OF BULK AT MOST 1048576: true; the input reads as it did. -/
def fbBothUptoRow : OpenClaim := { program := "ytindiedfioiejaadoor", sum := "14cdaa3aacda47b2bce3878015785a50b3bae70acd32538f0e31971b3263cfcc", func := "rung/runglaw17.FbBoth", spec := "fbBoth", unfollowed := true, recurses := true, named := ["strings.asciiSpace", "unicode.White_Space"], apart := false, laid := [("unicode.White_Space", laid_unicode_White_Space), ("strings.asciiSpace", laid_strings_asciiSpace)], narrowed := true }
def FbBothUptoSaid : Prop := fbBothUptoRow.holds Tryd.pinned (OpenSpec.upto fbBothSpec)

/-- 'runglaw17.FbEver', WHERE WHAT IT READS IS OF BULK AT MOST 1048576: true; the input reads as it did. -/
def fbEverUptoRow : OpenClaim := { program := "ytindiedfioiejaadoor", sum := "14cdaa3aacda47b2bce3878015785a50b3bae70acd32538f0e31971b3263cfcc", func := "rung/runglaw17.FbEver", spec := "fbEver", unfollowed := true, recurses := true, named := ["strings.asciiSpace", "unicode.White_Space"], apart := false, laid := [("unicode.White_Space", laid_unicode_White_Space), ("strings.asciiSpace", laid_strings_asciiSpace)], narrowed := true }
def FbEverUptoSaid : Prop := fbEverUptoRow.holds Tryd.pinned (OpenSpec.upto fbEverSpec)

end Rows
end Go.Proofs.YtindiedfioiejaaDoor
