/-
  DERIVED. GIVEN WITH THE SEED: THE CARDS: each row of YtindiedfioiejaaDoorRows.lean that lists a variable, with what it lists TIED to the program's text (the seventh form; the later family's looks); each row that meets fmt, with fmt's text TOLD by the authors' own Lean function (tested against real Go, not proved from fmt's source: count such statements apart). THE CARD IS WHAT COUNTS. Prove the row's statement (the work); the ties are given (YtindiedfioiejaaDoorTie.lean); close each card by the builder's one call (the guide's Derived/Test/ToyasCard.lean, 'card_holds'). Laid BY PROGRAM, IN A SANDBOX (cutbox-door.mjs). By AI agents, Wed Nov 11 2026. No macro, syntax, notation, axiom, sorry.
-/
import Derived.Test.YtindiedfioiejaaDoorRows
import GoSem.ClaimSeven
namespace Go.Proofs.YtindiedfioiejaaDoor
namespace Rows

/-- THE TIED CARD OF 'runglaw17.FbSteps'. -/
def fbStepsCard : Claim7 := { stood := { row := fbStepsRow, standIns := [], harness := (true, "e55ef08f6da2cbf10fca0620f5f347679d23dc9344bbda273841735052c00611"), looks := false }, kinds := [], alts := [], laidByText := true, laidKinds := [.listed, .data], laidTests := true, laidLooks := .later }
def FbStepsCardSaid : Prop := Claim7.holds Tryd.pinned (.plain (OpenSpec.ofChange fbStepsSpec)) fbStepsCard

/-- THE TIED CARD OF 'runglaw17.FbTimers'. -/
def fbTimersCard : Claim7 := { stood := { row := fbTimersRow, standIns := [], harness := (true, "e55ef08f6da2cbf10fca0620f5f347679d23dc9344bbda273841735052c00611"), looks := false }, kinds := [], alts := [], laidByText := true, laidKinds := [.listed, .data], laidTests := true, laidLooks := .later }
def FbTimersCardSaid : Prop := Claim7.holds Tryd.pinned (.plain (OpenSpec.ofChange fbTimersSpec)) fbTimersCard

/-- THE TIED CARD OF 'runglaw17.FbDelays'. -/
def fbDelaysCard : Claim7 := { stood := { row := fbDelaysRow, standIns := [], harness := (true, "e55ef08f6da2cbf10fca0620f5f347679d23dc9344bbda273841735052c00611"), looks := false }, kinds := [], alts := [], laidByText := true, laidKinds := [.listed, .data], laidTests := true, laidLooks := .later }
def FbDelaysCardSaid : Prop := Claim7.holds Tryd.pinned (.plain (OpenSpec.ofChange fbDelaysSpec)) fbDelaysCard

/-- THE TIED CARD OF 'runglaw17.FbCounts'. -/
def fbCountsCard : Claim7 := { stood := { row := fbCountsRow, standIns := [], harness := (true, "e55ef08f6da2cbf10fca0620f5f347679d23dc9344bbda273841735052c00611"), looks := false }, kinds := [], alts := [], laidByText := true, laidKinds := [.listed, .data], laidTests := true, laidLooks := .later }
def FbCountsCardSaid : Prop := Claim7.holds Tryd.pinned (.plain (OpenSpec.ofChange fbCountsSpec)) fbCountsCard

/-- THE TIED CARD OF 'runglaw17.FbLatches'. -/
def fbLatchesCard : Claim7 := { stood := { row := fbLatchesRow, standIns := [], harness := (true, "e55ef08f6da2cbf10fca0620f5f347679d23dc9344bbda273841735052c00611"), looks := false }, kinds := [], alts := [], laidByText := true, laidKinds := [.listed, .data], laidTests := true, laidLooks := .later }
def FbLatchesCardSaid : Prop := Claim7.holds Tryd.pinned (.plain (OpenSpec.ofChange fbLatchesSpec)) fbLatchesCard

/-- THE TIED CARD OF 'runglaw17.FbApart'. -/
def fbApartCard : Claim7 := { stood := { row := fbApartRow, standIns := [], harness := (true, "e55ef08f6da2cbf10fca0620f5f347679d23dc9344bbda273841735052c00611"), looks := false }, kinds := [], alts := [], laidByText := true, laidKinds := [.listed, .data], laidTests := true, laidLooks := .later }
def FbApartCardSaid : Prop := Claim7.holds Tryd.pinned (.plain (OpenSpec.ofChange fbApartSpec)) fbApartCard

/-- THE TIED CARD OF 'runglaw17.FbBoth'. -/
def fbBothCard : Claim7 := { stood := { row := fbBothRow, standIns := [], harness := (true, "e55ef08f6da2cbf10fca0620f5f347679d23dc9344bbda273841735052c00611"), looks := false }, kinds := [], alts := [], laidByText := true, laidKinds := [.listed, .data], laidTests := true, laidLooks := .later }
def FbBothCardSaid : Prop := Claim7.holds Tryd.pinned (.plain (OpenSpec.ofChange fbBothSpec)) fbBothCard

/-- THE TIED CARD OF 'runglaw17.FbEver'. -/
def fbEverCard : Claim7 := { stood := { row := fbEverRow, standIns := [], harness := (true, "e55ef08f6da2cbf10fca0620f5f347679d23dc9344bbda273841735052c00611"), looks := false }, kinds := [], alts := [], laidByText := true, laidKinds := [.listed, .data], laidTests := true, laidLooks := .later }
def FbEverCardSaid : Prop := Claim7.holds Tryd.pinned (.plain (OpenSpec.ofChange fbEverSpec)) fbEverCard

/-- THE SECOND FORM's CARD OF 'runglaw17.FbSteps'. -/
def fbStepsUptoCard : Claim7 := { stood := { row := fbStepsUptoRow, standIns := [], harness := (true, "e55ef08f6da2cbf10fca0620f5f347679d23dc9344bbda273841735052c00611"), looks := false }, kinds := [], alts := [], laidByText := true, laidKinds := [.listed, .data], laidTests := true, laidLooks := .later }
def FbStepsUptoCardSaid : Prop := Claim7.holds Tryd.pinned (.plain (OpenSpec.upto fbStepsSpec)) fbStepsUptoCard

/-- THE SECOND FORM's CARD OF 'runglaw17.FbTimers'. -/
def fbTimersUptoCard : Claim7 := { stood := { row := fbTimersUptoRow, standIns := [], harness := (true, "e55ef08f6da2cbf10fca0620f5f347679d23dc9344bbda273841735052c00611"), looks := false }, kinds := [], alts := [], laidByText := true, laidKinds := [.listed, .data], laidTests := true, laidLooks := .later }
def FbTimersUptoCardSaid : Prop := Claim7.holds Tryd.pinned (.plain (OpenSpec.upto fbTimersSpec)) fbTimersUptoCard

/-- THE SECOND FORM's CARD OF 'runglaw17.FbDelays'. -/
def fbDelaysUptoCard : Claim7 := { stood := { row := fbDelaysUptoRow, standIns := [], harness := (true, "e55ef08f6da2cbf10fca0620f5f347679d23dc9344bbda273841735052c00611"), looks := false }, kinds := [], alts := [], laidByText := true, laidKinds := [.listed, .data], laidTests := true, laidLooks := .later }
def FbDelaysUptoCardSaid : Prop := Claim7.holds Tryd.pinned (.plain (OpenSpec.upto fbDelaysSpec)) fbDelaysUptoCard

/-- THE SECOND FORM's CARD OF 'runglaw17.FbCounts'. -/
def fbCountsUptoCard : Claim7 := { stood := { row := fbCountsUptoRow, standIns := [], harness := (true, "e55ef08f6da2cbf10fca0620f5f347679d23dc9344bbda273841735052c00611"), looks := false }, kinds := [], alts := [], laidByText := true, laidKinds := [.listed, .data], laidTests := true, laidLooks := .later }
def FbCountsUptoCardSaid : Prop := Claim7.holds Tryd.pinned (.plain (OpenSpec.upto fbCountsSpec)) fbCountsUptoCard

/-- THE SECOND FORM's CARD OF 'runglaw17.FbLatches'. -/
def fbLatchesUptoCard : Claim7 := { stood := { row := fbLatchesUptoRow, standIns := [], harness := (true, "e55ef08f6da2cbf10fca0620f5f347679d23dc9344bbda273841735052c00611"), looks := false }, kinds := [], alts := [], laidByText := true, laidKinds := [.listed, .data], laidTests := true, laidLooks := .later }
def FbLatchesUptoCardSaid : Prop := Claim7.holds Tryd.pinned (.plain (OpenSpec.upto fbLatchesSpec)) fbLatchesUptoCard

/-- THE SECOND FORM's CARD OF 'runglaw17.FbApart'. -/
def fbApartUptoCard : Claim7 := { stood := { row := fbApartUptoRow, standIns := [], harness := (true, "e55ef08f6da2cbf10fca0620f5f347679d23dc9344bbda273841735052c00611"), looks := false }, kinds := [], alts := [], laidByText := true, laidKinds := [.listed, .data], laidTests := true, laidLooks := .later }
def FbApartUptoCardSaid : Prop := Claim7.holds Tryd.pinned (.plain (OpenSpec.upto fbApartSpec)) fbApartUptoCard

/-- THE SECOND FORM's CARD OF 'runglaw17.FbBoth'. -/
def fbBothUptoCard : Claim7 := { stood := { row := fbBothUptoRow, standIns := [], harness := (true, "e55ef08f6da2cbf10fca0620f5f347679d23dc9344bbda273841735052c00611"), looks := false }, kinds := [], alts := [], laidByText := true, laidKinds := [.listed, .data], laidTests := true, laidLooks := .later }
def FbBothUptoCardSaid : Prop := Claim7.holds Tryd.pinned (.plain (OpenSpec.upto fbBothSpec)) fbBothUptoCard

/-- THE SECOND FORM's CARD OF 'runglaw17.FbEver'. -/
def fbEverUptoCard : Claim7 := { stood := { row := fbEverUptoRow, standIns := [], harness := (true, "e55ef08f6da2cbf10fca0620f5f347679d23dc9344bbda273841735052c00611"), looks := false }, kinds := [], alts := [], laidByText := true, laidKinds := [.listed, .data], laidTests := true, laidLooks := .later }
def FbEverUptoCardSaid : Prop := Claim7.holds Tryd.pinned (.plain (OpenSpec.upto fbEverSpec)) fbEverUptoCard
end Rows
end Go.Proofs.YtindiedfioiejaaDoor
