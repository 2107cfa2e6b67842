/-
  DERIVED. GIVEN WITH THE SEED: THE CARDS: each row of YtppfbpckgfkhfaaGreatDoorRows.lean that lists a variable, with what it lists TIED to the program's text (the seventh form; the later family's looks); each row that meets fmt, with fmt's text TOLD by the authors' own Lean function (tested against real Go, not proved from fmt's source: count such statements apart). THE CARD IS WHAT COUNTS. Prove the row's statement (the work); the ties are given (YtppfbpckgfkhfaaGreatDoorTie.lean); close each card by the builder's one call (the guide's Derived/Test/ToyasCard.lean, 'card_holds'). Laid BY PROGRAM, IN A SANDBOX (cutbox-door.mjs). By AI agents, Wed Nov 11 2026. No macro, syntax, notation, axiom, sorry.
-/
import Derived.Test.YtppfbpckgfkhfaaGreatDoorRows
import GoSem.ClaimSeven
namespace Go.Proofs.YtppfbpckgfkhfaaGreatDoor
namespace Rows

/-- THE TIED CARD OF 'pluviallaw26.ReportNames'. -/
def reportNamesCard : Claim7 := { stood := { row := reportNamesRow, standIns := [], harness := (true, "efaa04d609dc54a00d5ce049d434395ba5210d18dfa21ccb42063d86f5ee4136"), looks := true }, kinds := [], alts := [], laidByText := true, laidKinds := [.data, .data, .data, .sentinel, .sentinel, .data, .data], laidTests := true, laidLooks := .later }
def ReportNamesCardSaid : Prop := Claim7.holds Tryz.pinned (.plain (OpenSpec.ofChange reportNamesSpec)) reportNamesCard

/-- THE TIED CARD OF 'pluviallaw26.ReportBuckets'. -/
def reportBucketsCard : Claim7 := { stood := { row := reportBucketsRow, standIns := [], harness := (true, "efaa04d609dc54a00d5ce049d434395ba5210d18dfa21ccb42063d86f5ee4136"), looks := true }, kinds := [], alts := [], laidByText := true, laidKinds := [.data, .data, .data, .data, .sentinel, .sentinel, .widerDeep, .data, .data, .pinned], laidTests := true, laidLooks := .later }
def ReportBucketsCardSaid : Prop := Claim7.holds Tryz.pinned (.plain (OpenSpec.ofChange reportBucketsSpec)) reportBucketsCard

/-- THE SECOND FORM's CARD OF 'pluviallaw26.ReportNames'. -/
def reportNamesUptoCard : Claim7 := { stood := { row := reportNamesUptoRow, standIns := [], harness := (true, "efaa04d609dc54a00d5ce049d434395ba5210d18dfa21ccb42063d86f5ee4136"), looks := true }, kinds := [], alts := [], laidByText := true, laidKinds := [.data, .data, .data, .sentinel, .sentinel, .data, .data], laidTests := true, laidLooks := .later }
def ReportNamesUptoCardSaid : Prop := Claim7.holds Tryz.pinned (.plain (OpenSpec.upto reportNamesSpec)) reportNamesUptoCard

/-- THE SECOND FORM's CARD OF 'pluviallaw26.ReportBuckets'. -/
def reportBucketsUptoCard : Claim7 := { stood := { row := reportBucketsUptoRow, standIns := [], harness := (true, "efaa04d609dc54a00d5ce049d434395ba5210d18dfa21ccb42063d86f5ee4136"), looks := true }, kinds := [], alts := [], laidByText := true, laidKinds := [.data, .data, .data, .data, .sentinel, .sentinel, .widerDeep, .data, .data, .pinned], laidTests := true, laidLooks := .later }
def ReportBucketsUptoCardSaid : Prop := Claim7.holds Tryz.pinned (.plain (OpenSpec.upto reportBucketsSpec)) reportBucketsUptoCard
end Rows
end Go.Proofs.YtppfbpckgfkhfaaGreatDoor
