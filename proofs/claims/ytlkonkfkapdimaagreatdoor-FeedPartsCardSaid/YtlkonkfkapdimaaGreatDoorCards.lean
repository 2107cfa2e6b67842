/-
  DERIVED. GIVEN WITH THE SEED: THE CARDS: each row of YtlkonkfkapdimaaGreatDoorRows.lean that lists a variable, with what it lists TIED to the program's text (the seventh form; the later family's looks); each row that meets fmt, with fmt's text TOLD by the authors' own Lean function (tested against real Go, not proved from fmt's source: count such statements apart). THE CARD IS WHAT COUNTS. Prove the row's statement (the work); the ties are given (YtlkonkfkapdimaaGreatDoorTie.lean); close each card by the builder's one call (the guide's Derived/Test/ToyasCard.lean, 'card_holds'). Laid BY PROGRAM, IN A SANDBOX (cutbox-door.mjs). By AI agents, Wed Nov 11 2026. No macro, syntax, notation, axiom, sorry.
-/
import Derived.Test.YtlkonkfkapdimaaGreatDoorRows
import GoSem.ClaimSeven
namespace Go.Proofs.YtlkonkfkapdimaaGreatDoor
namespace Rows

/-- THE TIED CARD OF 'pluviallaw21.FeedItems'. -/
def feedItemsCard : Claim7 := { stood := { row := feedItemsRow, standIns := [], harness := (true, "7d6822841e3e0df36fa24032d797399c37f4224fb324aa7a65888b03a4d9a7e4"), looks := true }, kinds := [], alts := [], laidByText := true, laidKinds := [.data, .data, .data, .data, .sentinel, .sentinel, .widerDeep, .pinned], laidTests := true, laidLooks := .later }
def FeedItemsCardSaid : Prop := Claim7.holds Tryz.pinned (.plain (OpenSpec.ofChange feedItemsSpec)) feedItemsCard

/-- THE TIED CARD OF 'pluviallaw21.FeedApart'. -/
def feedApartCard : Claim7 := { stood := { row := feedApartRow, standIns := [], harness := (true, "7d6822841e3e0df36fa24032d797399c37f4224fb324aa7a65888b03a4d9a7e4"), looks := true }, kinds := [], alts := [], laidByText := true, laidKinds := [.data, .data, .data, .data, .sentinel, .sentinel, .widerDeep, .pinned], laidTests := true, laidLooks := .later }
def FeedApartCardSaid : Prop := Claim7.holds Tryz.pinned (.plain (OpenSpec.ofChange feedApartSpec)) feedApartCard

/-- THE TIED CARD OF 'pluviallaw21.FeedParts'. -/
def feedPartsCard : Claim7 := { stood := { row := feedPartsRow, standIns := [], harness := (true, "7d6822841e3e0df36fa24032d797399c37f4224fb324aa7a65888b03a4d9a7e4"), looks := true }, kinds := [], alts := [], laidByText := true, laidKinds := [.data, .data, .data, .data, .sentinel, .sentinel, .widerDeep, .pinned], laidTests := true, laidLooks := .later }
def FeedPartsCardSaid : Prop := Claim7.holds Tryz.pinned (.plain (OpenSpec.ofChange feedPartsSpec)) feedPartsCard

/-- THE SECOND FORM's CARD OF 'pluviallaw21.FeedItems'. -/
def feedItemsUptoCard : Claim7 := { stood := { row := feedItemsUptoRow, standIns := [], harness := (true, "7d6822841e3e0df36fa24032d797399c37f4224fb324aa7a65888b03a4d9a7e4"), looks := true }, kinds := [], alts := [], laidByText := true, laidKinds := [.data, .data, .data, .data, .sentinel, .sentinel, .widerDeep, .pinned], laidTests := true, laidLooks := .later }
def FeedItemsUptoCardSaid : Prop := Claim7.holds Tryz.pinned (.plain (OpenSpec.upto feedItemsSpec)) feedItemsUptoCard

/-- THE SECOND FORM's CARD OF 'pluviallaw21.FeedApart'. -/
def feedApartUptoCard : Claim7 := { stood := { row := feedApartUptoRow, standIns := [], harness := (true, "7d6822841e3e0df36fa24032d797399c37f4224fb324aa7a65888b03a4d9a7e4"), looks := true }, kinds := [], alts := [], laidByText := true, laidKinds := [.data, .data, .data, .data, .sentinel, .sentinel, .widerDeep, .pinned], laidTests := true, laidLooks := .later }
def FeedApartUptoCardSaid : Prop := Claim7.holds Tryz.pinned (.plain (OpenSpec.upto feedApartSpec)) feedApartUptoCard

/-- THE SECOND FORM's CARD OF 'pluviallaw21.FeedParts'. -/
def feedPartsUptoCard : Claim7 := { stood := { row := feedPartsUptoRow, standIns := [], harness := (true, "7d6822841e3e0df36fa24032d797399c37f4224fb324aa7a65888b03a4d9a7e4"), looks := true }, kinds := [], alts := [], laidByText := true, laidKinds := [.data, .data, .data, .data, .sentinel, .sentinel, .widerDeep, .pinned], laidTests := true, laidLooks := .later }
def FeedPartsUptoCardSaid : Prop := Claim7.holds Tryz.pinned (.plain (OpenSpec.upto feedPartsSpec)) feedPartsUptoCard
end Rows
end Go.Proofs.YtlkonkfkapdimaaGreatDoor
