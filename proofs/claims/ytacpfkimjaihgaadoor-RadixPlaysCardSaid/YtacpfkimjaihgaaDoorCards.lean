/-
  DERIVED. GIVEN WITH THE SEED: THE CARDS: each row of YtacpfkimjaihgaaDoorRows.lean that lists a variable, with what it lists TIED to the program's text (the seventh form; the later family's looks); each row that meets fmt, with fmt's text TOLD by the authors' own Lean function (tested against real Go, not proved from fmt's source: count such statements apart). THE CARD IS WHAT COUNTS. Prove the row's statement (the work); the ties are given (YtacpfkimjaihgaaDoorTie.lean); close each card by the builder's one call (the guide's Derived/Test/ToyasCard.lean, 'card_holds'). Laid BY PROGRAM, IN A SANDBOX (cutbox-door.mjs). By AI agents, Wed Nov 11 2026. No macro, syntax, notation, axiom, sorry.
-/
import Derived.Test.YtacpfkimjaihgaaDoorRows
import GoSem.ClaimSeven
namespace Go.Proofs.YtacpfkimjaihgaaDoor
namespace Rows

/-- THE TIED CARD OF 'flyleaflaw06.FramesApart'. -/
def framesApartCard : Claim7 := { stood := { row := framesApartRow, standIns := [], harness := (true, "d3146866c9ec1451cae3bcc27afde16bbe98e4e7daa0429d85a05a7b2b447e24"), looks := false }, kinds := [], alts := [], laidByText := true, laidKinds := [.data], laidTests := true, laidLooks := .later }
def FramesApartCardSaid : Prop := Claim7.holds Tryd.pinned (.plain (OpenSpec.ofChange framesApartSpec)) framesApartCard

/-- THE TIED CARD OF 'flyleaflaw06.FramesWords'. -/
def framesWordsCard : Claim7 := { stood := { row := framesWordsRow, standIns := [], harness := (true, "d3146866c9ec1451cae3bcc27afde16bbe98e4e7daa0429d85a05a7b2b447e24"), looks := false }, kinds := [], alts := [], laidByText := true, laidKinds := [.data], laidTests := true, laidLooks := .later }
def FramesWordsCardSaid : Prop := Claim7.holds Tryd.pinned (.plain (OpenSpec.ofChange framesWordsSpec)) framesWordsCard

/-- THE TIED CARD OF 'flyleaflaw06.FramesFree'. -/
def framesFreeCard : Claim7 := { stood := { row := framesFreeRow, standIns := [], harness := (true, "d3146866c9ec1451cae3bcc27afde16bbe98e4e7daa0429d85a05a7b2b447e24"), looks := false }, kinds := [], alts := [], laidByText := true, laidKinds := [.data], laidTests := true, laidLooks := .later }
def FramesFreeCardSaid : Prop := Claim7.holds Tryd.pinned (.plain (OpenSpec.ofChange framesFreeSpec)) framesFreeCard

/-- THE TIED CARD OF 'flyleaflaw06.FramesTaken'. -/
def framesTakenCard : Claim7 := { stood := { row := framesTakenRow, standIns := [], harness := (true, "d3146866c9ec1451cae3bcc27afde16bbe98e4e7daa0429d85a05a7b2b447e24"), looks := false }, kinds := [], alts := [], laidByText := true, laidKinds := [.data], laidTests := true, laidLooks := .later }
def FramesTakenCardSaid : Prop := Claim7.holds Tryd.pinned (.plain (OpenSpec.ofChange framesTakenSpec)) framesTakenCard

/-- THE TIED CARD OF 'flyleaflaw06.FramesCopies'. -/
def framesCopiesCard : Claim7 := { stood := { row := framesCopiesRow, standIns := [], harness := (true, "d3146866c9ec1451cae3bcc27afde16bbe98e4e7daa0429d85a05a7b2b447e24"), looks := false }, kinds := [], alts := [], laidByText := true, laidKinds := [.data], laidTests := true, laidLooks := .later }
def FramesCopiesCardSaid : Prop := Claim7.holds Tryd.pinned (.plain (OpenSpec.ofChange framesCopiesSpec)) framesCopiesCard

/-- THE TIED CARD OF 'flyleaflaw06.FramesPlays'. -/
def framesPlaysCard : Claim7 := { stood := { row := framesPlaysRow, standIns := [], harness := (true, "d3146866c9ec1451cae3bcc27afde16bbe98e4e7daa0429d85a05a7b2b447e24"), looks := false }, kinds := [], alts := [], laidByText := true, laidKinds := [.data], laidTests := true, laidLooks := .later }
def FramesPlaysCardSaid : Prop := Claim7.holds Tryd.pinned (.plain (OpenSpec.ofChange framesPlaysSpec)) framesPlaysCard

/-- THE TIED CARD OF 'flyleaflaw06.FramesNil'. -/
def framesNilCard : Claim7 := { stood := { row := framesNilRow, standIns := [], harness := (true, "d3146866c9ec1451cae3bcc27afde16bbe98e4e7daa0429d85a05a7b2b447e24"), looks := false }, kinds := [], alts := [], laidByText := true, laidKinds := [.data], laidTests := true, laidLooks := .later }
def FramesNilCardSaid : Prop := Claim7.holds Tryd.pinned (.plain (OpenSpec.ofChange framesNilSpec)) framesNilCard

/-- THE TIED CARD OF 'flyleaflaw07.RadixPacks'. -/
def radixPacksCard : Claim7 := { stood := { row := radixPacksRow, standIns := [], harness := (true, "d3146866c9ec1451cae3bcc27afde16bbe98e4e7daa0429d85a05a7b2b447e24"), looks := false }, kinds := [], alts := [], laidByText := true, laidKinds := [.data], laidTests := true, laidLooks := .later }
def RadixPacksCardSaid : Prop := Claim7.holds Tryd.pinned (.plain (OpenSpec.ofChange radixPacksSpec)) radixPacksCard

/-- THE TIED CARD OF 'flyleaflaw07.RadixFull'. -/
def radixFullCard : Claim7 := { stood := { row := radixFullRow, standIns := [], harness := (true, "d3146866c9ec1451cae3bcc27afde16bbe98e4e7daa0429d85a05a7b2b447e24"), looks := false }, kinds := [], alts := [], laidByText := true, laidKinds := [.data], laidTests := true, laidLooks := .later }
def RadixFullCardSaid : Prop := Claim7.holds Tryd.pinned (.plain (OpenSpec.ofChange radixFullSpec)) radixFullCard

/-- THE TIED CARD OF 'flyleaflaw07.RadixNodes'. -/
def radixNodesCard : Claim7 := { stood := { row := radixNodesRow, standIns := [], harness := (true, "d3146866c9ec1451cae3bcc27afde16bbe98e4e7daa0429d85a05a7b2b447e24"), looks := false }, kinds := [], alts := [], laidByText := true, laidKinds := [.data], laidTests := true, laidLooks := .later }
def RadixNodesCardSaid : Prop := Claim7.holds Tryd.pinned (.plain (OpenSpec.ofChange radixNodesSpec)) radixNodesCard

/-- THE TIED CARD OF 'flyleaflaw07.RadixFrom'. -/
def radixFromCard : Claim7 := { stood := { row := radixFromRow, standIns := [], harness := (true, "d3146866c9ec1451cae3bcc27afde16bbe98e4e7daa0429d85a05a7b2b447e24"), looks := false }, kinds := [], alts := [], laidByText := true, laidKinds := [.data], laidTests := true, laidLooks := .later }
def RadixFromCardSaid : Prop := Claim7.holds Tryd.pinned (.plain (OpenSpec.ofChange radixFromSpec)) radixFromCard

/-- THE TIED CARD OF 'flyleaflaw07.RadixLast'. -/
def radixLastCard : Claim7 := { stood := { row := radixLastRow, standIns := [], harness := (true, "d3146866c9ec1451cae3bcc27afde16bbe98e4e7daa0429d85a05a7b2b447e24"), looks := false }, kinds := [], alts := [], laidByText := true, laidKinds := [.data], laidTests := true, laidLooks := .later }
def RadixLastCardSaid : Prop := Claim7.holds Tryd.pinned (.plain (OpenSpec.ofChange radixLastSpec)) radixLastCard

/-- THE TIED CARD OF 'flyleaflaw07.RadixPlays'. -/
def radixPlaysCard : Claim7 := { stood := { row := radixPlaysRow, standIns := [], harness := (true, "d3146866c9ec1451cae3bcc27afde16bbe98e4e7daa0429d85a05a7b2b447e24"), looks := false }, kinds := [], alts := [], laidByText := true, laidKinds := [.data], laidTests := true, laidLooks := .later }
def RadixPlaysCardSaid : Prop := Claim7.holds Tryd.pinned (.plain (OpenSpec.ofChange radixPlaysSpec)) radixPlaysCard

/-- THE TIED CARD OF 'flyleaflaw07.RadixNil'. -/
def radixNilCard : Claim7 := { stood := { row := radixNilRow, standIns := [], harness := (true, "d3146866c9ec1451cae3bcc27afde16bbe98e4e7daa0429d85a05a7b2b447e24"), looks := false }, kinds := [], alts := [], laidByText := true, laidKinds := [.data], laidTests := true, laidLooks := .later }
def RadixNilCardSaid : Prop := Claim7.holds Tryd.pinned (.plain (OpenSpec.ofChange radixNilSpec)) radixNilCard

/-- THE SECOND FORM's CARD OF 'flyleaflaw06.FramesApart'. -/
def framesApartUptoCard : Claim7 := { stood := { row := framesApartUptoRow, standIns := [], harness := (true, "d3146866c9ec1451cae3bcc27afde16bbe98e4e7daa0429d85a05a7b2b447e24"), looks := false }, kinds := [], alts := [], laidByText := true, laidKinds := [.data], laidTests := true, laidLooks := .later }
def FramesApartUptoCardSaid : Prop := Claim7.holds Tryd.pinned (.plain (OpenSpec.upto framesApartSpec)) framesApartUptoCard

/-- THE SECOND FORM's CARD OF 'flyleaflaw06.FramesWords'. -/
def framesWordsUptoCard : Claim7 := { stood := { row := framesWordsUptoRow, standIns := [], harness := (true, "d3146866c9ec1451cae3bcc27afde16bbe98e4e7daa0429d85a05a7b2b447e24"), looks := false }, kinds := [], alts := [], laidByText := true, laidKinds := [.data], laidTests := true, laidLooks := .later }
def FramesWordsUptoCardSaid : Prop := Claim7.holds Tryd.pinned (.plain (OpenSpec.upto framesWordsSpec)) framesWordsUptoCard

/-- THE SECOND FORM's CARD OF 'flyleaflaw06.FramesFree'. -/
def framesFreeUptoCard : Claim7 := { stood := { row := framesFreeUptoRow, standIns := [], harness := (true, "d3146866c9ec1451cae3bcc27afde16bbe98e4e7daa0429d85a05a7b2b447e24"), looks := false }, kinds := [], alts := [], laidByText := true, laidKinds := [.data], laidTests := true, laidLooks := .later }
def FramesFreeUptoCardSaid : Prop := Claim7.holds Tryd.pinned (.plain (OpenSpec.upto framesFreeSpec)) framesFreeUptoCard

/-- THE SECOND FORM's CARD OF 'flyleaflaw06.FramesTaken'. -/
def framesTakenUptoCard : Claim7 := { stood := { row := framesTakenUptoRow, standIns := [], harness := (true, "d3146866c9ec1451cae3bcc27afde16bbe98e4e7daa0429d85a05a7b2b447e24"), looks := false }, kinds := [], alts := [], laidByText := true, laidKinds := [.data], laidTests := true, laidLooks := .later }
def FramesTakenUptoCardSaid : Prop := Claim7.holds Tryd.pinned (.plain (OpenSpec.upto framesTakenSpec)) framesTakenUptoCard

/-- THE SECOND FORM's CARD OF 'flyleaflaw06.FramesCopies'. -/
def framesCopiesUptoCard : Claim7 := { stood := { row := framesCopiesUptoRow, standIns := [], harness := (true, "d3146866c9ec1451cae3bcc27afde16bbe98e4e7daa0429d85a05a7b2b447e24"), looks := false }, kinds := [], alts := [], laidByText := true, laidKinds := [.data], laidTests := true, laidLooks := .later }
def FramesCopiesUptoCardSaid : Prop := Claim7.holds Tryd.pinned (.plain (OpenSpec.upto framesCopiesSpec)) framesCopiesUptoCard

/-- THE SECOND FORM's CARD OF 'flyleaflaw06.FramesPlays'. -/
def framesPlaysUptoCard : Claim7 := { stood := { row := framesPlaysUptoRow, standIns := [], harness := (true, "d3146866c9ec1451cae3bcc27afde16bbe98e4e7daa0429d85a05a7b2b447e24"), looks := false }, kinds := [], alts := [], laidByText := true, laidKinds := [.data], laidTests := true, laidLooks := .later }
def FramesPlaysUptoCardSaid : Prop := Claim7.holds Tryd.pinned (.plain (OpenSpec.upto framesPlaysSpec)) framesPlaysUptoCard

/-- THE SECOND FORM's CARD OF 'flyleaflaw06.FramesNil'. -/
def framesNilUptoCard : Claim7 := { stood := { row := framesNilUptoRow, standIns := [], harness := (true, "d3146866c9ec1451cae3bcc27afde16bbe98e4e7daa0429d85a05a7b2b447e24"), looks := false }, kinds := [], alts := [], laidByText := true, laidKinds := [.data], laidTests := true, laidLooks := .later }
def FramesNilUptoCardSaid : Prop := Claim7.holds Tryd.pinned (.plain (OpenSpec.upto framesNilSpec)) framesNilUptoCard

/-- THE SECOND FORM's CARD OF 'flyleaflaw07.RadixPacks'. -/
def radixPacksUptoCard : Claim7 := { stood := { row := radixPacksUptoRow, standIns := [], harness := (true, "d3146866c9ec1451cae3bcc27afde16bbe98e4e7daa0429d85a05a7b2b447e24"), looks := false }, kinds := [], alts := [], laidByText := true, laidKinds := [.data], laidTests := true, laidLooks := .later }
def RadixPacksUptoCardSaid : Prop := Claim7.holds Tryd.pinned (.plain (OpenSpec.upto radixPacksSpec)) radixPacksUptoCard

/-- THE SECOND FORM's CARD OF 'flyleaflaw07.RadixFull'. -/
def radixFullUptoCard : Claim7 := { stood := { row := radixFullUptoRow, standIns := [], harness := (true, "d3146866c9ec1451cae3bcc27afde16bbe98e4e7daa0429d85a05a7b2b447e24"), looks := false }, kinds := [], alts := [], laidByText := true, laidKinds := [.data], laidTests := true, laidLooks := .later }
def RadixFullUptoCardSaid : Prop := Claim7.holds Tryd.pinned (.plain (OpenSpec.upto radixFullSpec)) radixFullUptoCard

/-- THE SECOND FORM's CARD OF 'flyleaflaw07.RadixNodes'. -/
def radixNodesUptoCard : Claim7 := { stood := { row := radixNodesUptoRow, standIns := [], harness := (true, "d3146866c9ec1451cae3bcc27afde16bbe98e4e7daa0429d85a05a7b2b447e24"), looks := false }, kinds := [], alts := [], laidByText := true, laidKinds := [.data], laidTests := true, laidLooks := .later }
def RadixNodesUptoCardSaid : Prop := Claim7.holds Tryd.pinned (.plain (OpenSpec.upto radixNodesSpec)) radixNodesUptoCard

/-- THE SECOND FORM's CARD OF 'flyleaflaw07.RadixFrom'. -/
def radixFromUptoCard : Claim7 := { stood := { row := radixFromUptoRow, standIns := [], harness := (true, "d3146866c9ec1451cae3bcc27afde16bbe98e4e7daa0429d85a05a7b2b447e24"), looks := false }, kinds := [], alts := [], laidByText := true, laidKinds := [.data], laidTests := true, laidLooks := .later }
def RadixFromUptoCardSaid : Prop := Claim7.holds Tryd.pinned (.plain (OpenSpec.upto radixFromSpec)) radixFromUptoCard

/-- THE SECOND FORM's CARD OF 'flyleaflaw07.RadixLast'. -/
def radixLastUptoCard : Claim7 := { stood := { row := radixLastUptoRow, standIns := [], harness := (true, "d3146866c9ec1451cae3bcc27afde16bbe98e4e7daa0429d85a05a7b2b447e24"), looks := false }, kinds := [], alts := [], laidByText := true, laidKinds := [.data], laidTests := true, laidLooks := .later }
def RadixLastUptoCardSaid : Prop := Claim7.holds Tryd.pinned (.plain (OpenSpec.upto radixLastSpec)) radixLastUptoCard

/-- THE SECOND FORM's CARD OF 'flyleaflaw07.RadixPlays'. -/
def radixPlaysUptoCard : Claim7 := { stood := { row := radixPlaysUptoRow, standIns := [], harness := (true, "d3146866c9ec1451cae3bcc27afde16bbe98e4e7daa0429d85a05a7b2b447e24"), looks := false }, kinds := [], alts := [], laidByText := true, laidKinds := [.data], laidTests := true, laidLooks := .later }
def RadixPlaysUptoCardSaid : Prop := Claim7.holds Tryd.pinned (.plain (OpenSpec.upto radixPlaysSpec)) radixPlaysUptoCard

/-- THE SECOND FORM's CARD OF 'flyleaflaw07.RadixNil'. -/
def radixNilUptoCard : Claim7 := { stood := { row := radixNilUptoRow, standIns := [], harness := (true, "d3146866c9ec1451cae3bcc27afde16bbe98e4e7daa0429d85a05a7b2b447e24"), looks := false }, kinds := [], alts := [], laidByText := true, laidKinds := [.data], laidTests := true, laidLooks := .later }
def RadixNilUptoCardSaid : Prop := Claim7.holds Tryd.pinned (.plain (OpenSpec.upto radixNilSpec)) radixNilUptoCard
end Rows
end Go.Proofs.YtacpfkimjaihgaaDoor
