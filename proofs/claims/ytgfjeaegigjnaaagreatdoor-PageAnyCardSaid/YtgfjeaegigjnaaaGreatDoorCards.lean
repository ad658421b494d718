/-
  DERIVED. GIVEN WITH THE SEED: THE CARDS: each row of YtgfjeaegigjnaaaGreatDoorRows.lean that lists a variable, with what it lists TIED to the program's text (the seventh form; the later family's looks); each row that meets fmt, with fmt's text TOLD by the authors' own Lean function (tested against real Go, not proved from fmt's source: count such statements apart). THE CARD IS WHAT COUNTS. Prove the row's statement (the work); the ties are given (YtgfjeaegigjnaaaGreatDoorTie.lean); close each card by the builder's one call (the guide's Derived/Test/ToyasCard.lean, 'card_holds'). Laid BY PROGRAM, IN A SANDBOX (cutbox-door.mjs). By AI agents, Wed Nov 11 2026. No macro, syntax, notation, axiom, sorry.
-/
import Derived.Test.YtgfjeaegigjnaaaGreatDoorRows
import GoSem.ClaimSeven
namespace Go.Proofs.YtgfjeaegigjnaaaGreatDoor
namespace Rows

/-- THE TIED CARD OF 'chertlaw06.PageSizes'. -/
def pageSizesCard : Claim7 := { stood := { row := pageSizesRow, standIns := [], harness := (true, "07da578a19a076df49d22b6596a68567d05fcc44005802f9a51f110813629303"), looks := false }, kinds := [], alts := [], laidByText := true, laidKinds := [.data], laidTests := true, laidLooks := .later }
def PageSizesCardSaid : Prop := Claim7.holds Tryz.pinned (.plain (OpenSpec.ofChange pageSizesSpec)) pageSizesCard

/-- THE TIED CARD OF 'chertlaw06.PageWrites'. -/
def pageWritesCard : Claim7 := { stood := { row := pageWritesRow, standIns := [], harness := (true, "07da578a19a076df49d22b6596a68567d05fcc44005802f9a51f110813629303"), looks := false }, kinds := [], alts := [], laidByText := true, laidKinds := [.data], laidTests := true, laidLooks := .later }
def PageWritesCardSaid : Prop := Claim7.holds Tryz.pinned (.plain (OpenSpec.ofChange pageWritesSpec)) pageWritesCard

/-- THE TIED CARD OF 'chertlaw06.PageAny'. -/
def pageAnyCard : Claim7 := { stood := { row := pageAnyRow, standIns := [], harness := (true, "07da578a19a076df49d22b6596a68567d05fcc44005802f9a51f110813629303"), looks := false }, kinds := [], alts := [], laidByText := true, laidKinds := [.data], laidTests := true, laidLooks := .later }
def PageAnyCardSaid : Prop := Claim7.holds Tryz.pinned (.plain (OpenSpec.ofChange pageAnySpec)) pageAnyCard

/-- THE TIED CARD OF 'chertlaw06.PageApart'. -/
def pageApartCard : Claim7 := { stood := { row := pageApartRow, standIns := [], harness := (true, "07da578a19a076df49d22b6596a68567d05fcc44005802f9a51f110813629303"), looks := false }, kinds := [], alts := [], laidByText := true, laidKinds := [.data], laidTests := true, laidLooks := .later }
def PageApartCardSaid : Prop := Claim7.holds Tryz.pinned (.plain (OpenSpec.ofChange pageApartSpec)) pageApartCard

/-- THE TIED CARD OF 'chertlaw06.PageNil'. -/
def pageNilCard : Claim7 := { stood := { row := pageNilRow, standIns := [], harness := (true, "07da578a19a076df49d22b6596a68567d05fcc44005802f9a51f110813629303"), looks := false }, kinds := [], alts := [], laidByText := true, laidKinds := [.data], laidTests := true, laidLooks := .later }
def PageNilCardSaid : Prop := Claim7.holds Tryz.pinned (.plain (OpenSpec.ofChange pageNilSpec)) pageNilCard

/-- THE TIED CARD OF 'chertlaw06.PageReads'. -/
def pageReadsCard : Claim7 := { stood := { row := pageReadsRow, standIns := [], harness := (true, "07da578a19a076df49d22b6596a68567d05fcc44005802f9a51f110813629303"), looks := false }, kinds := [], alts := [], laidByText := true, laidKinds := [.data], laidTests := true, laidLooks := .later }
def PageReadsCardSaid : Prop := Claim7.holds Tryz.pinned (.plain (OpenSpec.ofChange pageReadsSpec)) pageReadsCard

/-- THE SECOND FORM's CARD OF 'chertlaw06.PageSizes'. -/
def pageSizesUptoCard : Claim7 := { stood := { row := pageSizesUptoRow, standIns := [], harness := (true, "07da578a19a076df49d22b6596a68567d05fcc44005802f9a51f110813629303"), looks := false }, kinds := [], alts := [], laidByText := true, laidKinds := [.data], laidTests := true, laidLooks := .later }
def PageSizesUptoCardSaid : Prop := Claim7.holds Tryz.pinned (.plain (OpenSpec.upto pageSizesSpec)) pageSizesUptoCard

/-- THE SECOND FORM's CARD OF 'chertlaw06.PageWrites'. -/
def pageWritesUptoCard : Claim7 := { stood := { row := pageWritesUptoRow, standIns := [], harness := (true, "07da578a19a076df49d22b6596a68567d05fcc44005802f9a51f110813629303"), looks := false }, kinds := [], alts := [], laidByText := true, laidKinds := [.data], laidTests := true, laidLooks := .later }
def PageWritesUptoCardSaid : Prop := Claim7.holds Tryz.pinned (.plain (OpenSpec.upto pageWritesSpec)) pageWritesUptoCard

/-- THE SECOND FORM's CARD OF 'chertlaw06.PageAny'. -/
def pageAnyUptoCard : Claim7 := { stood := { row := pageAnyUptoRow, standIns := [], harness := (true, "07da578a19a076df49d22b6596a68567d05fcc44005802f9a51f110813629303"), looks := false }, kinds := [], alts := [], laidByText := true, laidKinds := [.data], laidTests := true, laidLooks := .later }
def PageAnyUptoCardSaid : Prop := Claim7.holds Tryz.pinned (.plain (OpenSpec.upto pageAnySpec)) pageAnyUptoCard

/-- THE SECOND FORM's CARD OF 'chertlaw06.PageApart'. -/
def pageApartUptoCard : Claim7 := { stood := { row := pageApartUptoRow, standIns := [], harness := (true, "07da578a19a076df49d22b6596a68567d05fcc44005802f9a51f110813629303"), looks := false }, kinds := [], alts := [], laidByText := true, laidKinds := [.data], laidTests := true, laidLooks := .later }
def PageApartUptoCardSaid : Prop := Claim7.holds Tryz.pinned (.plain (OpenSpec.upto pageApartSpec)) pageApartUptoCard

/-- THE SECOND FORM's CARD OF 'chertlaw06.PageNil'. -/
def pageNilUptoCard : Claim7 := { stood := { row := pageNilUptoRow, standIns := [], harness := (true, "07da578a19a076df49d22b6596a68567d05fcc44005802f9a51f110813629303"), looks := false }, kinds := [], alts := [], laidByText := true, laidKinds := [.data], laidTests := true, laidLooks := .later }
def PageNilUptoCardSaid : Prop := Claim7.holds Tryz.pinned (.plain (OpenSpec.upto pageNilSpec)) pageNilUptoCard

/-- THE SECOND FORM's CARD OF 'chertlaw06.PageReads'. -/
def pageReadsUptoCard : Claim7 := { stood := { row := pageReadsUptoRow, standIns := [], harness := (true, "07da578a19a076df49d22b6596a68567d05fcc44005802f9a51f110813629303"), looks := false }, kinds := [], alts := [], laidByText := true, laidKinds := [.data], laidTests := true, laidLooks := .later }
def PageReadsUptoCardSaid : Prop := Claim7.holds Tryz.pinned (.plain (OpenSpec.upto pageReadsSpec)) pageReadsUptoCard
end Rows
end Go.Proofs.YtgfjeaegigjnaaaGreatDoor
