/-
  DERIVED. GIVEN WITH THE SEED: THE CARDS: each row of YthpdmgefdaegmaaDoorRows.lean that lists a variable, with what it lists TIED to the program's text (the seventh form; the later family's looks); each row that meets fmt, with fmt's text TOLD by the authors' own Lean function (tested against real Go, not proved from fmt's source: count such statements apart). THE CARD IS WHAT COUNTS. Prove the row's statement (the work); the ties are given (YthpdmgefdaegmaaDoorTie.lean); close each card by the builder's one call (the guide's Derived/Test/ToyasCard.lean, 'card_holds'). Laid BY PROGRAM, IN A SANDBOX (cutbox-door.mjs). By AI agents, Wed Nov 11 2026. No macro, syntax, notation, axiom, sorry.
-/
import Derived.Test.YthpdmgefdaegmaaDoorRows
import GoSem.ClaimSeven
namespace Go.Proofs.YthpdmgefdaegmaaDoor
namespace Rows

/-- THE TIED CARD OF 'chertlaw20.OpsHalves'. -/
def opsHalvesCard : Claim7 := { stood := { row := opsHalvesRow, standIns := [], harness := (true, "0553b61ad28513fa376ca83a00655267eb5cd1dd053b44f0b3751b6d91c23774"), looks := false }, kinds := [], alts := [], laidByText := true, laidKinds := [.data, .pinned], laidTests := true, laidLooks := .later }
def OpsHalvesCardSaid : Prop := Claim7.holds Tryd.pinned (.plain (OpenSpec.ofChange opsHalvesSpec)) opsHalvesCard

/-- THE TIED CARD OF 'chertlaw20.OpsNothing'. -/
def opsNothingCard : Claim7 := { stood := { row := opsNothingRow, standIns := [], harness := (true, "0553b61ad28513fa376ca83a00655267eb5cd1dd053b44f0b3751b6d91c23774"), looks := false }, kinds := [], alts := [], laidByText := true, laidKinds := [.data, .pinned], laidTests := true, laidLooks := .later }
def OpsNothingCardSaid : Prop := Claim7.holds Tryd.pinned (.plain (OpenSpec.ofChange opsNothingSpec)) opsNothingCard

/-- THE TIED CARD OF 'chertlaw20.OpsWrites'. -/
def opsWritesCard : Claim7 := { stood := { row := opsWritesRow, standIns := [], harness := (true, "0553b61ad28513fa376ca83a00655267eb5cd1dd053b44f0b3751b6d91c23774"), looks := false }, kinds := [], alts := [], laidByText := true, laidKinds := [.data, .pinned], laidTests := true, laidLooks := .later }
def OpsWritesCardSaid : Prop := Claim7.holds Tryd.pinned (.plain (OpenSpec.ofChange opsWritesSpec)) opsWritesCard

/-- THE TIED CARD OF 'chertlaw20.OpsFile'. -/
def opsFileCard : Claim7 := { stood := { row := opsFileRow, standIns := [], harness := (true, "0553b61ad28513fa376ca83a00655267eb5cd1dd053b44f0b3751b6d91c23774"), looks := false }, kinds := [], alts := [], laidByText := true, laidKinds := [.data, .pinned], laidTests := true, laidLooks := .later }
def OpsFileCardSaid : Prop := Claim7.holds Tryd.pinned (.plain (OpenSpec.ofChange opsFileSpec)) opsFileCard

/-- THE SECOND FORM's CARD OF 'chertlaw20.OpsHalves'. -/
def opsHalvesUptoCard : Claim7 := { stood := { row := opsHalvesUptoRow, standIns := [], harness := (true, "0553b61ad28513fa376ca83a00655267eb5cd1dd053b44f0b3751b6d91c23774"), looks := false }, kinds := [], alts := [], laidByText := true, laidKinds := [.data, .pinned], laidTests := true, laidLooks := .later }
def OpsHalvesUptoCardSaid : Prop := Claim7.holds Tryd.pinned (.plain (OpenSpec.upto opsHalvesSpec)) opsHalvesUptoCard

/-- THE SECOND FORM's CARD OF 'chertlaw20.OpsNothing'. -/
def opsNothingUptoCard : Claim7 := { stood := { row := opsNothingUptoRow, standIns := [], harness := (true, "0553b61ad28513fa376ca83a00655267eb5cd1dd053b44f0b3751b6d91c23774"), looks := false }, kinds := [], alts := [], laidByText := true, laidKinds := [.data, .pinned], laidTests := true, laidLooks := .later }
def OpsNothingUptoCardSaid : Prop := Claim7.holds Tryd.pinned (.plain (OpenSpec.upto opsNothingSpec)) opsNothingUptoCard

/-- THE SECOND FORM's CARD OF 'chertlaw20.OpsWrites'. -/
def opsWritesUptoCard : Claim7 := { stood := { row := opsWritesUptoRow, standIns := [], harness := (true, "0553b61ad28513fa376ca83a00655267eb5cd1dd053b44f0b3751b6d91c23774"), looks := false }, kinds := [], alts := [], laidByText := true, laidKinds := [.data, .pinned], laidTests := true, laidLooks := .later }
def OpsWritesUptoCardSaid : Prop := Claim7.holds Tryd.pinned (.plain (OpenSpec.upto opsWritesSpec)) opsWritesUptoCard

/-- THE SECOND FORM's CARD OF 'chertlaw20.OpsFile'. -/
def opsFileUptoCard : Claim7 := { stood := { row := opsFileUptoRow, standIns := [], harness := (true, "0553b61ad28513fa376ca83a00655267eb5cd1dd053b44f0b3751b6d91c23774"), looks := false }, kinds := [], alts := [], laidByText := true, laidKinds := [.data, .pinned], laidTests := true, laidLooks := .later }
def OpsFileUptoCardSaid : Prop := Claim7.holds Tryd.pinned (.plain (OpenSpec.upto opsFileSpec)) opsFileUptoCard
end Rows
end Go.Proofs.YthpdmgefdaegmaaDoor
