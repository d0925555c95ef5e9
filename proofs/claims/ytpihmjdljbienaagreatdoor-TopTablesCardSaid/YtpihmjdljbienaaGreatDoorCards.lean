/-
  DERIVED. GIVEN WITH THE SEED: THE CARDS: each row of YtpihmjdljbienaaGreatDoorRows.lean that lists a variable, with what it lists TIED to the program's text (the seventh form; the later family's looks); each row that meets fmt, with fmt's text TOLD by the authors' own Lean function (tested against real Go, not proved from fmt's source: count such statements apart). THE CARD IS WHAT COUNTS. Prove the row's statement (the work); the ties are given (YtpihmjdljbienaaGreatDoorTie.lean); close each card by the builder's one call (the guide's Derived/Test/ToyasCard.lean, 'card_holds'). Laid BY PROGRAM, IN A SANDBOX (cutbox-door.mjs). By AI agents, Wed Nov 11 2026. No macro, syntax, notation, axiom, sorry.
-/
import Derived.Test.YtpihmjdljbienaaGreatDoorRows
import GoSem.ClaimSeven
namespace Go.Proofs.YtpihmjdljbienaaGreatDoor
namespace Rows

/-- THE TIED CARD OF 'oxbowtop.TopRecords'. -/
def topRecordsCard : Claim7 := { stood := { row := topRecordsRow, standIns := [], harness := (true, "4e8fe92f03f80e062dde2f86a4073b0732d560bb566b8e9976a236a1975217ce"), looks := true }, kinds := [], alts := [], laidByText := true, laidKinds := [.data, .data, .data, .data, .pinned], laidTests := true, laidLooks := .later }
def TopRecordsCardSaid : Prop := Claim7.holds Tryz.pinned (.plain (OpenSpec.ofChange topRecordsSpec)) topRecordsCard

/-- THE TIED CARD OF 'oxbowtop.TopTables'. -/
def topTablesCard : Claim7 := { stood := { row := topTablesRow, standIns := [], harness := (true, "4e8fe92f03f80e062dde2f86a4073b0732d560bb566b8e9976a236a1975217ce"), looks := true }, kinds := [], alts := [], laidByText := true, laidKinds := [.data, .data, .data, .data, .pinned], laidTests := true, laidLooks := .later }
def TopTablesCardSaid : Prop := Claim7.holds Tryz.pinned (.plain (OpenSpec.ofChange topTablesSpec)) topTablesCard

/-- THE SECOND FORM's CARD OF 'oxbowtop.TopRecords'. -/
def topRecordsUptoCard : Claim7 := { stood := { row := topRecordsUptoRow, standIns := [], harness := (true, "4e8fe92f03f80e062dde2f86a4073b0732d560bb566b8e9976a236a1975217ce"), looks := true }, kinds := [], alts := [], laidByText := true, laidKinds := [.data, .data, .data, .data, .pinned], laidTests := true, laidLooks := .later }
def TopRecordsUptoCardSaid : Prop := Claim7.holds Tryz.pinned (.plain (OpenSpec.upto topRecordsSpec)) topRecordsUptoCard

/-- THE SECOND FORM's CARD OF 'oxbowtop.TopTables'. -/
def topTablesUptoCard : Claim7 := { stood := { row := topTablesUptoRow, standIns := [], harness := (true, "4e8fe92f03f80e062dde2f86a4073b0732d560bb566b8e9976a236a1975217ce"), looks := true }, kinds := [], alts := [], laidByText := true, laidKinds := [.data, .data, .data, .data, .pinned], laidTests := true, laidLooks := .later }
def TopTablesUptoCardSaid : Prop := Claim7.holds Tryz.pinned (.plain (OpenSpec.upto topTablesSpec)) topTablesUptoCard
end Rows
end Go.Proofs.YtpihmjdljbienaaGreatDoor
