/-
  DERIVED. GIVEN WITH THE SEED: THE CARDS: each row of YtoadlhkggdbfkaaGreatDoorRows.lean that lists a variable, with what it lists TIED to the program's text (the seventh form; the later family's looks); each row that meets fmt, with fmt's text TOLD by the authors' own Lean function (tested against real Go, not proved from fmt's source: count such statements apart). THE CARD IS WHAT COUNTS. Prove the row's statement (the work); the ties are given (YtoadlhkggdbfkaaGreatDoorTie.lean); close each card by the builder's one call (the guide's Derived/Test/ToyasCard.lean, 'card_holds'). Laid BY PROGRAM, IN A SANDBOX (cutbox-door.mjs). By AI agents, Wed Nov 11 2026. No macro, syntax, notation, axiom, sorry.
-/
import Derived.Test.YtoadlhkggdbfkaaGreatDoorRows
import GoSem.ClaimSeven
namespace Go.Proofs.YtoadlhkggdbfkaaGreatDoor
namespace Rows

/-- THE TIED CARD OF 'propylonlaw31.DocpackItems'. -/
def docpackItemsCard : Claim7 := { stood := { row := docpackItemsRow, standIns := [], harness := (true, "d978f048b879e8a0e690f6c2c7c46b4ca03dd2892a141df5054b3603220fb143"), looks := false }, kinds := [], alts := [], laidByText := true, laidKinds := [.data, .data, .data], laidTests := true, laidLooks := .later }
def DocpackItemsCardSaid : Prop := Claim7.holds Tryz.pinned (.plain (OpenSpec.ofChange docpackItemsSpec)) docpackItemsCard

/-- THE TIED CARD OF 'propylonlaw31.DocpackValues'. -/
def docpackValuesCard : Claim7 := { stood := { row := docpackValuesRow, standIns := [], harness := (true, "d978f048b879e8a0e690f6c2c7c46b4ca03dd2892a141df5054b3603220fb143"), looks := false }, kinds := [], alts := [], laidByText := true, laidKinds := [.data, .data, .data], laidTests := true, laidLooks := .later }
def DocpackValuesCardSaid : Prop := Claim7.holds Tryz.pinned (.plain (OpenSpec.ofChange docpackValuesSpec)) docpackValuesCard

/-- THE TIED CARD OF 'propylonlaw31.DocpackJust'. -/
def docpackJustCard : Claim7 := { stood := { row := docpackJustRow, standIns := [], harness := (true, "d978f048b879e8a0e690f6c2c7c46b4ca03dd2892a141df5054b3603220fb143"), looks := false }, kinds := [], alts := [], laidByText := true, laidKinds := [.data, .data, .data], laidTests := true, laidLooks := .later }
def DocpackJustCardSaid : Prop := Claim7.holds Tryz.pinned (.plain (OpenSpec.ofChange docpackJustSpec)) docpackJustCard

/-- THE TIED CARD OF 'propylonlaw31.DocpackExts'. -/
def docpackExtsCard : Claim7 := { stood := { row := docpackExtsRow, standIns := [], harness := (true, "d978f048b879e8a0e690f6c2c7c46b4ca03dd2892a141df5054b3603220fb143"), looks := false }, kinds := [], alts := [], laidByText := true, laidKinds := [.data, .data, .data], laidTests := true, laidLooks := .later }
def DocpackExtsCardSaid : Prop := Claim7.holds Tryz.pinned (.plain (OpenSpec.ofChange docpackExtsSpec)) docpackExtsCard

/-- THE SECOND FORM's CARD OF 'propylonlaw31.DocpackItems'. -/
def docpackItemsUptoCard : Claim7 := { stood := { row := docpackItemsUptoRow, standIns := [], harness := (true, "d978f048b879e8a0e690f6c2c7c46b4ca03dd2892a141df5054b3603220fb143"), looks := false }, kinds := [], alts := [], laidByText := true, laidKinds := [.data, .data, .data], laidTests := true, laidLooks := .later }
def DocpackItemsUptoCardSaid : Prop := Claim7.holds Tryz.pinned (.plain (OpenSpec.upto docpackItemsSpec)) docpackItemsUptoCard

/-- THE SECOND FORM's CARD OF 'propylonlaw31.DocpackValues'. -/
def docpackValuesUptoCard : Claim7 := { stood := { row := docpackValuesUptoRow, standIns := [], harness := (true, "d978f048b879e8a0e690f6c2c7c46b4ca03dd2892a141df5054b3603220fb143"), looks := false }, kinds := [], alts := [], laidByText := true, laidKinds := [.data, .data, .data], laidTests := true, laidLooks := .later }
def DocpackValuesUptoCardSaid : Prop := Claim7.holds Tryz.pinned (.plain (OpenSpec.upto docpackValuesSpec)) docpackValuesUptoCard

/-- THE SECOND FORM's CARD OF 'propylonlaw31.DocpackJust'. -/
def docpackJustUptoCard : Claim7 := { stood := { row := docpackJustUptoRow, standIns := [], harness := (true, "d978f048b879e8a0e690f6c2c7c46b4ca03dd2892a141df5054b3603220fb143"), looks := false }, kinds := [], alts := [], laidByText := true, laidKinds := [.data, .data, .data], laidTests := true, laidLooks := .later }
def DocpackJustUptoCardSaid : Prop := Claim7.holds Tryz.pinned (.plain (OpenSpec.upto docpackJustSpec)) docpackJustUptoCard

/-- THE SECOND FORM's CARD OF 'propylonlaw31.DocpackExts'. -/
def docpackExtsUptoCard : Claim7 := { stood := { row := docpackExtsUptoRow, standIns := [], harness := (true, "d978f048b879e8a0e690f6c2c7c46b4ca03dd2892a141df5054b3603220fb143"), looks := false }, kinds := [], alts := [], laidByText := true, laidKinds := [.data, .data, .data], laidTests := true, laidLooks := .later }
def DocpackExtsUptoCardSaid : Prop := Claim7.holds Tryz.pinned (.plain (OpenSpec.upto docpackExtsSpec)) docpackExtsUptoCard
end Rows
end Go.Proofs.YtoadlhkggdbfkaaGreatDoor
