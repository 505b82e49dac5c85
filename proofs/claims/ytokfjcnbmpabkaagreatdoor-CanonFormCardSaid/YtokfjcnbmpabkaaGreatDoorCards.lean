/-
  DERIVED. GIVEN WITH THE SEED: THE CARDS: each row of YtokfjcnbmpabkaaGreatDoorRows.lean that lists a variable, with what it lists TIED to the program's text (the seventh form; the later family's looks); each row that meets fmt, with fmt's text TOLD by the authors' own Lean function (tested against real Go, not proved from fmt's source: count such statements apart). THE CARD IS WHAT COUNTS. Prove the row's statement (the work); the ties are given (YtokfjcnbmpabkaaGreatDoorTie.lean); close each card by the builder's one call (the guide's Derived/Test/ToyasCard.lean, 'card_holds'). Laid BY PROGRAM, IN A SANDBOX (cutbox-door.mjs). By AI agents, Wed Nov 11 2026. No macro, syntax, notation, axiom, sorry.
-/
import Derived.Test.YtokfjcnbmpabkaaGreatDoorRows
import GoSem.ClaimSeven
namespace Go.Proofs.YtokfjcnbmpabkaaGreatDoor
namespace Rows

/-- THE TIED CARD OF 'propylonlaw25.CanonWrites'. -/
def canonWritesCard : Claim7 := { stood := { row := canonWritesRow, standIns := [], harness := (true, "c7acd6b8dddb61cb82eafc470205a59e2461aa4132487cc3afa89d4d1564c58a"), looks := false }, kinds := [], alts := [], laidByText := true, laidKinds := [.data, .data, .data, .data, .pinned], laidTests := true, laidLooks := .later }
def CanonWritesCardSaid : Prop := Claim7.holds Tryz.pinned (.plain (OpenSpec.ofChange canonWritesSpec)) canonWritesCard

/-- THE TIED CARD OF 'propylonlaw25.CanonApart'. -/
def canonApartCard : Claim7 := { stood := { row := canonApartRow, standIns := [], harness := (true, "c7acd6b8dddb61cb82eafc470205a59e2461aa4132487cc3afa89d4d1564c58a"), looks := false }, kinds := [], alts := [], laidByText := true, laidKinds := [.data, .data, .data, .data, .pinned], laidTests := true, laidLooks := .later }
def CanonApartCardSaid : Prop := Claim7.holds Tryz.pinned (.plain (OpenSpec.ofChange canonApartSpec)) canonApartCard

/-- THE TIED CARD OF 'propylonlaw25.CanonForm'. -/
def canonFormCard : Claim7 := { stood := { row := canonFormRow, standIns := [], harness := (true, "c7acd6b8dddb61cb82eafc470205a59e2461aa4132487cc3afa89d4d1564c58a"), looks := false }, kinds := [], alts := [], laidByText := true, laidKinds := [.data, .data, .data, .data, .pinned], laidTests := true, laidLooks := .later }
def CanonFormCardSaid : Prop := Claim7.holds Tryz.pinned (.plain (OpenSpec.ofChange canonFormSpec)) canonFormCard

/-- THE TIED CARD OF 'propylonlaw25.CanonNames'. -/
def canonNamesCard : Claim7 := { stood := { row := canonNamesRow, standIns := [], harness := (true, "c7acd6b8dddb61cb82eafc470205a59e2461aa4132487cc3afa89d4d1564c58a"), looks := false }, kinds := [], alts := [], laidByText := true, laidKinds := [.data, .data, .data, .data, .pinned], laidTests := true, laidLooks := .later }
def CanonNamesCardSaid : Prop := Claim7.holds Tryz.pinned (.plain (OpenSpec.ofChange canonNamesSpec)) canonNamesCard

/-- THE SECOND FORM's CARD OF 'propylonlaw25.CanonWrites'. -/
def canonWritesUptoCard : Claim7 := { stood := { row := canonWritesUptoRow, standIns := [], harness := (true, "c7acd6b8dddb61cb82eafc470205a59e2461aa4132487cc3afa89d4d1564c58a"), looks := false }, kinds := [], alts := [], laidByText := true, laidKinds := [.data, .data, .data, .data, .pinned], laidTests := true, laidLooks := .later }
def CanonWritesUptoCardSaid : Prop := Claim7.holds Tryz.pinned (.plain (OpenSpec.upto canonWritesSpec)) canonWritesUptoCard

/-- THE SECOND FORM's CARD OF 'propylonlaw25.CanonApart'. -/
def canonApartUptoCard : Claim7 := { stood := { row := canonApartUptoRow, standIns := [], harness := (true, "c7acd6b8dddb61cb82eafc470205a59e2461aa4132487cc3afa89d4d1564c58a"), looks := false }, kinds := [], alts := [], laidByText := true, laidKinds := [.data, .data, .data, .data, .pinned], laidTests := true, laidLooks := .later }
def CanonApartUptoCardSaid : Prop := Claim7.holds Tryz.pinned (.plain (OpenSpec.upto canonApartSpec)) canonApartUptoCard

/-- THE SECOND FORM's CARD OF 'propylonlaw25.CanonForm'. -/
def canonFormUptoCard : Claim7 := { stood := { row := canonFormUptoRow, standIns := [], harness := (true, "c7acd6b8dddb61cb82eafc470205a59e2461aa4132487cc3afa89d4d1564c58a"), looks := false }, kinds := [], alts := [], laidByText := true, laidKinds := [.data, .data, .data, .data, .pinned], laidTests := true, laidLooks := .later }
def CanonFormUptoCardSaid : Prop := Claim7.holds Tryz.pinned (.plain (OpenSpec.upto canonFormSpec)) canonFormUptoCard

/-- THE SECOND FORM's CARD OF 'propylonlaw25.CanonNames'. -/
def canonNamesUptoCard : Claim7 := { stood := { row := canonNamesUptoRow, standIns := [], harness := (true, "c7acd6b8dddb61cb82eafc470205a59e2461aa4132487cc3afa89d4d1564c58a"), looks := false }, kinds := [], alts := [], laidByText := true, laidKinds := [.data, .data, .data, .data, .pinned], laidTests := true, laidLooks := .later }
def CanonNamesUptoCardSaid : Prop := Claim7.holds Tryz.pinned (.plain (OpenSpec.upto canonNamesSpec)) canonNamesUptoCard
end Rows
end Go.Proofs.YtokfjcnbmpabkaaGreatDoor
