/-
  DERIVED. GIVEN WITH THE SEED: THE CARDS: each row of YthkfiedkcmpokaaGreatDoorRows.lean that lists a variable, with what it lists TIED to the program's text (the seventh form; the later family's looks); each row that meets fmt, with fmt's text TOLD by the authors' own Lean function (tested against real Go, not proved from fmt's source: count such statements apart). THE CARD IS WHAT COUNTS. Prove the row's statement (the work); the ties are given (YthkfiedkcmpokaaGreatDoorTie.lean); close each card by the builder's one call (the guide's Derived/Test/ToyasCard.lean, 'card_holds'). Laid BY PROGRAM, IN A SANDBOX (cutbox-door.mjs). By AI agents, Wed Nov 11 2026. No macro, syntax, notation, axiom, sorry.
-/
import Derived.Test.YthkfiedkcmpokaaGreatDoorRows
import GoSem.ClaimSeven
namespace Go.Proofs.YthkfiedkcmpokaaGreatDoor
namespace Rows

/-- THE TIED CARD OF 'propylonlaw25.CanonWrites'. -/
def canonWritesCard : Claim7 := { stood := { row := canonWritesRow, standIns := [], harness := (true, "d2e0fb97c18ddf6b4744ac5433cdf2a469a38b5bec8e1158f0bc18f636e0cca2"), looks := true }, kinds := [], alts := [], laidByText := true, laidKinds := [.data, .data, .data, .data, .pinned], laidTests := true, laidLooks := .later }
def CanonWritesCardSaid : Prop := Claim7.holds Tryz.pinned (.plain (OpenSpec.ofChange canonWritesSpec)) canonWritesCard

/-- THE TIED CARD OF 'propylonlaw26.RelaxWrites'. -/
def relaxWritesCard : Claim7 := { stood := { row := relaxWritesRow, standIns := [], harness := (true, "d2e0fb97c18ddf6b4744ac5433cdf2a469a38b5bec8e1158f0bc18f636e0cca2"), looks := true }, kinds := [], alts := [], laidByText := true, laidKinds := [.data, .data, .data, .data, .sentinel, .sentinel, .pinned], laidTests := true, laidLooks := .later }
def RelaxWritesCardSaid : Prop := Claim7.holds Tryz.pinned (.plain (OpenSpec.ofChange relaxWritesSpec)) relaxWritesCard

/-- THE SECOND FORM's CARD OF 'propylonlaw25.CanonWrites'. -/
def canonWritesUptoCard : Claim7 := { stood := { row := canonWritesUptoRow, standIns := [], harness := (true, "d2e0fb97c18ddf6b4744ac5433cdf2a469a38b5bec8e1158f0bc18f636e0cca2"), looks := true }, kinds := [], alts := [], laidByText := true, laidKinds := [.data, .data, .data, .data, .pinned], laidTests := true, laidLooks := .later }
def CanonWritesUptoCardSaid : Prop := Claim7.holds Tryz.pinned (.plain (OpenSpec.upto canonWritesSpec)) canonWritesUptoCard

/-- THE SECOND FORM's CARD OF 'propylonlaw26.RelaxWrites'. -/
def relaxWritesUptoCard : Claim7 := { stood := { row := relaxWritesUptoRow, standIns := [], harness := (true, "d2e0fb97c18ddf6b4744ac5433cdf2a469a38b5bec8e1158f0bc18f636e0cca2"), looks := true }, kinds := [], alts := [], laidByText := true, laidKinds := [.data, .data, .data, .data, .sentinel, .sentinel, .pinned], laidTests := true, laidLooks := .later }
def RelaxWritesUptoCardSaid : Prop := Claim7.holds Tryz.pinned (.plain (OpenSpec.upto relaxWritesSpec)) relaxWritesUptoCard
end Rows
end Go.Proofs.YthkfiedkcmpokaaGreatDoor
