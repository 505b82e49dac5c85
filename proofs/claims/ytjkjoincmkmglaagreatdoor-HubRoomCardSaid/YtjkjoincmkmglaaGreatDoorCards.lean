/-
  DERIVED. GIVEN WITH THE SEED: THE CARDS: each row of YtjkjoincmkmglaaGreatDoorRows.lean that lists a variable, with what it lists TIED to the program's text (the seventh form; the later family's looks); each row that meets fmt, with fmt's text TOLD by the authors' own Lean function (tested against real Go, not proved from fmt's source: count such statements apart). THE CARD IS WHAT COUNTS. Prove the row's statement (the work); the ties are given (YtjkjoincmkmglaaGreatDoorTie.lean); close each card by the builder's one call (the guide's Derived/Test/ToyasCard.lean, 'card_holds'). Laid BY PROGRAM, IN A SANDBOX (cutbox-door.mjs). By AI agents, Wed Nov 11 2026. No macro, syntax, notation, axiom, sorry.
-/
import Derived.Test.YtjkjoincmkmglaaGreatDoorRows
import GoSem.ClaimSeven
namespace Go.Proofs.YtjkjoincmkmglaaGreatDoor
namespace Rows

/-- THE TIED CARD OF 'propylonlaw33.HubRoom'. -/
def hubRoomCard : Claim7 := { stood := { row := hubRoomRow, standIns := [], harness := (true, "43e67df4ef15f585bd8817323c8c1a399bae157ecf10e0d63a99f673607eadf1"), looks := true }, kinds := [], alts := [], laidByText := true, laidKinds := [.data, .data, .data, .data, .sentinel, .sentinel, .pinned], laidTests := true, laidLooks := .later }
def HubRoomCardSaid : Prop := Claim7.holds Tryz.pinned (.plain (OpenSpec.ofChange hubRoomSpec)) hubRoomCard

/-- THE TIED CARD OF 'propylontop.TopStream'. -/
def topStreamCard : Claim7 := { stood := { row := topStreamRow, standIns := [], harness := (true, "43e67df4ef15f585bd8817323c8c1a399bae157ecf10e0d63a99f673607eadf1"), looks := true }, kinds := [], alts := [], laidByText := true, laidKinds := [.data, .data, .data, .data, .sentinel, .sentinel, .pinned], laidTests := true, laidLooks := .later }
def TopStreamCardSaid : Prop := Claim7.holds Tryz.pinned (.plain (OpenSpec.ofChange topStreamSpec)) topStreamCard

/-- THE SECOND FORM's CARD OF 'propylonlaw33.HubRoom'. -/
def hubRoomUptoCard : Claim7 := { stood := { row := hubRoomUptoRow, standIns := [], harness := (true, "43e67df4ef15f585bd8817323c8c1a399bae157ecf10e0d63a99f673607eadf1"), looks := true }, kinds := [], alts := [], laidByText := true, laidKinds := [.data, .data, .data, .data, .sentinel, .sentinel, .pinned], laidTests := true, laidLooks := .later }
def HubRoomUptoCardSaid : Prop := Claim7.holds Tryz.pinned (.plain (OpenSpec.upto hubRoomSpec)) hubRoomUptoCard

/-- THE SECOND FORM's CARD OF 'propylontop.TopStream'. -/
def topStreamUptoCard : Claim7 := { stood := { row := topStreamUptoRow, standIns := [], harness := (true, "43e67df4ef15f585bd8817323c8c1a399bae157ecf10e0d63a99f673607eadf1"), looks := true }, kinds := [], alts := [], laidByText := true, laidKinds := [.data, .data, .data, .data, .sentinel, .sentinel, .pinned], laidTests := true, laidLooks := .later }
def TopStreamUptoCardSaid : Prop := Claim7.holds Tryz.pinned (.plain (OpenSpec.upto topStreamSpec)) topStreamUptoCard
end Rows
end Go.Proofs.YtjkjoincmkmglaaGreatDoor
