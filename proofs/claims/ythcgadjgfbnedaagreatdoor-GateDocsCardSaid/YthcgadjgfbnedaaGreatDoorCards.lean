/-
  DERIVED. GIVEN WITH THE SEED: THE CARDS: each row of YthcgadjgfbnedaaGreatDoorRows.lean that lists a variable, with what it lists TIED to the program's text (the seventh form; the later family's looks); each row that meets fmt, with fmt's text TOLD by the authors' own Lean function (tested against real Go, not proved from fmt's source: count such statements apart). THE CARD IS WHAT COUNTS. Prove the row's statement (the work); the ties are given (YthcgadjgfbnedaaGreatDoorTie.lean); close each card by the builder's one call (the guide's Derived/Test/ToyasCard.lean, 'card_holds'). Laid BY PROGRAM, IN A SANDBOX (cutbox-door.mjs). By AI agents, Wed Nov 11 2026. No macro, syntax, notation, axiom, sorry.
-/
import Derived.Test.YthcgadjgfbnedaaGreatDoorRows
import GoSem.ClaimSeven
namespace Go.Proofs.YthcgadjgfbnedaaGreatDoor
namespace Rows

/-- THE TIED CARD OF 'propylontop.TopJust'. -/
def topJustCard : Claim7 := { stood := { row := topJustRow, standIns := [], harness := (true, "df67836efa8c9ced4efebf388b9a8e0189f723d8f1de3a7d5bef81a395e2f0f6"), looks := true }, kinds := [], alts := [], laidByText := true, laidKinds := [.data, .data, .data, .data, .sentinel, .sentinel, .pinned], laidTests := true, laidLooks := .later }
def TopJustCardSaid : Prop := Claim7.holds Tryz.pinned (.plain (OpenSpec.ofChange topJustSpec)) topJustCard

/-- THE TIED CARD OF 'propylonlaw35.GateHolds'. -/
def gateHoldsCard : Claim7 := { stood := { row := gateHoldsRow, standIns := [], harness := (true, "df67836efa8c9ced4efebf388b9a8e0189f723d8f1de3a7d5bef81a395e2f0f6"), looks := true }, kinds := [], alts := [], laidByText := true, laidKinds := [.data, .data, .data, .data, .sentinel, .sentinel, .pinned], laidTests := true, laidLooks := .later }
def GateHoldsCardSaid : Prop := Claim7.holds Tryz.pinned (.plain (OpenSpec.ofChange gateHoldsSpec)) gateHoldsCard

/-- THE TIED CARD OF 'propylonlaw35.GateDocs'. -/
def gateDocsCard : Claim7 := { stood := { row := gateDocsRow, standIns := [], harness := (true, "df67836efa8c9ced4efebf388b9a8e0189f723d8f1de3a7d5bef81a395e2f0f6"), looks := true }, kinds := [], alts := [], laidByText := true, laidKinds := [.data, .data, .data, .data, .sentinel, .sentinel, .pinned], laidTests := true, laidLooks := .later }
def GateDocsCardSaid : Prop := Claim7.holds Tryz.pinned (.plain (OpenSpec.ofChange gateDocsSpec)) gateDocsCard

/-- THE SECOND FORM's CARD OF 'propylontop.TopJust'. -/
def topJustUptoCard : Claim7 := { stood := { row := topJustUptoRow, standIns := [], harness := (true, "df67836efa8c9ced4efebf388b9a8e0189f723d8f1de3a7d5bef81a395e2f0f6"), looks := true }, kinds := [], alts := [], laidByText := true, laidKinds := [.data, .data, .data, .data, .sentinel, .sentinel, .pinned], laidTests := true, laidLooks := .later }
def TopJustUptoCardSaid : Prop := Claim7.holds Tryz.pinned (.plain (OpenSpec.upto topJustSpec)) topJustUptoCard

/-- THE SECOND FORM's CARD OF 'propylonlaw35.GateHolds'. -/
def gateHoldsUptoCard : Claim7 := { stood := { row := gateHoldsUptoRow, standIns := [], harness := (true, "df67836efa8c9ced4efebf388b9a8e0189f723d8f1de3a7d5bef81a395e2f0f6"), looks := true }, kinds := [], alts := [], laidByText := true, laidKinds := [.data, .data, .data, .data, .sentinel, .sentinel, .pinned], laidTests := true, laidLooks := .later }
def GateHoldsUptoCardSaid : Prop := Claim7.holds Tryz.pinned (.plain (OpenSpec.upto gateHoldsSpec)) gateHoldsUptoCard

/-- THE SECOND FORM's CARD OF 'propylonlaw35.GateDocs'. -/
def gateDocsUptoCard : Claim7 := { stood := { row := gateDocsUptoRow, standIns := [], harness := (true, "df67836efa8c9ced4efebf388b9a8e0189f723d8f1de3a7d5bef81a395e2f0f6"), looks := true }, kinds := [], alts := [], laidByText := true, laidKinds := [.data, .data, .data, .data, .sentinel, .sentinel, .pinned], laidTests := true, laidLooks := .later }
def GateDocsUptoCardSaid : Prop := Claim7.holds Tryz.pinned (.plain (OpenSpec.upto gateDocsSpec)) gateDocsUptoCard
end Rows
end Go.Proofs.YthcgadjgfbnedaaGreatDoor
