/-
  DERIVED. GIVEN WITH THE SEED: THE CARDS: each row of YticoeljejdcofaaGreatDoorRows.lean that lists a variable, with what it lists TIED to the program's text (the seventh form; the later family's looks); each row that meets fmt, with fmt's text TOLD by the authors' own Lean function (tested against real Go, not proved from fmt's source: count such statements apart). THE CARD IS WHAT COUNTS. Prove the row's statement (the work); the ties are given (YticoeljejdcofaaGreatDoorTie.lean); close each card by the builder's one call (the guide's Derived/Test/ToyasCard.lean, 'card_holds'). Laid BY PROGRAM, IN A SANDBOX (cutbox-door.mjs). By AI agents, Wed Nov 11 2026. No macro, syntax, notation, axiom, sorry.
-/
import Derived.Test.YticoeljejdcofaaGreatDoorRows
import GoSem.ClaimSeven
namespace Go.Proofs.YticoeljejdcofaaGreatDoor
namespace Rows

/-- THE TIED CARD OF 'propylonlaw26.RelaxWrites'. -/
def relaxWritesCard : Claim7 := { stood := { row := relaxWritesRow, standIns := [], harness := (true, "e837a4836eff7b6b08ddbd66a3263243c15cfec2d4c36fe8cdd9d2e83a691672"), looks := true }, kinds := [], alts := [], laidByText := true, laidKinds := [.data, .data, .data, .data, .sentinel, .sentinel, .pinned], laidTests := true, laidLooks := .later }
def RelaxWritesCardSaid : Prop := Claim7.holds Tryz.pinned (.plain (OpenSpec.ofChange relaxWritesSpec)) relaxWritesCard

/-- THE TIED CARD OF 'propylonlaw26.RelaxKeeps'. -/
def relaxKeepsCard : Claim7 := { stood := { row := relaxKeepsRow, standIns := [], harness := (true, "e837a4836eff7b6b08ddbd66a3263243c15cfec2d4c36fe8cdd9d2e83a691672"), looks := true }, kinds := [], alts := [], laidByText := true, laidKinds := [.data, .data, .data, .data, .sentinel, .sentinel, .pinned], laidTests := true, laidLooks := .later }
def RelaxKeepsCardSaid : Prop := Claim7.holds Tryz.pinned (.plain (OpenSpec.ofChange relaxKeepsSpec)) relaxKeepsCard

/-- THE TIED CARD OF 'propylonlaw26.RelaxOnce'. -/
def relaxOnceCard : Claim7 := { stood := { row := relaxOnceRow, standIns := [], harness := (true, "e837a4836eff7b6b08ddbd66a3263243c15cfec2d4c36fe8cdd9d2e83a691672"), looks := true }, kinds := [], alts := [], laidByText := true, laidKinds := [.data, .data, .data, .data, .sentinel, .sentinel, .pinned], laidTests := true, laidLooks := .later }
def RelaxOnceCardSaid : Prop := Claim7.holds Tryz.pinned (.plain (OpenSpec.ofChange relaxOnceSpec)) relaxOnceCard

/-- THE TIED CARD OF 'propylonlaw26.RelaxOne'. -/
def relaxOneCard : Claim7 := { stood := { row := relaxOneRow, standIns := [], harness := (true, "e837a4836eff7b6b08ddbd66a3263243c15cfec2d4c36fe8cdd9d2e83a691672"), looks := true }, kinds := [], alts := [], laidByText := true, laidKinds := [.data, .data, .data, .data, .sentinel, .sentinel, .pinned], laidTests := true, laidLooks := .later }
def RelaxOneCardSaid : Prop := Claim7.holds Tryz.pinned (.plain (OpenSpec.ofChange relaxOneSpec)) relaxOneCard

/-- THE SECOND FORM's CARD OF 'propylonlaw26.RelaxWrites'. -/
def relaxWritesUptoCard : Claim7 := { stood := { row := relaxWritesUptoRow, standIns := [], harness := (true, "e837a4836eff7b6b08ddbd66a3263243c15cfec2d4c36fe8cdd9d2e83a691672"), looks := true }, kinds := [], alts := [], laidByText := true, laidKinds := [.data, .data, .data, .data, .sentinel, .sentinel, .pinned], laidTests := true, laidLooks := .later }
def RelaxWritesUptoCardSaid : Prop := Claim7.holds Tryz.pinned (.plain (OpenSpec.upto relaxWritesSpec)) relaxWritesUptoCard

/-- THE SECOND FORM's CARD OF 'propylonlaw26.RelaxKeeps'. -/
def relaxKeepsUptoCard : Claim7 := { stood := { row := relaxKeepsUptoRow, standIns := [], harness := (true, "e837a4836eff7b6b08ddbd66a3263243c15cfec2d4c36fe8cdd9d2e83a691672"), looks := true }, kinds := [], alts := [], laidByText := true, laidKinds := [.data, .data, .data, .data, .sentinel, .sentinel, .pinned], laidTests := true, laidLooks := .later }
def RelaxKeepsUptoCardSaid : Prop := Claim7.holds Tryz.pinned (.plain (OpenSpec.upto relaxKeepsSpec)) relaxKeepsUptoCard

/-- THE SECOND FORM's CARD OF 'propylonlaw26.RelaxOnce'. -/
def relaxOnceUptoCard : Claim7 := { stood := { row := relaxOnceUptoRow, standIns := [], harness := (true, "e837a4836eff7b6b08ddbd66a3263243c15cfec2d4c36fe8cdd9d2e83a691672"), looks := true }, kinds := [], alts := [], laidByText := true, laidKinds := [.data, .data, .data, .data, .sentinel, .sentinel, .pinned], laidTests := true, laidLooks := .later }
def RelaxOnceUptoCardSaid : Prop := Claim7.holds Tryz.pinned (.plain (OpenSpec.upto relaxOnceSpec)) relaxOnceUptoCard

/-- THE SECOND FORM's CARD OF 'propylonlaw26.RelaxOne'. -/
def relaxOneUptoCard : Claim7 := { stood := { row := relaxOneUptoRow, standIns := [], harness := (true, "e837a4836eff7b6b08ddbd66a3263243c15cfec2d4c36fe8cdd9d2e83a691672"), looks := true }, kinds := [], alts := [], laidByText := true, laidKinds := [.data, .data, .data, .data, .sentinel, .sentinel, .pinned], laidTests := true, laidLooks := .later }
def RelaxOneUptoCardSaid : Prop := Claim7.holds Tryz.pinned (.plain (OpenSpec.upto relaxOneSpec)) relaxOneUptoCard
end Rows
end Go.Proofs.YticoeljejdcofaaGreatDoor
