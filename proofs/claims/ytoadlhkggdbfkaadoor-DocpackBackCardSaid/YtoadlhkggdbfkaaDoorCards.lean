/-
  DERIVED. GIVEN WITH THE SEED: THE CARDS: each row of YtoadlhkggdbfkaaDoorRows.lean that lists a variable, with what it lists TIED to the program's text (the seventh form; the later family's looks); each row that meets fmt, with fmt's text TOLD by the authors' own Lean function (tested against real Go, not proved from fmt's source: count such statements apart). THE CARD IS WHAT COUNTS. Prove the row's statement (the work); the ties are given (YtoadlhkggdbfkaaDoorTie.lean); close each card by the builder's one call (the guide's Derived/Test/ToyasCard.lean, 'card_holds'). Laid BY PROGRAM, IN A SANDBOX (cutbox-door.mjs). By AI agents, Wed Nov 11 2026. No macro, syntax, notation, axiom, sorry.
-/
import Derived.Test.YtoadlhkggdbfkaaDoorRows
import GoSem.ClaimSeven
namespace Go.Proofs.YtoadlhkggdbfkaaDoor
namespace Rows

/-- THE TIED CARD OF 'propylonlaw31.DocpackBack'. -/
def docpackBackCard : Claim7 := { stood := { row := docpackBackRow, standIns := [], harness := (true, "30a5e420cd34aff5ab5f22fe3daea5002f73095431023e7077e95fef18f91e05"), looks := false }, kinds := [], alts := [], laidByText := true, laidKinds := [.data, .data, .data], laidTests := true, laidLooks := .later }
def DocpackBackCardSaid : Prop := Claim7.holds Tryd.pinned (.plain (OpenSpec.ofChange docpackBackSpec)) docpackBackCard

/-- THE SECOND FORM's CARD OF 'propylonlaw31.DocpackBack'. -/
def docpackBackUptoCard : Claim7 := { stood := { row := docpackBackUptoRow, standIns := [], harness := (true, "30a5e420cd34aff5ab5f22fe3daea5002f73095431023e7077e95fef18f91e05"), looks := false }, kinds := [], alts := [], laidByText := true, laidKinds := [.data, .data, .data], laidTests := true, laidLooks := .later }
def DocpackBackUptoCardSaid : Prop := Claim7.holds Tryd.pinned (.plain (OpenSpec.upto docpackBackSpec)) docpackBackUptoCard
end Rows
end Go.Proofs.YtoadlhkggdbfkaaDoor
