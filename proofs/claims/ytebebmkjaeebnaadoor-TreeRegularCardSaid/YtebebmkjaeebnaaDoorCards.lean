/-
  DERIVED. GIVEN WITH THE SEED: THE CARDS: each row of YtebebmkjaeebnaaDoorRows.lean that lists a variable, with what it lists TIED to the program's text (the seventh form; the later family's looks); each row that meets fmt, with fmt's text TOLD by the authors' own Lean function (tested against real Go, not proved from fmt's source: count such statements apart). THE CARD IS WHAT COUNTS. Prove the row's statement (the work); the ties are given (YtebebmkjaeebnaaDoorTie.lean); close each card by the builder's one call (the guide's Derived/Test/ToyasCard.lean, 'card_holds'). Laid BY PROGRAM, IN A SANDBOX (cutbox-door.mjs). By AI agents, Wed Nov 11 2026. No macro, syntax, notation, axiom, sorry.
-/
import Derived.Test.YtebebmkjaeebnaaDoorRows
import GoSem.ClaimSeven
namespace Go.Proofs.YtebebmkjaeebnaaDoor
namespace Rows

/-- THE TIED CARD OF 'propylonlaw17.TreeRegular'. -/
def treeRegularCard : Claim7 := { stood := { row := treeRegularRow, standIns := [], harness := (true, "1b02f688d941fa8197eed3717fd03ee7369a5db96a7f008623220868d378c38b"), looks := false }, kinds := [], alts := [], laidByText := true, laidKinds := [.data, .data, .data], laidTests := true, laidLooks := .later }
def TreeRegularCardSaid : Prop := Claim7.holds Tryd.pinned (.plain (OpenSpec.ofChange treeRegularSpec)) treeRegularCard

/-- THE TIED CARD OF 'propylonlaw17.TreeCounts'. -/
def treeCountsCard : Claim7 := { stood := { row := treeCountsRow, standIns := [], harness := (true, "1b02f688d941fa8197eed3717fd03ee7369a5db96a7f008623220868d378c38b"), looks := false }, kinds := [], alts := [], laidByText := true, laidKinds := [.data, .data, .data], laidTests := true, laidLooks := .later }
def TreeCountsCardSaid : Prop := Claim7.holds Tryd.pinned (.plain (OpenSpec.ofChange treeCountsSpec)) treeCountsCard

/-- THE SECOND FORM's CARD OF 'propylonlaw17.TreeRegular'. -/
def treeRegularUptoCard : Claim7 := { stood := { row := treeRegularUptoRow, standIns := [], harness := (true, "1b02f688d941fa8197eed3717fd03ee7369a5db96a7f008623220868d378c38b"), looks := false }, kinds := [], alts := [], laidByText := true, laidKinds := [.data, .data, .data], laidTests := true, laidLooks := .later }
def TreeRegularUptoCardSaid : Prop := Claim7.holds Tryd.pinned (.plain (OpenSpec.upto treeRegularSpec)) treeRegularUptoCard

/-- THE SECOND FORM's CARD OF 'propylonlaw17.TreeCounts'. -/
def treeCountsUptoCard : Claim7 := { stood := { row := treeCountsUptoRow, standIns := [], harness := (true, "1b02f688d941fa8197eed3717fd03ee7369a5db96a7f008623220868d378c38b"), looks := false }, kinds := [], alts := [], laidByText := true, laidKinds := [.data, .data, .data], laidTests := true, laidLooks := .later }
def TreeCountsUptoCardSaid : Prop := Claim7.holds Tryd.pinned (.plain (OpenSpec.upto treeCountsSpec)) treeCountsUptoCard
end Rows
end Go.Proofs.YtebebmkjaeebnaaDoor
