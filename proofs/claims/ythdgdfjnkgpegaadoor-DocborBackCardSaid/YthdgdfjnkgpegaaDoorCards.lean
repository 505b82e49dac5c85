/-
  DERIVED. GIVEN WITH THE SEED: THE CARDS: each row of YthdgdfjnkgpegaaDoorRows.lean that lists a variable, with what it lists TIED to the program's text (the seventh form; the later family's looks); each row that meets fmt, with fmt's text TOLD by the authors' own Lean function (tested against real Go, not proved from fmt's source: count such statements apart). THE CARD IS WHAT COUNTS. Prove the row's statement (the work); the ties are given (YthdgdfjnkgpegaaDoorTie.lean); close each card by the builder's one call (the guide's Derived/Test/ToyasCard.lean, 'card_holds'). Laid BY PROGRAM, IN A SANDBOX (cutbox-door.mjs). By AI agents, Wed Nov 11 2026. No macro, syntax, notation, axiom, sorry.
-/
import Derived.Test.YthdgdfjnkgpegaaDoorRows
import GoSem.ClaimSeven
namespace Go.Proofs.YthdgdfjnkgpegaaDoor
namespace Rows

/-- THE TIED CARD OF 'propylonlaw30.DocborItems'. -/
def docborItemsCard : Claim7 := { stood := { row := docborItemsRow, standIns := [], harness := (true, "99e79717348641bb28114c4d32a86460b842ccc0e3fffa901407989c6f2f2346"), looks := false }, kinds := [], alts := [], laidByText := true, laidKinds := [.data, .data, .data], laidTests := true, laidLooks := .later }
def DocborItemsCardSaid : Prop := Claim7.holds Tryd.pinned (.plain (OpenSpec.ofChange docborItemsSpec)) docborItemsCard

/-- THE TIED CARD OF 'propylonlaw30.DocborValues'. -/
def docborValuesCard : Claim7 := { stood := { row := docborValuesRow, standIns := [], harness := (true, "99e79717348641bb28114c4d32a86460b842ccc0e3fffa901407989c6f2f2346"), looks := false }, kinds := [], alts := [], laidByText := true, laidKinds := [.data, .data, .data], laidTests := true, laidLooks := .later }
def DocborValuesCardSaid : Prop := Claim7.holds Tryd.pinned (.plain (OpenSpec.ofChange docborValuesSpec)) docborValuesCard

/-- THE TIED CARD OF 'propylonlaw30.DocborBack'. -/
def docborBackCard : Claim7 := { stood := { row := docborBackRow, standIns := [], harness := (true, "99e79717348641bb28114c4d32a86460b842ccc0e3fffa901407989c6f2f2346"), looks := false }, kinds := [], alts := [], laidByText := true, laidKinds := [.data, .data, .data], laidTests := true, laidLooks := .later }
def DocborBackCardSaid : Prop := Claim7.holds Tryd.pinned (.plain (OpenSpec.ofChange docborBackSpec)) docborBackCard

/-- THE TIED CARD OF 'propylonlaw30.DocborJust'. -/
def docborJustCard : Claim7 := { stood := { row := docborJustRow, standIns := [], harness := (true, "99e79717348641bb28114c4d32a86460b842ccc0e3fffa901407989c6f2f2346"), looks := false }, kinds := [], alts := [], laidByText := true, laidKinds := [.data, .data, .data], laidTests := true, laidLooks := .later }
def DocborJustCardSaid : Prop := Claim7.holds Tryd.pinned (.plain (OpenSpec.ofChange docborJustSpec)) docborJustCard

/-- THE TIED CARD OF 'propylonlaw30.DocborTags'. -/
def docborTagsCard : Claim7 := { stood := { row := docborTagsRow, standIns := [], harness := (true, "99e79717348641bb28114c4d32a86460b842ccc0e3fffa901407989c6f2f2346"), looks := false }, kinds := [], alts := [], laidByText := true, laidKinds := [.data, .data, .data], laidTests := true, laidLooks := .later }
def DocborTagsCardSaid : Prop := Claim7.holds Tryd.pinned (.plain (OpenSpec.ofChange docborTagsSpec)) docborTagsCard

/-- THE SECOND FORM's CARD OF 'propylonlaw30.DocborItems'. -/
def docborItemsUptoCard : Claim7 := { stood := { row := docborItemsUptoRow, standIns := [], harness := (true, "99e79717348641bb28114c4d32a86460b842ccc0e3fffa901407989c6f2f2346"), looks := false }, kinds := [], alts := [], laidByText := true, laidKinds := [.data, .data, .data], laidTests := true, laidLooks := .later }
def DocborItemsUptoCardSaid : Prop := Claim7.holds Tryd.pinned (.plain (OpenSpec.upto docborItemsSpec)) docborItemsUptoCard

/-- THE SECOND FORM's CARD OF 'propylonlaw30.DocborValues'. -/
def docborValuesUptoCard : Claim7 := { stood := { row := docborValuesUptoRow, standIns := [], harness := (true, "99e79717348641bb28114c4d32a86460b842ccc0e3fffa901407989c6f2f2346"), looks := false }, kinds := [], alts := [], laidByText := true, laidKinds := [.data, .data, .data], laidTests := true, laidLooks := .later }
def DocborValuesUptoCardSaid : Prop := Claim7.holds Tryd.pinned (.plain (OpenSpec.upto docborValuesSpec)) docborValuesUptoCard

/-- THE SECOND FORM's CARD OF 'propylonlaw30.DocborBack'. -/
def docborBackUptoCard : Claim7 := { stood := { row := docborBackUptoRow, standIns := [], harness := (true, "99e79717348641bb28114c4d32a86460b842ccc0e3fffa901407989c6f2f2346"), looks := false }, kinds := [], alts := [], laidByText := true, laidKinds := [.data, .data, .data], laidTests := true, laidLooks := .later }
def DocborBackUptoCardSaid : Prop := Claim7.holds Tryd.pinned (.plain (OpenSpec.upto docborBackSpec)) docborBackUptoCard

/-- THE SECOND FORM's CARD OF 'propylonlaw30.DocborJust'. -/
def docborJustUptoCard : Claim7 := { stood := { row := docborJustUptoRow, standIns := [], harness := (true, "99e79717348641bb28114c4d32a86460b842ccc0e3fffa901407989c6f2f2346"), looks := false }, kinds := [], alts := [], laidByText := true, laidKinds := [.data, .data, .data], laidTests := true, laidLooks := .later }
def DocborJustUptoCardSaid : Prop := Claim7.holds Tryd.pinned (.plain (OpenSpec.upto docborJustSpec)) docborJustUptoCard

/-- THE SECOND FORM's CARD OF 'propylonlaw30.DocborTags'. -/
def docborTagsUptoCard : Claim7 := { stood := { row := docborTagsUptoRow, standIns := [], harness := (true, "99e79717348641bb28114c4d32a86460b842ccc0e3fffa901407989c6f2f2346"), looks := false }, kinds := [], alts := [], laidByText := true, laidKinds := [.data, .data, .data], laidTests := true, laidLooks := .later }
def DocborTagsUptoCardSaid : Prop := Claim7.holds Tryd.pinned (.plain (OpenSpec.upto docborTagsSpec)) docborTagsUptoCard
end Rows
end Go.Proofs.YthdgdfjnkgpegaaDoor
