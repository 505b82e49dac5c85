/-
  DERIVED. GIVEN WITH THE SEED: THE CARDS: each row of YtfomkedednklbaaGreatDoorRows.lean that lists a variable, with what it lists TIED to the program's text (the seventh form; the later family's looks); each row that meets fmt, with fmt's text TOLD by the authors' own Lean function (tested against real Go, not proved from fmt's source: count such statements apart). THE CARD IS WHAT COUNTS. Prove the row's statement (the work); the ties are given (YtfomkedednklbaaGreatDoorTie.lean); close each card by the builder's one call (the guide's Derived/Test/ToyasCard.lean, 'card_holds'). Laid BY PROGRAM, IN A SANDBOX (cutbox-door.mjs). By AI agents, Wed Nov 11 2026. No macro, syntax, notation, axiom, sorry.
-/
import Derived.Test.YtfomkedednklbaaGreatDoorRows
import GoSem.ClaimSeven
namespace Go.Proofs.YtfomkedednklbaaGreatDoor
namespace Rows

/-- THE TIED CARD OF 'propylonlaw13.ShortDigits'. -/
def shortDigitsCard : Claim7 := { stood := { row := shortDigitsRow, standIns := [], harness := (true, "7e5a3684e21f922015555ee5c92944106af91fc73e11bd89521faca7e05607fd"), looks := false }, kinds := [], alts := [], laidByText := true, laidKinds := [.data, .data, .data, .data, .pinned], laidTests := true, laidLooks := .later }
def ShortDigitsCardSaid : Prop := Claim7.holds Tryz.pinned (.plain (OpenSpec.ofChange shortDigitsSpec)) shortDigitsCard

/-- THE TIED CARD OF 'propylonlaw13.ShortTexts'. -/
def shortTextsCard : Claim7 := { stood := { row := shortTextsRow, standIns := [], harness := (true, "7e5a3684e21f922015555ee5c92944106af91fc73e11bd89521faca7e05607fd"), looks := false }, kinds := [], alts := [], laidByText := true, laidKinds := [.data, .data, .data, .data, .pinned], laidTests := true, laidLooks := .later }
def ShortTextsCardSaid : Prop := Claim7.holds Tryz.pinned (.plain (OpenSpec.ofChange shortTextsSpec)) shortTextsCard

/-- THE TIED CARD OF 'propylonlaw13.ShortLeast'. -/
def shortLeastCard : Claim7 := { stood := { row := shortLeastRow, standIns := [], harness := (true, "7e5a3684e21f922015555ee5c92944106af91fc73e11bd89521faca7e05607fd"), looks := false }, kinds := [], alts := [], laidByText := true, laidKinds := [.data, .data, .data, .data, .pinned], laidTests := true, laidLooks := .later }
def ShortLeastCardSaid : Prop := Claim7.holds Tryz.pinned (.plain (OpenSpec.ofChange shortLeastSpec)) shortLeastCard

/-- THE TIED CARD OF 'propylonlaw13.ShortForm'. -/
def shortFormCard : Claim7 := { stood := { row := shortFormRow, standIns := [], harness := (true, "7e5a3684e21f922015555ee5c92944106af91fc73e11bd89521faca7e05607fd"), looks := false }, kinds := [], alts := [], laidByText := true, laidKinds := [.data, .data, .data, .data, .pinned], laidTests := true, laidLooks := .later }
def ShortFormCardSaid : Prop := Claim7.holds Tryz.pinned (.plain (OpenSpec.ofChange shortFormSpec)) shortFormCard

/-- THE TIED CARD OF 'propylonlaw13.ShortBack'. -/
def shortBackCard : Claim7 := { stood := { row := shortBackRow, standIns := [], harness := (true, "7e5a3684e21f922015555ee5c92944106af91fc73e11bd89521faca7e05607fd"), looks := false }, kinds := [], alts := [], laidByText := true, laidKinds := [.data, .data, .data, .data, .pinned], laidTests := true, laidLooks := .later }
def ShortBackCardSaid : Prop := Claim7.holds Tryz.pinned (.plain (OpenSpec.ofChange shortBackSpec)) shortBackCard

/-- THE SECOND FORM's CARD OF 'propylonlaw13.ShortDigits'. -/
def shortDigitsUptoCard : Claim7 := { stood := { row := shortDigitsUptoRow, standIns := [], harness := (true, "7e5a3684e21f922015555ee5c92944106af91fc73e11bd89521faca7e05607fd"), looks := false }, kinds := [], alts := [], laidByText := true, laidKinds := [.data, .data, .data, .data, .pinned], laidTests := true, laidLooks := .later }
def ShortDigitsUptoCardSaid : Prop := Claim7.holds Tryz.pinned (.plain (OpenSpec.upto shortDigitsSpec)) shortDigitsUptoCard

/-- THE SECOND FORM's CARD OF 'propylonlaw13.ShortTexts'. -/
def shortTextsUptoCard : Claim7 := { stood := { row := shortTextsUptoRow, standIns := [], harness := (true, "7e5a3684e21f922015555ee5c92944106af91fc73e11bd89521faca7e05607fd"), looks := false }, kinds := [], alts := [], laidByText := true, laidKinds := [.data, .data, .data, .data, .pinned], laidTests := true, laidLooks := .later }
def ShortTextsUptoCardSaid : Prop := Claim7.holds Tryz.pinned (.plain (OpenSpec.upto shortTextsSpec)) shortTextsUptoCard

/-- THE SECOND FORM's CARD OF 'propylonlaw13.ShortLeast'. -/
def shortLeastUptoCard : Claim7 := { stood := { row := shortLeastUptoRow, standIns := [], harness := (true, "7e5a3684e21f922015555ee5c92944106af91fc73e11bd89521faca7e05607fd"), looks := false }, kinds := [], alts := [], laidByText := true, laidKinds := [.data, .data, .data, .data, .pinned], laidTests := true, laidLooks := .later }
def ShortLeastUptoCardSaid : Prop := Claim7.holds Tryz.pinned (.plain (OpenSpec.upto shortLeastSpec)) shortLeastUptoCard

/-- THE SECOND FORM's CARD OF 'propylonlaw13.ShortForm'. -/
def shortFormUptoCard : Claim7 := { stood := { row := shortFormUptoRow, standIns := [], harness := (true, "7e5a3684e21f922015555ee5c92944106af91fc73e11bd89521faca7e05607fd"), looks := false }, kinds := [], alts := [], laidByText := true, laidKinds := [.data, .data, .data, .data, .pinned], laidTests := true, laidLooks := .later }
def ShortFormUptoCardSaid : Prop := Claim7.holds Tryz.pinned (.plain (OpenSpec.upto shortFormSpec)) shortFormUptoCard

/-- THE SECOND FORM's CARD OF 'propylonlaw13.ShortBack'. -/
def shortBackUptoCard : Claim7 := { stood := { row := shortBackUptoRow, standIns := [], harness := (true, "7e5a3684e21f922015555ee5c92944106af91fc73e11bd89521faca7e05607fd"), looks := false }, kinds := [], alts := [], laidByText := true, laidKinds := [.data, .data, .data, .data, .pinned], laidTests := true, laidLooks := .later }
def ShortBackUptoCardSaid : Prop := Claim7.holds Tryz.pinned (.plain (OpenSpec.upto shortBackSpec)) shortBackUptoCard
end Rows
end Go.Proofs.YtfomkedednklbaaGreatDoor
