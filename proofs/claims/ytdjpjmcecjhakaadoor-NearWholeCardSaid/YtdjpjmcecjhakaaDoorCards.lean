/-
  DERIVED. GIVEN WITH THE SEED: THE CARDS: each row of YtdjpjmcecjhakaaDoorRows.lean that lists a variable, with what it lists TIED to the program's text (the seventh form; the later family's looks); each row that meets fmt, with fmt's text TOLD by the authors' own Lean function (tested against real Go, not proved from fmt's source: count such statements apart). THE CARD IS WHAT COUNTS. Prove the row's statement (the work); the ties are given (YtdjpjmcecjhakaaDoorTie.lean); close each card by the builder's one call (the guide's Derived/Test/ToyasCard.lean, 'card_holds'). Laid BY PROGRAM, IN A SANDBOX (cutbox-door.mjs). By AI agents, Wed Nov 11 2026. No macro, syntax, notation, axiom, sorry.
-/
import Derived.Test.YtdjpjmcecjhakaaDoorRows
import GoSem.ClaimSeven
namespace Go.Proofs.YtdjpjmcecjhakaaDoor
namespace Rows

/-- THE TIED CARD OF 'propylonlaw12.NearReads'. -/
def nearReadsCard : Claim7 := { stood := { row := nearReadsRow, standIns := [], harness := (true, "32d09e8c545a9ae884f87aff453033596d12cf511eaaef6dba793e4a5bcec6c5"), looks := false }, kinds := [], alts := [], laidByText := true, laidKinds := [.data, .data, .pinned], laidTests := true, laidLooks := .later }
def NearReadsCardSaid : Prop := Claim7.holds Tryd.pinned (.plain (OpenSpec.ofChange nearReadsSpec)) nearReadsCard

/-- THE TIED CARD OF 'propylonlaw12.NearParses'. -/
def nearParsesCard : Claim7 := { stood := { row := nearParsesRow, standIns := [], harness := (true, "32d09e8c545a9ae884f87aff453033596d12cf511eaaef6dba793e4a5bcec6c5"), looks := false }, kinds := [], alts := [], laidByText := true, laidKinds := [.data, .data, .pinned], laidTests := true, laidLooks := .later }
def NearParsesCardSaid : Prop := Claim7.holds Tryd.pinned (.plain (OpenSpec.ofChange nearParsesSpec)) nearParsesCard

/-- THE TIED CARD OF 'propylonlaw12.NearRises'. -/
def nearRisesCard : Claim7 := { stood := { row := nearRisesRow, standIns := [], harness := (true, "32d09e8c545a9ae884f87aff453033596d12cf511eaaef6dba793e4a5bcec6c5"), looks := false }, kinds := [], alts := [], laidByText := true, laidKinds := [.data, .data, .pinned], laidTests := true, laidLooks := .later }
def NearRisesCardSaid : Prop := Claim7.holds Tryd.pinned (.plain (OpenSpec.ofChange nearRisesSpec)) nearRisesCard

/-- THE TIED CARD OF 'propylonlaw12.NearNoughts'. -/
def nearNoughtsCard : Claim7 := { stood := { row := nearNoughtsRow, standIns := [], harness := (true, "32d09e8c545a9ae884f87aff453033596d12cf511eaaef6dba793e4a5bcec6c5"), looks := false }, kinds := [], alts := [], laidByText := true, laidKinds := [.data, .data, .pinned], laidTests := true, laidLooks := .later }
def NearNoughtsCardSaid : Prop := Claim7.holds Tryd.pinned (.plain (OpenSpec.ofChange nearNoughtsSpec)) nearNoughtsCard

/-- THE TIED CARD OF 'propylonlaw12.NearWhole'. -/
def nearWholeCard : Claim7 := { stood := { row := nearWholeRow, standIns := [], harness := (true, "32d09e8c545a9ae884f87aff453033596d12cf511eaaef6dba793e4a5bcec6c5"), looks := false }, kinds := [], alts := [], laidByText := true, laidKinds := [.data, .data, .pinned], laidTests := true, laidLooks := .later }
def NearWholeCardSaid : Prop := Claim7.holds Tryd.pinned (.plain (OpenSpec.ofChange nearWholeSpec)) nearWholeCard

/-- THE SECOND FORM's CARD OF 'propylonlaw12.NearReads'. -/
def nearReadsUptoCard : Claim7 := { stood := { row := nearReadsUptoRow, standIns := [], harness := (true, "32d09e8c545a9ae884f87aff453033596d12cf511eaaef6dba793e4a5bcec6c5"), looks := false }, kinds := [], alts := [], laidByText := true, laidKinds := [.data, .data, .pinned], laidTests := true, laidLooks := .later }
def NearReadsUptoCardSaid : Prop := Claim7.holds Tryd.pinned (.plain (OpenSpec.upto nearReadsSpec)) nearReadsUptoCard

/-- THE SECOND FORM's CARD OF 'propylonlaw12.NearParses'. -/
def nearParsesUptoCard : Claim7 := { stood := { row := nearParsesUptoRow, standIns := [], harness := (true, "32d09e8c545a9ae884f87aff453033596d12cf511eaaef6dba793e4a5bcec6c5"), looks := false }, kinds := [], alts := [], laidByText := true, laidKinds := [.data, .data, .pinned], laidTests := true, laidLooks := .later }
def NearParsesUptoCardSaid : Prop := Claim7.holds Tryd.pinned (.plain (OpenSpec.upto nearParsesSpec)) nearParsesUptoCard

/-- THE SECOND FORM's CARD OF 'propylonlaw12.NearRises'. -/
def nearRisesUptoCard : Claim7 := { stood := { row := nearRisesUptoRow, standIns := [], harness := (true, "32d09e8c545a9ae884f87aff453033596d12cf511eaaef6dba793e4a5bcec6c5"), looks := false }, kinds := [], alts := [], laidByText := true, laidKinds := [.data, .data, .pinned], laidTests := true, laidLooks := .later }
def NearRisesUptoCardSaid : Prop := Claim7.holds Tryd.pinned (.plain (OpenSpec.upto nearRisesSpec)) nearRisesUptoCard

/-- THE SECOND FORM's CARD OF 'propylonlaw12.NearNoughts'. -/
def nearNoughtsUptoCard : Claim7 := { stood := { row := nearNoughtsUptoRow, standIns := [], harness := (true, "32d09e8c545a9ae884f87aff453033596d12cf511eaaef6dba793e4a5bcec6c5"), looks := false }, kinds := [], alts := [], laidByText := true, laidKinds := [.data, .data, .pinned], laidTests := true, laidLooks := .later }
def NearNoughtsUptoCardSaid : Prop := Claim7.holds Tryd.pinned (.plain (OpenSpec.upto nearNoughtsSpec)) nearNoughtsUptoCard

/-- THE SECOND FORM's CARD OF 'propylonlaw12.NearWhole'. -/
def nearWholeUptoCard : Claim7 := { stood := { row := nearWholeUptoRow, standIns := [], harness := (true, "32d09e8c545a9ae884f87aff453033596d12cf511eaaef6dba793e4a5bcec6c5"), looks := false }, kinds := [], alts := [], laidByText := true, laidKinds := [.data, .data, .pinned], laidTests := true, laidLooks := .later }
def NearWholeUptoCardSaid : Prop := Claim7.holds Tryd.pinned (.plain (OpenSpec.upto nearWholeSpec)) nearWholeUptoCard
end Rows
end Go.Proofs.YtdjpjmcecjhakaaDoor
