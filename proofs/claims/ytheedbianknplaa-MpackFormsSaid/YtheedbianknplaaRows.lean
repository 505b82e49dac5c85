/-
  NARROWER THAN 'FOR EVERY INPUT', by the rows' own cells (each row's printed sentence says how): MpackWrites: loops · MpackBack: loops · MpackCut: loops.
  DERIVED. THE GIVEN ROWS OF THIS SEAT. 6 by the template 'for every input the law returns true; each argument reads behind the call as it read before'; 0 by the template 'total and deterministic' (their statements: YtheedbianknplaaTotals.lean).
  GIVEN WITH THE SEED: the statements are not yours to turn. If you find one false, say at which input.
  Laid BY PROGRAM, IN A SANDBOX (cutbox-rows.mjs): the forced cells as the released guide's own fill.sh prints them over the translation 4d66c7811bcece69… (all of the seat's roots in one cut). By AI agents, Wed Nov 11 2026. No macro, syntax, notation, axiom, sorry.
-/
import Derived.Test.YtheedbianknplaaChecked
import GoSem.Claim
import GoSem.ClaimJoined
import GoSem.ClaimMapViews
import Derived.JoinedTies
import Derived.KernelRfl
namespace Go.Proofs.Ytheedbianknplaa
/- THE CELL 'sum', in the pinned program and in every row, IS THE sha256 OF THE DUMP (.gsa) THAT YtheedbianknplaaProg.lean LOADS. Nothing in Lean hashes anything: it is a label: what it is worth is what the hold of that sum in a sandbox is worth. -/
noncomputable def Try.pinned : Pinned := { name := "ytheedbianknplaa", sum := "4d66c7811bcece69c8d773c63adb8836107f9a9f2ceecc9ca675ec5c81081264", checked := Try.checked }
namespace Rows
def none {H : Type} : Left H := { results := [], args := [] }

/-- 'propylonlaw29.MpackWrites': WHATEVER THE INPUT: true; the input reads as it did. -/
def mpackWritesSpec : ChangeSpec := { name := "mpackWrites", fn := fun _ => fun
  | [d] => { results := [.lit (.bool true)], args := [d] }
  | _ => none }
def mpackWritesRow : OpenClaim := { program := "ytheedbianknplaa", sum := "4d66c7811bcece69c8d773c63adb8836107f9a9f2ceecc9ca675ec5c81081264", func := "propylon/propylonlaw29.MpackWrites", spec := "mpackWrites", recurses := true, loops := true, apart := false }
def MpackWritesSaid : Prop := mpackWritesRow.holds Try.pinned (OpenSpec.ofChange mpackWritesSpec)

/-- ITS FALSE NEIGHBOUR: 'it returns false'. Refute it at one input. -/
def mpackWritesWrong : ChangeSpec := { name := "mpackWrites", fn := fun _ => fun
  | [d] => { results := [.lit (.bool false)], args := [d] }
  | _ => none }
def MpackWritesWrongFalsely : Prop := mpackWritesRow.holds Try.pinned (OpenSpec.ofChange mpackWritesWrong)

/-- 'propylonlaw29.MpackReads': WHATEVER THE INPUT: true; the input reads as it did. -/
def mpackReadsSpec : ChangeSpec := { name := "mpackReads", fn := fun _ => fun
  | [d1, d2] => { results := [.lit (.bool true)], args := [d1, d2] }
  | _ => none }
def mpackReadsRow : OpenClaim := { program := "ytheedbianknplaa", sum := "4d66c7811bcece69c8d773c63adb8836107f9a9f2ceecc9ca675ec5c81081264", func := "propylon/propylonlaw29.MpackReads", spec := "mpackReads", recurses := true, apart := false }
def MpackReadsSaid : Prop := mpackReadsRow.holds Try.pinned (OpenSpec.ofChange mpackReadsSpec)

/-- ITS FALSE NEIGHBOUR: 'it returns false'. Refute it at one input. -/
def mpackReadsWrong : ChangeSpec := { name := "mpackReads", fn := fun _ => fun
  | [d1, d2] => { results := [.lit (.bool false)], args := [d1, d2] }
  | _ => none }
def MpackReadsWrongFalsely : Prop := mpackReadsRow.holds Try.pinned (OpenSpec.ofChange mpackReadsWrong)

/-- 'propylonlaw29.MpackBack': WHATEVER THE INPUT: true; the input reads as it did. -/
def mpackBackSpec : ChangeSpec := { name := "mpackBack", fn := fun _ => fun
  | [d] => { results := [.lit (.bool true)], args := [d] }
  | _ => none }
def mpackBackRow : OpenClaim := { program := "ytheedbianknplaa", sum := "4d66c7811bcece69c8d773c63adb8836107f9a9f2ceecc9ca675ec5c81081264", func := "propylon/propylonlaw29.MpackBack", spec := "mpackBack", recurses := true, loops := true, apart := false }
def MpackBackSaid : Prop := mpackBackRow.holds Try.pinned (OpenSpec.ofChange mpackBackSpec)

/-- ITS FALSE NEIGHBOUR: 'it returns false'. Refute it at one input. -/
def mpackBackWrong : ChangeSpec := { name := "mpackBack", fn := fun _ => fun
  | [d] => { results := [.lit (.bool false)], args := [d] }
  | _ => none }
def MpackBackWrongFalsely : Prop := mpackBackRow.holds Try.pinned (OpenSpec.ofChange mpackBackWrong)

/-- 'propylonlaw29.MpackJust': WHATEVER THE INPUT: true; the input reads as it did. -/
def mpackJustSpec : ChangeSpec := { name := "mpackJust", fn := fun _ => fun
  | [d1, d2] => { results := [.lit (.bool true)], args := [d1, d2] }
  | _ => none }
def mpackJustRow : OpenClaim := { program := "ytheedbianknplaa", sum := "4d66c7811bcece69c8d773c63adb8836107f9a9f2ceecc9ca675ec5c81081264", func := "propylon/propylonlaw29.MpackJust", spec := "mpackJust", recurses := true, apart := false }
def MpackJustSaid : Prop := mpackJustRow.holds Try.pinned (OpenSpec.ofChange mpackJustSpec)

/-- ITS FALSE NEIGHBOUR: 'it returns false'. Refute it at one input. -/
def mpackJustWrong : ChangeSpec := { name := "mpackJust", fn := fun _ => fun
  | [d1, d2] => { results := [.lit (.bool false)], args := [d1, d2] }
  | _ => none }
def MpackJustWrongFalsely : Prop := mpackJustRow.holds Try.pinned (OpenSpec.ofChange mpackJustWrong)

/-- 'propylonlaw29.MpackCut': WHATEVER THE INPUT: true; the input reads as it did. -/
def mpackCutSpec : ChangeSpec := { name := "mpackCut", fn := fun _ => fun
  | [d1, d2, d3] => { results := [.lit (.bool true)], args := [d1, d2, d3] }
  | _ => none }
def mpackCutRow : OpenClaim := { program := "ytheedbianknplaa", sum := "4d66c7811bcece69c8d773c63adb8836107f9a9f2ceecc9ca675ec5c81081264", func := "propylon/propylonlaw29.MpackCut", spec := "mpackCut", recurses := true, loops := true, apart := false }
def MpackCutSaid : Prop := mpackCutRow.holds Try.pinned (OpenSpec.ofChange mpackCutSpec)

/-- ITS FALSE NEIGHBOUR: 'it returns false'. Refute it at one input. -/
def mpackCutWrong : ChangeSpec := { name := "mpackCut", fn := fun _ => fun
  | [d1, d2, d3] => { results := [.lit (.bool false)], args := [d1, d2, d3] }
  | _ => none }
def MpackCutWrongFalsely : Prop := mpackCutRow.holds Try.pinned (OpenSpec.ofChange mpackCutWrong)

/-- 'propylonlaw29.MpackForms': WHATEVER THE INPUT: true; the input reads as it did. -/
def mpackFormsSpec : ChangeSpec := { name := "mpackForms", fn := fun _ => fun
  | [d1, d2] => { results := [.lit (.bool true)], args := [d1, d2] }
  | _ => none }
def mpackFormsRow : OpenClaim := { program := "ytheedbianknplaa", sum := "4d66c7811bcece69c8d773c63adb8836107f9a9f2ceecc9ca675ec5c81081264", func := "propylon/propylonlaw29.MpackForms", spec := "mpackForms", recurses := true, apart := false }
def MpackFormsSaid : Prop := mpackFormsRow.holds Try.pinned (OpenSpec.ofChange mpackFormsSpec)

/-- ITS FALSE NEIGHBOUR: 'it returns false'. Refute it at one input. -/
def mpackFormsWrong : ChangeSpec := { name := "mpackForms", fn := fun _ => fun
  | [d1, d2] => { results := [.lit (.bool false)], args := [d1, d2] }
  | _ => none }
def MpackFormsWrongFalsely : Prop := mpackFormsRow.holds Try.pinned (OpenSpec.ofChange mpackFormsWrong)

/- THE SECOND FORM. 'bulk': how many values and letters a reading holds, each counted each time it is reached (what is shared counts as often as it is met; a slice's spare places count too). A statement '..UptoSaid' is the law's where the arguments, and the package variables that the reading takes, are together of bulk at most 1048576: NARROWER than '..Said'. Prove '..Said' where nothing that the law and all that it calls make is longer than what came in: it says more and counts as full. Else prove '..UptoSaid'. A law counts once. -/
mutual
def uptoBulk {H : Type} : DataW H → Nat
  | .lit (.string bytes) => bytes.length + 1
  | .lit _ => 1
  | .nil => 1
  | .ptr d => uptoBulk d + 1
  | .slice elems spare => uptoBulkAll elems + uptoBulkAll spare + 1
  | .agg parts => uptoBulkAll parts + 1
  | .iface _ d => uptoBulk d + 1
  | .map entries => uptoBulkEntries entries + 1
  | .held _ => 1
def uptoBulkAll {H : Type} : List (DataW H) → Nat
  | [] => 0
  | d :: r => uptoBulk d + uptoBulkAll r
def uptoBulkEntries {H : Type} : List (Lit × DataW H) → Nat
  | [] => 0
  | x :: r => uptoBulkEntry x + uptoBulkEntries r
def uptoBulkEntry {H : Type} : Lit × DataW H → Nat
  | (.string bytes, d) => bytes.length + uptoBulk d + 1
  | (_, d) => uptoBulk d + 1
 end
def uptoSmall : (H : Type) → List (DataW H) → Bool := fun _ ds => decide (uptoBulkAll ds ≤ 1048576)
def OpenSpec.upto (s : _root_.Go.ChangeSpec) : _root_.Go.OpenSpec := { _root_.Go.OpenSpec.ofChange s with cond := some uptoSmall }

/-- 'propylonlaw29.MpackWrites', WHERE WHAT IT READS IS OF BULK AT MOST 1048576: true; the input reads as it did. -/
def mpackWritesUptoRow : OpenClaim := { program := "ytheedbianknplaa", sum := "4d66c7811bcece69c8d773c63adb8836107f9a9f2ceecc9ca675ec5c81081264", func := "propylon/propylonlaw29.MpackWrites", spec := "mpackWrites", recurses := true, loops := true, apart := false, narrowed := true }
def MpackWritesUptoSaid : Prop := mpackWritesUptoRow.holds Try.pinned (OpenSpec.upto mpackWritesSpec)

/-- 'propylonlaw29.MpackReads', WHERE WHAT IT READS IS OF BULK AT MOST 1048576: true; the input reads as it did. -/
def mpackReadsUptoRow : OpenClaim := { program := "ytheedbianknplaa", sum := "4d66c7811bcece69c8d773c63adb8836107f9a9f2ceecc9ca675ec5c81081264", func := "propylon/propylonlaw29.MpackReads", spec := "mpackReads", recurses := true, apart := false, narrowed := true }
def MpackReadsUptoSaid : Prop := mpackReadsUptoRow.holds Try.pinned (OpenSpec.upto mpackReadsSpec)

/-- 'propylonlaw29.MpackBack', WHERE WHAT IT READS IS OF BULK AT MOST 1048576: true; the input reads as it did. -/
def mpackBackUptoRow : OpenClaim := { program := "ytheedbianknplaa", sum := "4d66c7811bcece69c8d773c63adb8836107f9a9f2ceecc9ca675ec5c81081264", func := "propylon/propylonlaw29.MpackBack", spec := "mpackBack", recurses := true, loops := true, apart := false, narrowed := true }
def MpackBackUptoSaid : Prop := mpackBackUptoRow.holds Try.pinned (OpenSpec.upto mpackBackSpec)

/-- 'propylonlaw29.MpackJust', WHERE WHAT IT READS IS OF BULK AT MOST 1048576: true; the input reads as it did. -/
def mpackJustUptoRow : OpenClaim := { program := "ytheedbianknplaa", sum := "4d66c7811bcece69c8d773c63adb8836107f9a9f2ceecc9ca675ec5c81081264", func := "propylon/propylonlaw29.MpackJust", spec := "mpackJust", recurses := true, apart := false, narrowed := true }
def MpackJustUptoSaid : Prop := mpackJustUptoRow.holds Try.pinned (OpenSpec.upto mpackJustSpec)

/-- 'propylonlaw29.MpackCut', WHERE WHAT IT READS IS OF BULK AT MOST 1048576: true; the input reads as it did. -/
def mpackCutUptoRow : OpenClaim := { program := "ytheedbianknplaa", sum := "4d66c7811bcece69c8d773c63adb8836107f9a9f2ceecc9ca675ec5c81081264", func := "propylon/propylonlaw29.MpackCut", spec := "mpackCut", recurses := true, loops := true, apart := false, narrowed := true }
def MpackCutUptoSaid : Prop := mpackCutUptoRow.holds Try.pinned (OpenSpec.upto mpackCutSpec)

/-- 'propylonlaw29.MpackForms', WHERE WHAT IT READS IS OF BULK AT MOST 1048576: true; the input reads as it did. -/
def mpackFormsUptoRow : OpenClaim := { program := "ytheedbianknplaa", sum := "4d66c7811bcece69c8d773c63adb8836107f9a9f2ceecc9ca675ec5c81081264", func := "propylon/propylonlaw29.MpackForms", spec := "mpackForms", recurses := true, apart := false, narrowed := true }
def MpackFormsUptoSaid : Prop := mpackFormsUptoRow.holds Try.pinned (OpenSpec.upto mpackFormsSpec)

end Rows
end Go.Proofs.Ytheedbianknplaa
