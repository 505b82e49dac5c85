/-
  No cell of these rows narrows 'for every input' (looked for: loops, veiled, ifaces, maps, wideKeys, modest, calm, conditions, laid).
  DERIVED. THE GIVEN ROWS OF THIS SEAT. 4 by the template 'for every input the law returns true; each argument reads behind the call as it read before'; 0 by the template 'total and deterministic' (their statements: YtenbejbhjgkibaaTotals.lean).
  GIVEN WITH THE SEED: the statements are not yours to turn. If you find one false, say at which input.
  Laid BY PROGRAM, IN A SANDBOX (cutbox-rows.mjs): the forced cells as the released guide's own fill.sh prints them over the translation f8cc3d060ad8afd8… (all of the seat's roots in one cut). By AI agents, Wed Nov 11 2026. No macro, syntax, notation, axiom, sorry.
-/
import Derived.Test.YtenbejbhjgkibaaChecked
import GoSem.Claim
import GoSem.ClaimJoined
import GoSem.ClaimMapViews
import Derived.JoinedTies
import Derived.KernelRfl
namespace Go.Proofs.Ytenbejbhjgkibaa
/- THE CELL 'sum', in the pinned program and in every row, IS THE sha256 OF THE DUMP (.gsa) THAT YtenbejbhjgkibaaProg.lean LOADS. Nothing in Lean hashes anything: it is a label: what it is worth is what the hold of that sum in a sandbox is worth. -/
noncomputable def Try.pinned : Pinned := { name := "ytenbejbhjgkibaa", sum := "f8cc3d060ad8afd8baacbb0df71636368afbbb0626bfaa62eccd764bec2ae403", checked := Try.checked }
namespace Rows
def none {H : Type} : Left H := { results := [], args := [] }

/-- 'propylonlaw3.HexaTells': WHATEVER THE INPUT: true; the input reads as it did. -/
def hexaTellsSpec : ChangeSpec := { name := "hexaTells", fn := fun _ => fun
  | [d1, d2] => { results := [.lit (.bool true)], args := [d1, d2] }
  | _ => none }
def hexaTellsRow : OpenClaim := { program := "ytenbejbhjgkibaa", sum := "f8cc3d060ad8afd8baacbb0df71636368afbbb0626bfaa62eccd764bec2ae403", func := "propylon/propylonlaw3.HexaTells", spec := "hexaTells", apart := false }
def HexaTellsSaid : Prop := hexaTellsRow.holds Try.pinned (OpenSpec.ofChange hexaTellsSpec)

/-- ITS FALSE NEIGHBOUR: 'it returns false'. Refute it at one input. -/
def hexaTellsWrong : ChangeSpec := { name := "hexaTells", fn := fun _ => fun
  | [d1, d2] => { results := [.lit (.bool false)], args := [d1, d2] }
  | _ => none }
def HexaTellsWrongFalsely : Prop := hexaTellsRow.holds Try.pinned (OpenSpec.ofChange hexaTellsWrong)

/-- 'propylonlaw3.HexaBack': WHATEVER THE INPUT: true; the input reads as it did. -/
def hexaBackSpec : ChangeSpec := { name := "hexaBack", fn := fun _ => fun
  | [d] => { results := [.lit (.bool true)], args := [d] }
  | _ => none }
def hexaBackRow : OpenClaim := { program := "ytenbejbhjgkibaa", sum := "f8cc3d060ad8afd8baacbb0df71636368afbbb0626bfaa62eccd764bec2ae403", func := "propylon/propylonlaw3.HexaBack", spec := "hexaBack", apart := false }
def HexaBackSaid : Prop := hexaBackRow.holds Try.pinned (OpenSpec.ofChange hexaBackSpec)

/-- ITS FALSE NEIGHBOUR: 'it returns false'. Refute it at one input. -/
def hexaBackWrong : ChangeSpec := { name := "hexaBack", fn := fun _ => fun
  | [d] => { results := [.lit (.bool false)], args := [d] }
  | _ => none }
def HexaBackWrongFalsely : Prop := hexaBackRow.holds Try.pinned (OpenSpec.ofChange hexaBackWrong)

/-- 'propylonlaw3.HexaJoins': WHATEVER THE INPUT: true; the input reads as it did. -/
def hexaJoinsSpec : ChangeSpec := { name := "hexaJoins", fn := fun _ => fun
  | [d1, d2] => { results := [.lit (.bool true)], args := [d1, d2] }
  | _ => none }
def hexaJoinsRow : OpenClaim := { program := "ytenbejbhjgkibaa", sum := "f8cc3d060ad8afd8baacbb0df71636368afbbb0626bfaa62eccd764bec2ae403", func := "propylon/propylonlaw3.HexaJoins", spec := "hexaJoins", apart := false }
def HexaJoinsSaid : Prop := hexaJoinsRow.holds Try.pinned (OpenSpec.ofChange hexaJoinsSpec)

/-- ITS FALSE NEIGHBOUR: 'it returns false'. Refute it at one input. -/
def hexaJoinsWrong : ChangeSpec := { name := "hexaJoins", fn := fun _ => fun
  | [d1, d2] => { results := [.lit (.bool false)], args := [d1, d2] }
  | _ => none }
def HexaJoinsWrongFalsely : Prop := hexaJoinsRow.holds Try.pinned (OpenSpec.ofChange hexaJoinsWrong)

/-- 'propylonlaw3.HexaSpoilt': WHATEVER THE INPUT: true; the input reads as it did. -/
def hexaSpoiltSpec : ChangeSpec := { name := "hexaSpoilt", fn := fun _ => fun
  | [d1, d2, d3] => { results := [.lit (.bool true)], args := [d1, d2, d3] }
  | _ => none }
def hexaSpoiltRow : OpenClaim := { program := "ytenbejbhjgkibaa", sum := "f8cc3d060ad8afd8baacbb0df71636368afbbb0626bfaa62eccd764bec2ae403", func := "propylon/propylonlaw3.HexaSpoilt", spec := "hexaSpoilt", apart := false }
def HexaSpoiltSaid : Prop := hexaSpoiltRow.holds Try.pinned (OpenSpec.ofChange hexaSpoiltSpec)

/-- ITS FALSE NEIGHBOUR: 'it returns false'. Refute it at one input. -/
def hexaSpoiltWrong : ChangeSpec := { name := "hexaSpoilt", fn := fun _ => fun
  | [d1, d2, d3] => { results := [.lit (.bool false)], args := [d1, d2, d3] }
  | _ => none }
def HexaSpoiltWrongFalsely : Prop := hexaSpoiltRow.holds Try.pinned (OpenSpec.ofChange hexaSpoiltWrong)

/- THE SECOND FORM. 'bulk': how many values and letters a reading holds, each counted each time it is reached (what is shared counts as often as it is met; a slice's spare places count too). A statement '..UptoSaid' is the law's where the arguments, and the package variables that the reading takes, are together of bulk at most 1048576: NARROWER than '..Said'. Prove '..Said' where nothing that the law and all that it calls make is longer than what came in: it says more and counts as full. Else prove '..UptoSaid'. A law counts once. -/
mutual
def uptoBulk {H : Type} : DataW H → Nat
  | .lit (.string bytes) => bytes.length + 1
  | .lit _ => 1
  | .nil => 1
  | .ptr d => uptoBulk d + 1
  | .slice elems spare => uptoBulkAll elems + uptoBulkAll spare + 1
  | .agg parts => uptoBulkAll parts + 1
  | .iface _ d => uptoBulk d + 1
  | .map entries => uptoBulkEntries entries + 1
  | .held _ => 1
def uptoBulkAll {H : Type} : List (DataW H) → Nat
  | [] => 0
  | d :: r => uptoBulk d + uptoBulkAll r
def uptoBulkEntries {H : Type} : List (Lit × DataW H) → Nat
  | [] => 0
  | x :: r => uptoBulkEntry x + uptoBulkEntries r
def uptoBulkEntry {H : Type} : Lit × DataW H → Nat
  | (.string bytes, d) => bytes.length + uptoBulk d + 1
  | (_, d) => uptoBulk d + 1
 end
def uptoSmall : (H : Type) → List (DataW H) → Bool := fun _ ds => decide (uptoBulkAll ds ≤ 1048576)
def OpenSpec.upto (s : _root_.Go.ChangeSpec) : _root_.Go.OpenSpec := { _root_.Go.OpenSpec.ofChange s with cond := some uptoSmall }

/-- 'propylonlaw3.HexaTells', WHERE WHAT IT READS IS OF BULK AT MOST 1048576: true; the input reads as it did. -/
def hexaTellsUptoRow : OpenClaim := { program := "ytenbejbhjgkibaa", sum := "f8cc3d060ad8afd8baacbb0df71636368afbbb0626bfaa62eccd764bec2ae403", func := "propylon/propylonlaw3.HexaTells", spec := "hexaTells", apart := false, narrowed := true }
def HexaTellsUptoSaid : Prop := hexaTellsUptoRow.holds Try.pinned (OpenSpec.upto hexaTellsSpec)

/-- 'propylonlaw3.HexaBack', WHERE WHAT IT READS IS OF BULK AT MOST 1048576: true; the input reads as it did. -/
def hexaBackUptoRow : OpenClaim := { program := "ytenbejbhjgkibaa", sum := "f8cc3d060ad8afd8baacbb0df71636368afbbb0626bfaa62eccd764bec2ae403", func := "propylon/propylonlaw3.HexaBack", spec := "hexaBack", apart := false, narrowed := true }
def HexaBackUptoSaid : Prop := hexaBackUptoRow.holds Try.pinned (OpenSpec.upto hexaBackSpec)

/-- 'propylonlaw3.HexaJoins', WHERE WHAT IT READS IS OF BULK AT MOST 1048576: true; the input reads as it did. -/
def hexaJoinsUptoRow : OpenClaim := { program := "ytenbejbhjgkibaa", sum := "f8cc3d060ad8afd8baacbb0df71636368afbbb0626bfaa62eccd764bec2ae403", func := "propylon/propylonlaw3.HexaJoins", spec := "hexaJoins", apart := false, narrowed := true }
def HexaJoinsUptoSaid : Prop := hexaJoinsUptoRow.holds Try.pinned (OpenSpec.upto hexaJoinsSpec)

/-- 'propylonlaw3.HexaSpoilt', WHERE WHAT IT READS IS OF BULK AT MOST 1048576: true; the input reads as it did. -/
def hexaSpoiltUptoRow : OpenClaim := { program := "ytenbejbhjgkibaa", sum := "f8cc3d060ad8afd8baacbb0df71636368afbbb0626bfaa62eccd764bec2ae403", func := "propylon/propylonlaw3.HexaSpoilt", spec := "hexaSpoilt", apart := false, narrowed := true }
def HexaSpoiltUptoSaid : Prop := hexaSpoiltUptoRow.holds Try.pinned (OpenSpec.upto hexaSpoiltSpec)

end Rows
end Go.Proofs.Ytenbejbhjgkibaa
