/- Printed by seatgen.py. -/
import Derived.Test.YtenbejbhjgkibaaHexaP2
set_option linter.unusedVariables false
set_option linter.unusedSimpArgs false
namespace Go.Eng
theorem HexaBack.ok : SpecOK Go.Proofs.Try.prog (fun n => (noGl n).av) 4 (Ctr.fs (HexaBack.c, HexaBack.sg)) :=
  meets (l := HexaBack.env) (all_cons law3_awake.ok (all_cons hexa_Bytes.ok (all_cons hexa_Text.ok all_nil))) HexaBack.chk (by
    intro ins outs h
    unfold HexaBack.c at h
    split at h
    · cases h; exact ⟨rfl, HexaBack.goal _⟩
    · exact h.elim)
theorem HexaSpoilt.ok : SpecOK Go.Proofs.Try.prog (fun n => (noGl n).av) 6 (Ctr.fs (HexaSpoilt.c, HexaSpoilt.sg)) :=
  meets (l := HexaSpoilt.env) (all_cons law3_awake.ok (all_cons hexa_Bytes.ok (all_cons hexa_Text.ok all_nil))) HexaSpoilt.chk (by
    intro ins outs h
    unfold HexaSpoilt.c at h
    split at h
    · cases h; exact ⟨rfl, HexaSpoilt.goal _ _ _⟩
    · exact h.elim)
end Go.Eng
