/- Printed by seatgen.py. -/
import Derived.Test.YtenbejbhjgkibaaHexaP
set_option linter.unusedVariables false
set_option linter.unusedSimpArgs false
namespace Go.Eng
theorem hexa_digit.ok : SpecOK Go.Proofs.Try.prog (fun n => (noGl n).av) 12 (Ctr.fs (hexa_digit.c, hexa_digit.sg)) :=
  meets (l := hexa_digit.env) all_nil hexa_digit.chk (by
    intro ins outs h
    unfold hexa_digit.c at h
    split at h
    · cases h; exact ⟨rfl, hexa_digit.goal _⟩
    · exact h.elim)
theorem ref3_digit.ok : SpecOK Go.Proofs.Try.prog (fun n => (noGl n).av) 13 (Ctr.fs (ref3_digit.c, ref3_digit.sg)) :=
  meets (l := ref3_digit.env) all_nil ref3_digit.chk (by
    intro ins outs h
    unfold ref3_digit.c at h
    split at h
    · cases h; exact ⟨rfl, ref3_digit.goal _⟩
    · exact h.elim)
theorem hexa_Text.ok : SpecOK Go.Proofs.Try.prog (fun n => (noGl n).av) 10 (Ctr.fs (hexa_Text.c, hexa_Text.sg)) :=
  meets (l := hexa_Text.env) all_nil hexa_Text.chk (by
    intro ins outs h
    unfold hexa_Text.c at h
    split at h
    · obtain ⟨hp, rfl⟩ := h; exact ⟨rfl, hexa_Text.goal _ hp⟩
    · exact h.elim)
theorem ref3_Hex.ok : SpecOK Go.Proofs.Try.prog (fun n => (noGl n).av) 11 (Ctr.fs (ref3_Hex.c, ref3_Hex.sg)) :=
  meets (l := ref3_Hex.env) all_nil ref3_Hex.chk (by
    intro ins outs h
    unfold ref3_Hex.c at h
    split at h
    · obtain ⟨hp, rfl⟩ := h; exact ⟨rfl, ref3_Hex.goal _ hp⟩
    · exact h.elim)
theorem hexa_Bytes.ok : SpecOK Go.Proofs.Try.prog (fun n => (noGl n).av) 8 (Ctr.fs (hexa_Bytes.c, hexa_Bytes.sg)) :=
  meets (l := hexa_Bytes.env) (all_cons hexa_digit.ok all_nil) hexa_Bytes.chk (by
    intro ins outs h
    unfold hexa_Bytes.c at h
    split at h
    · obtain ⟨hp, rfl⟩ := h; exact ⟨rfl, hexa_Bytes.goal _ hp⟩
    · exact h.elim)
theorem ref3_Unhex.ok : SpecOK Go.Proofs.Try.prog (fun n => (noGl n).av) 9 (Ctr.fs (ref3_Unhex.c, ref3_Unhex.sg)) :=
  meets (l := ref3_Unhex.env) (all_cons ref3_digit.ok all_nil) ref3_Unhex.chk (by
    intro ins outs h
    unfold ref3_Unhex.c at h
    split at h
    · obtain ⟨hp, rfl⟩ := h; exact ⟨rfl, ref3_Unhex.goal _ hp⟩
    · exact h.elim)
theorem law3_awake.ok : SpecOK Go.Proofs.Try.prog (fun n => (noGl n).av) 7 (Ctr.fs (law3_awake.c, law3_awake.sg)) :=
  meets (l := law3_awake.env) (all_cons hexa_Bytes.ok (all_cons hexa_Text.ok all_nil)) law3_awake.chk (by
    intro ins outs h
    unfold law3_awake.c at h
    split at h
    · cases h; exact ⟨rfl, law3_awake.goal⟩
    · exact h.elim)
theorem HexaTells.ok : SpecOK Go.Proofs.Try.prog (fun n => (noGl n).av) 3 (Ctr.fs (HexaTells.c, HexaTells.sg)) :=
  meets (l := HexaTells.env) (all_cons law3_awake.ok (all_cons hexa_Bytes.ok (all_cons ref3_Unhex.ok (all_cons hexa_Text.ok (all_cons ref3_Hex.ok all_nil))))) HexaTells.chk (by
    intro ins outs h
    unfold HexaTells.c at h
    split at h
    · cases h; exact ⟨rfl, HexaTells.goal _ _⟩
    · exact h.elim)
theorem HexaJoins.ok : SpecOK Go.Proofs.Try.prog (fun n => (noGl n).av) 5 (Ctr.fs (HexaJoins.c, HexaJoins.sg)) :=
  meets (l := HexaJoins.env) (all_cons law3_awake.ok (all_cons hexa_Text.ok all_nil)) HexaJoins.chk (by
    intro ins outs h
    unfold HexaJoins.c at h
    split at h
    · cases h; exact ⟨rfl, HexaJoins.goal _ _⟩
    · exact h.elim)
end Go.Eng
