/- Operations on private slices, whichever. -/
import Derived.Test.YtenbejbhjgkibaaEngQb
set_option linter.unusedVariables false
set_option linter.unusedSimpArgs false
namespace Go.Eng
open Go.RowKit

section
variable {C : Ctx} {sg : Nat → FSig}

theorem k_pss {k : Nat} : KindOK C sg (.pss k) := by
  intro D σ γ a w dst op ty pos after guard rs ds gd ws gs K' Q h ho hk hsm hs hg hK
  simp only [keysOK, Bool.and_eq_true] at hk
  obtain ⟨⟨hk0, hk1⟩, hk2⟩ := hk
  obtain ⟨d, rfl, hl, rfl⟩ := dOK0 hk2
  simp only [opOK] at ho
  split at ho
  · rename_i s u x r rest _ _
    simp only [Bool.and_eq_true] at ho
    obtain ⟨⟨ht, hu⟩, ho⟩ := ho
    obtain ⟨e, hu1, hu2⟩ := isByteSl_spec hu
    simp at hk0
    obtain ⟨q, rfl⟩ := len1 hk0
    cases q <;> simp at hk1
    subst hk1
    simp only [List.map_cons, List.map_nil, sem] at hs
    simp only [List.map_cons, List.map_nil, gsem] at hg
    split at hs
    · rename_i b y heq
      simp only [List.cons.injEq, and_true] at heq
      obtain ⟨hb, rfl⟩ := hs
      split at hg
      · rename_i g heq2
        simp only [List.cons.injEq, and_true, Opd.gh] at heq2
        cases hg
        exact op_pss h rfl hl rfl (isStrT_spec ht) hu1 hu2 ho (small_mem hsm (by simp [Op.operands])) heq.1 hb heq2.2 hK
      · cases hg
    · cases hs
  · cases ho

theorem k_pfz {k s : Nat} : KindOK C sg (.pfz k s) := by
  intro D σ γ a w dst op ty pos after guard rs ds gd ws gs K' Q h ho hk hsm hs hg hK
  simp only [keysOK, Bool.and_eq_true] at hk
  obtain ⟨⟨hk0, hk1⟩, hk2⟩ := hk
  have main : ∀ {x : Operand} {r q : Opd}, (op = .move x ∨ op = .assign x) → rs = [r, q] → opdOK x r = true → (⟨dst, op, ty, pos, after, guard⟩ : Oper).wp C.P a w K' Q := by
    intro x r q hop hrs hx
    subst hrs
    cases q <;> simp at hk1
    subst hk1
    cases r with
    | s j =>
      simp only [Bool.and_eq_true, decide_eq_true_eq] at hk2
      obtain ⟨hj, hk2⟩ := hk2
      obtain ⟨d, rfl, hl, rfl⟩ := dOK0 hk2
      simp only [List.map_cons, List.map_nil, sem] at hs
      simp only [List.map_cons, List.map_nil, gsem] at hg
      split at hs
      · rename_i s' es heq
        simp only [List.cons.injEq, and_true, Opd.ev] at heq
        obtain ⟨rfl, rfl⟩ := hs
        split at hg
        · rename_i k' s0 s1 heq2
          simp only [List.cons.injEq, and_true, Opd.gh] at heq2
          split at hg
          · rename_i hc
            obtain ⟨rfl, rfl⟩ := hc
            cases hg
            exact op_pfz h rfl hl hop hx hj heq.1 heq2.1 heq2.2 heq.2 hK
          · cases hg
        · cases hg
      · cases hs
    | c x => simp at hk2
    | g n => simp at hk2
  simp only [opOK] at ho
  split at ho
  · exact main (.inl rfl) rfl ho
  · exact main (.inr rfl) rfl ho
  · cases ho

theorem k_pln {k : Nat} : KindOK C sg (.pln k) := by
  intro D σ γ a w dst op ty pos after guard rs ds gd ws gs K' Q h ho hk hsm hs hg hK
  simp only [keysOK, Bool.and_eq_true] at hk
  obtain ⟨⟨hk0, hk1⟩, hk2⟩ := hk
  obtain ⟨d, rfl, hl, rfl⟩ := dOK0 (l := []) hk2
  simp only [opOK] at ho
  split at ho
  · rename_i args ats r rest
    simp only [Bool.and_eq_true, beq_iff_eq] at ho
    obtain ⟨⟨h1, h2⟩, ho⟩ := ho
    simp at hk0
    obtain ⟨q, rfl⟩ := len1 hk0
    cases q <;> simp at hk1
    subst hk1
    obtain ⟨t, ht⟩ := len1 h1
    rw [ht] at h2
    simp only [List.all_cons, List.all_nil, Bool.and_true] at h2
    obtain ⟨x, hx0⟩ := len1 (opdsOK_len ho)
    rw [hx0] at ho
    obtain ⟨r', e, hx⟩ := opds1 ho
    cases e
    have ea := arr1 hx0
    have et := arr1 ht
    subst ea; subst et
    obtain ⟨e, he⟩ := Option.isSome_iff_exists.1 h2
    simp only [List.map_cons, List.map_nil, sem] at hs
    simp only [List.map_cons, List.map_nil, gsem] at hg
    split at hs
    · rename_i s' es heq
      simp only [List.cons.injEq, and_true, Opd.ev] at heq
      subst hs
      split at hg
      · rename_i k' s0 s1 heq2
        simp only [List.cons.injEq, and_true, Opd.gh] at heq2
        split at hg
        · rename_i hc
          subst hc
          cases hg
          exact op_pln h rfl hl rfl (elemT_spec he) hx (small_mem hsm (by simp [Op.operands, Call.operands])) heq.1 heq2.1 heq2.2 heq.2 hK
        · cases hg
      · cases hg
    · cases hs
  · cases ho

theorem k_pix {k s : Nat} : KindOK C sg (.pix k s) := by
  intro D σ γ a w dst op ty pos after guard rs ds gd ws gs K' Q h ho hk hsm hs hg hK
  simp only [keysOK, Bool.and_eq_true] at hk
  obtain ⟨⟨hk0, hk1⟩, hk2⟩ := hk
  obtain ⟨d, rfl, hl, rfl⟩ := dOK0 (l := []) hk2
  simp only [opOK] at ho
  split at ho
  · rename_i t x y r q z
    simp only [Bool.and_eq_true] at ho
    obtain ⟨ht, ho⟩ := ho
    obtain ⟨e, inf, h1, h2, h3, h4⟩ := sliceOK'_spec ht
    obtain ⟨r', q', e', hx, hy⟩ := opds2 ho
    cases e'
    cases z <;> simp at hk1
    subst hk1
    simp only [List.map_cons, List.map_nil, sem] at hs
    simp only [List.map_cons, List.map_nil, gsem] at hg
    split at hs
    · rename_i ik i s' es heq
      simp only [List.cons.injEq, and_true, Opd.ev] at heq
      obtain ⟨rfl, h0, hlt, rfl⟩ := hs
      split at hg
      · rename_i k' s0 g0 s1 heq2
        simp only [List.cons.injEq, and_true, Opd.gh] at heq2
        split at hg
        · rename_i hc
          obtain ⟨rfl, rfl⟩ := hc
          cases hg
          exact op_pix h rfl hl rfl h1 h2 h3 hx hy (small_mem hsm (by simp [Op.operands])) (small_mem hsm (by simp [Op.operands])) heq.1 heq2.1 heq2.2.2 heq.2.2 heq.2.1 h0 hlt hK
        · cases hg
      · cases hg
    · cases hs
  · cases ho

theorem k_pfa {k dd : Nat} : KindOK C sg (.pfa k dd) := by
  intro D σ γ a w dst op ty pos after guard rs ds gd ws gs K' Q h ho hk hsm hs hg hK
  obtain ⟨d, rfl, hl, rfl⟩ := dOK0 (l := []) hk
  simp only [opOK] at ho
  split at ho
  · rename_i t x f r
    simp only [Bool.and_eq_true] at ho
    obtain ⟨ht, hx⟩ := ho
    cases hf : fieldT C.P t f with
    | none => simp [hf] at ht
    | some fl =>
      simp only [hf, Option.any_some, Bool.and_eq_true, beq_iff_eq] at ht
      obtain ⟨h0, ht⟩ := ht
      cases hz : sizeT C.P fl.type with
      | none => simp [hz] at ht
      | some n =>
        simp [hz] at ht
        obtain ⟨inf, h1, h2⟩ := sizeT_spec hz
        obtain ⟨fs, hu, hfs⟩ := fieldT_spec hf
        simp only [List.map_cons, List.map_nil, sem] at hs
        split at hs
        · rename_i i s o' heq
          simp only [List.cons.injEq, and_true] at heq
          subst hs
          simp only [List.map_cons, List.map_nil, gsem] at hg
          split at hg
          · rename_i k' heq2
            simp only [List.cons.injEq, and_true] at heq2
            split at hg
            · rename_i hc
              subst hc
              cases hg
              exact op_pfa h rfl hl rfl hu hfs h0 h1 (by omega) hx (small_mem hsm (by simp [Op.operands])) heq heq2 hK
            · cases hg
          · cases hg
        · cases hs
  · cases ho

theorem k_pld {k s n : Nat} {agg : Bool} : KindOK C sg (.pld k s n agg) := by
  intro D σ γ a w dst op ty pos after guard rs ds gd ws gs K' Q h ho hk hsm hs hg hK
  simp only [keysOK, Bool.and_eq_true] at hk
  obtain ⟨⟨hk0, hk1⟩, hk2⟩ := hk
  obtain ⟨d, rfl, hl, rfl⟩ := dOK0 (l := []) hk2
  simp only [opOK] at ho
  split at ho
  · rename_i t x r rest
    simp at hk0
    obtain ⟨q, rfl⟩ := len1 hk0
    cases q <;> simp at hk1
    subst hk1
    simp only [Bool.and_eq_true] at ho
    obtain ⟨ht, ho⟩ := ho
    obtain ⟨inf, h1, h2, h3, h4⟩ := shapeOK_spec ht
    simp only [List.map_cons, List.map_nil, sem] at hs
    split at hs
    · rename_i i s' o' s'' es heq
      simp only [List.cons.injEq, and_true, Opd.ev] at heq
      obtain ⟨e, y, rfl, rfl, he, hp, rfl⟩ := hs
      simp only [List.map_cons, List.map_nil, gsem] at hg
      split at hg
      · rename_i k' s1 heq2
        simp only [List.cons.injEq, and_true, Opd.gh] at heq2
        split at hg
        · rename_i hc
          obtain ⟨rfl, rfl⟩ := hc
          cases hg
          exact op_pld h rfl hl rfl h1 h2 h3 h4 ho (small_mem hsm (by simp [Op.operands])) heq.1 heq2.1 heq2.2 heq.2 he hp hK
        · cases hg
      · cases hg
    · cases hs
  · cases ho

theorem k_pst {k s n : Nat} : KindOK C sg (.pst k s n) := by
  intro D σ γ a w dst op ty pos after guard rs ds gd ws gs K' Q h ho hk hsm hs hg hK
  simp only [keysOK, Bool.and_eq_true, beq_iff_eq, Option.isNone_iff_eq_none] at hk
  obtain ⟨⟨rfl, rfl⟩, hk1⟩ := hk
  simp only [opOK] at ho
  split at ho
  · rename_i t x v p q r
    simp only [Bool.and_eq_true, beq_iff_eq] at ho
    obtain ⟨⟨ht, hx⟩, hv⟩ := ho
    obtain ⟨inf, h1, h2⟩ := sizeT_spec ht
    cases q with
    | s j =>
      simp at hk1
      subst hk1
      simp only [List.map_cons, List.map_nil, sem] at hs
      split at hs
      · rename_i i s' o' s'' es y heq
        simp only [List.cons.injEq, and_true, Opd.ev] at heq
        obtain ⟨e1, e2, e3⟩ := heq
        obtain ⟨e, e', rfl, rfl, he, p1, p2, p3, rfl⟩ := hs
        subst e3
        simp only [List.map_cons, List.map_nil, gsem] at hg
        split at hg
        · rename_i k' s1 g heq2
          simp only [List.cons.injEq, and_true, Opd.gh] at heq2
          split at hg
          · rename_i hc
            obtain ⟨rfl, rfl⟩ := hc
            cases hg
            exact op_pst h rfl rfl h1 h2 hx (small_mem hsm (by simp [Op.operands])) hv (small_mem hsm (by simp [Op.operands])) e1 heq2.1 heq2.2.1 e2 he p1 p2 p3 hK
          · cases hg
        · cases hg
      · cases hs
    | c x => simp at hk1
    | g n => simp at hk1
  · cases ho
end
end Go.Eng
