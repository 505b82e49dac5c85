/- Appends, makes, calls; and all kinds together. -/
import Derived.Test.YtenbejbhjgkibaaEngP
set_option linter.unusedVariables false
set_option linter.unusedSimpArgs false
namespace Go.Eng
open Go.RowKit

section
variable {C : Ctx} {sg : Nat → FSig}

/-- Two arguments' types of an append of slices. -/
theorem apTypes {P : Program} {ats : Array TypeId} {s b : Nat} (h1 : ats.toList.length = 2) (h2 : (ats.toList.all fun t => sliceOK P t s b) = true) :
    ∃ t u e i z du, ats = #[t, u] ∧ P.underlying t = some (.slice e) ∧ P.info? e = some i ∧ i.size = s ∧ i.bytes = b ∧ i.zero = some z ∧ z.cells.size = i.size ∧ P.underlying u = some du ∧ (∀ k, du ≠ .int k) := by
  obtain ⟨t, u, h⟩ := len2 h1
  rw [h] at h2
  simp only [List.all_cons, List.all_nil, Bool.and_true, Bool.and_eq_true] at h2
  obtain ⟨e, i, z, q1, q2, q3, q4, q5, q6, q7⟩ := sliceOK_spec h2.1
  obtain ⟨e', i', z', r1, _⟩ := sliceOK_spec h2.2
  exact ⟨t, u, e, i, z, _, arr2 h, q1, q2, q3, q4, q5, q6.trans q3.symm, r1, by simp⟩
theorem apTypesS {P : Program} {ats : Array TypeId} {b : Nat} (h2 : (match ats.toList with | [t, u] => sliceOK P t 1 b && isByteSl P t && isStrT P u | _ => false) = true) :
    ∃ t u e i z du, ats = #[t, u] ∧ P.underlying t = some (.slice e) ∧ P.info? e = some i ∧ i.size = 1 ∧ i.bytes = b ∧ i.zero = some z ∧ z.cells.size = i.size ∧ P.underlying u = some du ∧ (∀ k, du ≠ .int k) := by
  split at h2
  · rename_i t u h
    simp only [Bool.and_eq_true] at h2
    obtain ⟨e, i, z, q1, q2, q3, q4, q5, q6, q7⟩ := sliceOK_spec h2.1.1
    exact ⟨t, u, e, i, z, _, arr2 h, q1, q2, q3, q4, q5, q6.trans q3.symm, isStrT_spec h2.2, by simp⟩
  · cases h2

theorem tail2 {rs : List Opd} {n a b : Nat} (h : (rs.drop n).map (fun r => match r with | Opd.s t => some t | _ => none) = [some a, some b]) : rs.drop n = [.s a, .s b] :=
  slots_eq (ks := [a, b]) h

theorem k_ap {k d' s b : Nat} : KindOK C sg (.ap k d' s b) := by
  intro D σ γ a w dst op ty pos after guard rs ds gd ws gs K' Q h ho hk hsm hs hg hK
  simp only [keysOK, Bool.and_eq_true, beq_iff_eq, List.map_cons, List.map_nil] at hk
  obtain ⟨⟨hk0, hk1⟩, hk2⟩ := hk
  obtain ⟨d, rfl, hl, rfl⟩ := dOK0 hk2
  simp only [opOK] at ho
  split at ho
  · rename_i args ats r q r3 r4
    simp only [Bool.and_eq_true, beq_iff_eq] at ho
    obtain ⟨⟨ho, h1⟩, h2⟩ := ho
    obtain ⟨t, u, e, i, z, du, rfl, q1, q2, q3, q4, q5, q6, q7, q8⟩ := apTypes h1 h2
    have ht := tail2 hk1
    simp only [List.drop_succ_cons, List.drop_zero, List.cons.injEq, and_true] at ht
    obtain ⟨rfl, rfl⟩ := ht
    obtain ⟨x, y, hx0⟩ := len2 (l := args.toList) (by rw [opdsOK_len ho]; rfl)
    rw [hx0] at ho
    obtain ⟨r', q', hrq, hx, hy⟩ := opds2 ho
    simp only [List.cons.injEq, and_true] at hrq
    obtain ⟨rfl, rfl⟩ := hrq
    have ea := arr2 hx0
    subst ea
    simp only [List.map_cons, List.map_nil, sem] at hs
    split at hs
    · rename_i s' es s'' fs v1 v2 heq
      simp only [List.cons.injEq, and_true] at heq
      obtain ⟨e1, e2, _⟩ := heq
      obtain ⟨rfl, rfl, p1, p2, p3, rfl⟩ := hs
      simp only [List.map_cons, List.map_nil, gsem] at hg
      split at hg
      · rename_i k1 s1 g s2 heq2
        simp only [List.cons.injEq, and_true, Opd.gh] at heq2
        obtain ⟨g1, g2, g3, g4⟩ := heq2
        split at hg
        · rename_i hc
          obtain ⟨rfl, rfl, rfl, hne⟩ := hc
          cases hg
          have hrep := (h.opd hy (small_mem hsm (by simp [Op.operands, Call.operands]))).rep (by rw [e2]; simp)
          rw [e2] at hrep
          obtain ⟨news, n1, n2, n3⟩ := Source.of_sl (P := C.P) hrep
          exact op_ap (q := q) h rfl hl rfl q1 q2 q5 q6 q7 q8 q3 hx (small_mem hsm (by simp [Op.operands, Call.operands])) e1 g1 g3 g4 hne n1 n2 p1 p2 (by rw [q4]; exact p3) hK
        · cases hg
      · cases hg
    · cases hs
  · cases ho

theorem k_aps {k d' b : Nat} : KindOK C sg (.aps k d' b) := by
  intro D σ γ a w dst op ty pos after guard rs ds gd ws gs K' Q h ho hk hsm hs hg hK
  simp only [keysOK, Bool.and_eq_true, beq_iff_eq, List.map_cons, List.map_nil] at hk
  obtain ⟨⟨hk0, hk1⟩, hk2⟩ := hk
  obtain ⟨d, rfl, hl, rfl⟩ := dOK0 hk2
  simp only [opOK] at ho
  split at ho
  · rename_i args ats r q r3 r4
    simp only [Bool.and_eq_true] at ho
    obtain ⟨ho, h2⟩ := ho
    obtain ⟨t, u, e, i, z, du, rfl, q1, q2, q3, q4, q5, q6, q7, q8⟩ := apTypesS h2
    have ht := tail2 hk1
    simp only [List.drop_succ_cons, List.drop_zero, List.cons.injEq, and_true] at ht
    obtain ⟨rfl, rfl⟩ := ht
    obtain ⟨x, y, hx0⟩ := len2 (l := args.toList) (by rw [opdsOK_len ho]; rfl)
    rw [hx0] at ho
    obtain ⟨r', q', hrq, hx, hy⟩ := opds2 ho
    simp only [List.cons.injEq, and_true] at hrq
    obtain ⟨rfl, rfl⟩ := hrq
    have ea := arr2 hx0
    subst ea
    simp only [List.map_cons, List.map_nil, sem] at hs
    split at hs
    · rename_i s' es bb v1 v2 heq
      simp only [List.cons.injEq, and_true] at heq
      obtain ⟨e1, e2, _⟩ := heq
      obtain ⟨rfl, p2, p3, rfl⟩ := hs
      simp only [List.map_cons, List.map_nil, gsem] at hg
      split at hg
      · rename_i k1 s1 g s2 heq2
        simp only [List.cons.injEq, and_true, Opd.gh] at heq2
        obtain ⟨g1, g2, g3, g4⟩ := heq2
        split at hg
        · rename_i hc
          obtain ⟨rfl, rfl, rfl, hne⟩ := hc
          cases hg
          have hrep := (h.opd hy (small_mem hsm (by simp [Op.operands, Call.operands]))).rep (by rw [e2]; simp)
          rw [e2] at hrep
          have hsrc : Source C.P w 1 (a.eval y) (bb.data.toList.map byteAV).length (bb.data.toList.map fun b => .int .u8 b.toNat) := by
            rw [hrep.v_inv, List.length_map]; exact Source.of_string bb
          exact op_ap (q := q) h rfl hl rfl q1 q2 q5 q6 q7 q8 q3 hx (small_mem hsm (by simp [Op.operands, Call.operands])) e1 g1 g3 g4 hne hsrc (by rw [bytes_cells]; exact bytes_repL _)
            (fun e he => by obtain ⟨x, _, rfl⟩ := List.mem_map.1 he; rfl) (by rw [List.length_map]; exact p2) (by rw [List.length_map, q4]; exact p3) hK
        · cases hg
      · cases hg
    · cases hs
  · cases ho

theorem nilArg {args : List Operand} {q : Opd} (h : (match args with | [.const (.slice none 0 0), x] => opdOK x q | _ => false) = true) : ∃ x, args = [.const (.slice none 0 0), x] ∧ opdOK x q = true := by
  split at h
  · exact ⟨_, rfl, h⟩
  · cases h

theorem k_an {d' s b : Nat} : KindOK C sg (.an d' s b) := by
  intro D σ γ a w dst op ty pos after guard rs ds gd ws gs K' Q h ho hk hsm hs hg hK
  simp only [keysOK, Bool.and_eq_true, beq_iff_eq, List.map_cons, List.map_nil] at hk
  obtain ⟨⟨hk0, hk1⟩, hk2⟩ := hk
  obtain ⟨d, rfl, hl, rfl⟩ := dOK0 hk2
  simp only [opOK] at ho
  split at ho
  · rename_i args ats q r2
    simp only [Bool.and_eq_true, beq_iff_eq] at ho
    obtain ⟨⟨ho, h1⟩, h2⟩ := ho
    obtain ⟨t, u, e, i, z, du, rfl, q1, q2, q3, q4, q5, q6, q7, q8⟩ := apTypes h1 h2
    simp only [List.drop_succ_cons, List.drop_zero, List.map_cons, List.map_nil, List.cons.injEq, and_true] at hk1
    have hq := mslot hk1
    subst hq
    obtain ⟨y, hy0, hy⟩ := nilArg ho
    have ea := arr2 hy0
    subst ea
    simp only [List.map_cons, List.map_nil, sem] at hs
    split at hs
    · rename_i s'' fs v1 heq
      simp only [List.cons.injEq, and_true] at heq
      obtain ⟨rfl, p1, p2, p3, rfl⟩ := hs
      simp only [List.map_cons, List.map_nil, gsem] at hg
      split at hg
      · rename_i g heq2
        simp only [List.cons.injEq, and_true, Opd.gh] at heq2
        cases hg
        have hrep := (h.opd hy (small_mem hsm (by simp [Op.operands, Call.operands]))).rep (by rw [heq.1]; simp)
        rw [heq.1] at hrep
        obtain ⟨news, n1, n2, n3⟩ := Source.of_sl (P := C.P) hrep
        exact op_an h rfl hl rfl q1 q2 q5 q6 q7 q8 q3 heq2.2 n1 n2 p1 p2 (by rw [q4]; exact p3) hK
      · cases hg
    · cases hs
  · cases ho

theorem k_ans {d' b : Nat} : KindOK C sg (.ans d' b) := by
  intro D σ γ a w dst op ty pos after guard rs ds gd ws gs K' Q h ho hk hsm hs hg hK
  simp only [keysOK, Bool.and_eq_true, beq_iff_eq, List.map_cons, List.map_nil] at hk
  obtain ⟨⟨hk0, hk1⟩, hk2⟩ := hk
  obtain ⟨d, rfl, hl, rfl⟩ := dOK0 hk2
  simp only [opOK] at ho
  split at ho
  · rename_i args ats q r2
    simp only [Bool.and_eq_true] at ho
    obtain ⟨ho, h2⟩ := ho
    obtain ⟨t, u, e, i, z, du, rfl, q1, q2, q3, q4, q5, q6, q7, q8⟩ := apTypesS h2
    simp only [List.drop_succ_cons, List.drop_zero, List.map_cons, List.map_nil, List.cons.injEq, and_true] at hk1
    have hq := mslot hk1
    subst hq
    obtain ⟨y, hy0, hy⟩ := nilArg ho
    have ea := arr2 hy0
    subst ea
    simp only [List.map_cons, List.map_nil, sem] at hs
    split at hs
    · rename_i bb v1 heq
      simp only [List.cons.injEq, and_true] at heq
      obtain ⟨p2, p3, rfl⟩ := hs
      simp only [List.map_cons, List.map_nil, gsem] at hg
      split at hg
      · rename_i g heq2
        simp only [List.cons.injEq, and_true, Opd.gh] at heq2
        cases hg
        have hrep := (h.opd hy (small_mem hsm (by simp [Op.operands, Call.operands]))).rep (by rw [heq.1]; simp)
        rw [heq.1] at hrep
        have hsrc : Source C.P w 1 (a.eval y) (bb.data.toList.map byteAV).length (bb.data.toList.map fun b => .int .u8 b.toNat) := by
          rw [hrep.v_inv, List.length_map]; exact Source.of_string bb
        exact op_an h rfl hl rfl q1 q2 q5 q6 q7 q8 q3 heq2.2 hsrc (by rw [bytes_cells]; exact bytes_repL _)
          (fun e he => by obtain ⟨x, _, rfl⟩ := List.mem_map.1 he; rfl) (by rw [List.length_map]; exact p2) (by rw [List.length_map, q4]; exact p3) hK
      · cases hg
    · cases hs
  · cases ho

theorem k_mk {d' s b : Nat} {z : AV} : KindOK C sg (.mk d' s b z) := by
  intro D σ γ a w dst op ty pos after guard rs ds gd ws gs K' Q h ho hk hsm hs hg hK
  simp only [keysOK, Bool.and_eq_true, beq_iff_eq, List.map_cons, List.map_nil] at hk
  obtain ⟨⟨hk0, hk1⟩, hk2⟩ := hk
  obtain ⟨d, rfl, hl, rfl⟩ := dOK0 hk2
  simp only [opOK] at ho
  split at ho
  · rename_i t l c r q r3
    simp only [Bool.and_eq_true] at ho
    obtain ⟨⟨ht, ho⟩, hz⟩ := ho
    obtain ⟨e, i, zv, q1, q2, q3, q4, q5, q6, q7⟩ := sliceOK_spec ht
    obtain ⟨r', q', hrq, hx, hy⟩ := opds2 ho
    simp only [List.cons.injEq, and_true] at hrq
    obtain ⟨rfl, rfl⟩ := hrq
    simp only [List.drop_succ_cons, List.drop_zero, List.map_cons, List.map_nil, List.cons.injEq, and_true] at hk1
    have hq := mslot hk1
    subst hq
    have he : elemT C.P t = some e := by unfold elemT; rw [q1]; rfl
    rw [he] at hz
    simp only [Option.any_some, Bool.and_eq_true] at hz
    obtain ⟨i', zv', z1, z2, z3⟩ := zeroOK_spec hz.1
    rw [q2] at z1
    cases z1
    rw [q5] at z2
    cases z2
    simp only [List.map_cons, List.map_nil, sem] at hs
    split at hs
    · rename_i ll cc v1 heq
      simp only [List.cons.injEq, and_true] at heq
      obtain ⟨p1, p2, p3, p4, p5, p6, rfl⟩ := hs
      simp only [List.map_cons, List.map_nil, gsem] at hg
      split at hg
      · rename_i g1 g2 heq2
        simp only [List.cons.injEq, and_true, Opd.gh] at heq2
        cases hg
        exact op_mk h rfl hl rfl q1 q2 q3 q5 q6 q7 z3 hx hy (small_mem hsm (by simp [Op.operands])) (small_mem hsm (by simp [Op.operands])) heq.1 heq.2.1 p2 p3 p4 (by rw [q4]; exact p5) p6 heq2.2.2 hK
      · cases hg
    · cases hs
  · cases ho
end
end Go.Eng
