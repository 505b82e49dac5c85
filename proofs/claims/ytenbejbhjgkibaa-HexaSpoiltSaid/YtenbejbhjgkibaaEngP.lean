/- Each operation, whichever it is: those on memory. -/
import Derived.Test.YtenbejbhjgkibaaEngO
set_option linter.unusedVariables false
set_option linter.unusedSimpArgs false
namespace Go.Eng
open Go.RowKit

section
variable {C : Ctx} {sg : Nat → FSig}

theorem evalInt {D : Dyn} {σ : Sg} {γ : Ga} {a : Act} {w : World} (h : Sim C D σ γ a w) {x : Operand} {r : Opd} {k : IntKind} {i : Int} (hx : opdOK x r = true) (hs : small C.nt [x] = true) (hr : r.ev C.E σ = .v (.int k i)) : a.eval x = .int k i := by
  have e1 := (h.opd hx hs).rep (by rw [hr]; simp)
  rw [hr] at e1
  exact e1.v_inv

theorem mslot {r : Opd} {m : Nat} (h : (match r with | Opd.s t => some t | _ => none) = some m) : r = .s m := by
  cases r <;> simp at h; subst h; rfl

theorem slots_eq : ∀ {rs : List Opd} {ks : List Nat}, (rs.map fun r => match r with | Opd.s t => some t | _ => none) = ks.map some → rs = ks.map Opd.s
  | [], [], _ => rfl
  | r :: rs, k :: ks, h => by
    simp only [List.map_cons, List.cons.injEq] at h
    rw [mslot h.1, slots_eq h.2]; rfl
  | [], _ :: _, h => by simp at h
  | _ :: _, [], h => by simp at h

theorem k_sc {s : Nat} {lo hi : Bool} : KindOK C sg (.sc s lo hi) := by
  intro D σ γ a w dst op ty pos after guard rs ds gd ws gs K' Q h ho hk hsm hs hg hK
  obtain ⟨d, rfl, hl, rfl⟩ := dOK0 (l := []) hk
  simp only [gsem, Option.some.injEq] at hg
  subst hg
  simp only [opOK] at ho
  split at ho
  · rename_i t x l u
    simp only [Bool.and_eq_true, beq_iff_eq] at ho
    obtain ⟨⟨⟨ht, h1⟩, h2⟩, ho⟩ := ho
    obtain ⟨e, i, q1, q2, q3, q4⟩ := sliceOK'_spec ht
    subst h1; subst h2
    cases l with
    | none =>
      cases u with
      | none =>
        obtain ⟨r, rfl, hx⟩ := opds1 ho
        simp only [Option.isSome_none, List.map_cons, List.map_nil, sem] at hs
        split at hs
        · rename_i s' es heq
          simp only [List.cons.injEq, and_true] at heq
          obtain ⟨rfl, rfl⟩ := hs
          exact op_sc (l := 0) (u := es.length) h rfl hl rfl q1 q2 q3 hx (small_mem hsm (by simp [Op.operands])) heq (.inl ⟨rfl, rfl⟩) (.inl ⟨rfl, rfl⟩) (by omega) (by omega) (by simpa [updL] using hK)
        · cases hs
      | some y =>
        obtain ⟨r, q, rfl, hx, hy⟩ := opds2 ho
        simp only [Option.isSome_none, Option.isSome_some, List.map_cons, List.map_nil, sem] at hs
        split at hs
        · rename_i s' es k b heq
          simp only [List.cons.injEq, and_true] at heq
          obtain ⟨rfl, p1, p2, rfl⟩ := hs
          have hb := evalInt h hy (small_mem hsm (by simp [Op.operands])) heq.2
          exact op_sc (l := 0) (u := b.toNat) h rfl hl rfl q1 q2 q3 hx (small_mem hsm (by simp [Op.operands])) heq.1 (.inl ⟨rfl, rfl⟩) (.inr ⟨y, k, rfl, by rw [hb]; congr 1; omega⟩) (by omega) (by omega) (by simpa [updL] using hK)
        · cases hs
    | some y =>
      cases u with
      | none =>
        obtain ⟨r, q, rfl, hx, hy⟩ := opds2 ho
        simp only [Option.isSome_none, Option.isSome_some, List.map_cons, List.map_nil, sem] at hs
        split at hs
        · rename_i s' es k b heq
          simp only [List.cons.injEq, and_true] at heq
          obtain ⟨rfl, p1, p2, rfl⟩ := hs
          have hb := evalInt h hy (small_mem hsm (by simp [Op.operands])) heq.2
          exact op_sc (l := b.toNat) (u := es.length) h rfl hl rfl q1 q2 q3 hx (small_mem hsm (by simp [Op.operands])) heq.1 (.inr ⟨y, k, rfl, by rw [hb]; congr 1; omega⟩) (.inl ⟨rfl, rfl⟩) (by omega) (by omega) (by simpa [updL] using hK)
        · cases hs
      | some z =>
        obtain ⟨r, q, q', rfl, hx, hy, hz⟩ := opds3 ho
        simp only [Option.isSome_some, List.map_cons, List.map_nil, sem] at hs
        split at hs
        · rename_i s' es k b k' c heq
          simp only [List.cons.injEq, and_true] at heq
          obtain ⟨rfl, p1, p2, p3, rfl⟩ := hs
          have hb := evalInt h hy (small_mem hsm (by simp [Op.operands])) heq.2.1
          have hc := evalInt h hz (small_mem hsm (by simp [Op.operands])) heq.2.2
          exact op_sc (l := b.toNat) (u := c.toNat) h rfl hl rfl q1 q2 q3 hx (small_mem hsm (by simp [Op.operands])) heq.1 (.inr ⟨y, k, rfl, by rw [hb]; congr 1; omega⟩) (.inr ⟨z, k', rfl, by rw [hc]; congr 1; omega⟩) (by omega) (by omega) hK
        · cases hs
  · cases ho

theorem k_ss {lo hi : Bool} : KindOK C sg (.ss lo hi) := by
  intro D σ γ a w dst op ty pos after guard rs ds gd ws gs K' Q h ho hk hsm hs hg hK
  obtain ⟨d, rfl, hl, rfl⟩ := dOK0 (l := []) hk
  simp only [gsem, Option.some.injEq] at hg
  subst hg
  simp only [opOK] at ho
  split at ho
  · rename_i t x l u
    simp only [Bool.and_eq_true, beq_iff_eq] at ho
    obtain ⟨⟨⟨ht, h1⟩, h2⟩, ho⟩ := ho
    have q1 := isStrT_spec ht
    subst h1; subst h2
    cases l with
    | none =>
      cases u with
      | none =>
        obtain ⟨r, rfl, hx⟩ := opds1 ho
        simp only [Option.isSome_none, List.map_cons, List.map_nil, sem] at hs
        split at hs
        · rename_i b heq
          simp only [List.cons.injEq, and_true] at heq
          subst hs
          have e : (⟨⟨(b.data.toList.take b.data.toList.length).drop 0⟩⟩ : ByteArray) = b := by cases b with | mk t => cases t; simp
          exact op_ss (l := 0) (u := b.data.toList.length) h rfl hl rfl q1 hx (small_mem hsm (by simp [Op.operands])) heq (.inl ⟨rfl, rfl⟩) (.inl ⟨rfl, rfl⟩) (by omega) (by omega) (by rw [e]; exact hK)
        · cases hs
      | some y =>
        obtain ⟨r, q, rfl, hx, hy⟩ := opds2 ho
        simp only [Option.isSome_none, Option.isSome_some, List.map_cons, List.map_nil, sem] at hs
        split at hs
        · rename_i b k c heq
          simp only [List.cons.injEq, and_true] at heq
          obtain ⟨p1, p2, rfl⟩ := hs
          have hb := evalInt h hy (small_mem hsm (by simp [Op.operands])) heq.2
          exact op_ss (l := 0) (u := c.toNat) h rfl hl rfl q1 hx (small_mem hsm (by simp [Op.operands])) heq.1 (.inl ⟨rfl, rfl⟩) (.inr ⟨y, k, rfl, by rw [hb]; congr 1; omega⟩) (by omega) (by omega) (by simpa [updL] using hK)
        · cases hs
    | some y =>
      cases u with
      | none =>
        obtain ⟨r, q, rfl, hx, hy⟩ := opds2 ho
        simp only [Option.isSome_none, Option.isSome_some, List.map_cons, List.map_nil, sem] at hs
        split at hs
        · rename_i b k c heq
          simp only [List.cons.injEq, and_true] at heq
          obtain ⟨p1, p2, rfl⟩ := hs
          have hb := evalInt h hy (small_mem hsm (by simp [Op.operands])) heq.2
          exact op_ss (l := c.toNat) (u := b.data.toList.length) h rfl hl rfl q1 hx (small_mem hsm (by simp [Op.operands])) heq.1 (.inr ⟨y, k, rfl, by rw [hb]; congr 1; omega⟩) (.inl ⟨rfl, rfl⟩) (by omega) (by omega) (by rw [List.take_length]; exact hK)
        · cases hs
      | some z =>
        obtain ⟨r, q, q', rfl, hx, hy, hz⟩ := opds3 ho
        simp only [Option.isSome_some, List.map_cons, List.map_nil, sem] at hs
        split at hs
        · rename_i b k c k' e heq
          simp only [List.cons.injEq, and_true] at heq
          obtain ⟨p1, p2, p3, rfl⟩ := hs
          have hb := evalInt h hy (small_mem hsm (by simp [Op.operands])) heq.2.1
          have hc := evalInt h hz (small_mem hsm (by simp [Op.operands])) heq.2.2
          exact op_ss (l := c.toNat) (u := e.toNat) h rfl hl rfl q1 hx (small_mem hsm (by simp [Op.operands])) heq.1 (.inr ⟨y, k, rfl, by rw [hb]; congr 1; omega⟩) (.inr ⟨z, k', rfl, by rw [hc]; congr 1; omega⟩) (by omega) (by omega) hK
        · cases hs
  · cases ho

theorem k_bl {s n : Nat} : KindOK C sg (.bl s n) := by
  intro D σ γ a w dst op ty pos after guard rs ds gd ws gs K' Q h ho hk hsm hs hg hK
  obtain ⟨d, rfl, hl, rfl⟩ := dOK0 (l := []) hk
  simp only [gsem, Option.some.injEq] at hg
  subst hg
  simp only [opOK] at ho
  split at ho
  · simp only [Bool.and_eq_true, beq_iff_eq, decide_eq_true_eq] at ho
    obtain ⟨⟨⟨⟨h1, rfl⟩, h3⟩, h4⟩, h5⟩ := ho
    simp only [sem] at hs
    obtain ⟨p1, p2, rfl⟩ := hs
    exact op_bl h rfl hl rfl h1 h3 h4 h5 (small_sub hsm (by simp [Op.operands])) p2 hK
  · cases ho

theorem k_blt {s n k : Nat} : KindOK C sg (.blt s n k) := by
  intro D σ γ a w dst op ty pos after guard rs ds gd ws gs K' Q h ho hk hsm hs hg hK
  simp only [keysOK, Bool.and_eq_true] at hk
  obtain ⟨⟨hk0, hk1⟩, hk2⟩ := hk
  obtain ⟨d, rfl, hl, rfl⟩ := dOK0 hk2
  simp only [opOK] at ho
  split at ho
  · rename_i t len parts
    simp only [Bool.and_eq_true, beq_iff_eq, decide_eq_true_eq] at ho
    obtain ⟨⟨⟨⟨⟨h1, rfl⟩, h3⟩, h4⟩, h5⟩, h6⟩ := ho
    simp only [sem] at hs
    obtain ⟨p1, p2, rfl⟩ := hs
    simp only [gsem] at hg
    split at hg
    · rename_i hno
      cases hg
      rw [← List.map_drop] at hno
      have hdl : (rs.drop len).length = 1 := by simp; omega
      obtain ⟨q, hq⟩ := len1 hdl
      rw [hq] at hno hk1
      simp only [List.map_cons, List.map_nil, List.cons.injEq, and_true] at hno
      simp only [List.map_cons, List.map_nil, beq_iff_eq, List.cons.injEq, and_true] at hk1
      have hq' := mslot hk1
      subst hq'
      rw [← List.map_take] at p2
      simp only [← List.map_take] at hK
      exact op_blt h rfl hl rfl h1 h3 h4 h5 (small_sub hsm (by simp [Op.operands])) p2 hno hK
    · cases hg
  · cases ho

theorem k_bd {z : List AV} {pl : List (Nat × Nat)} : KindOK C sg (.bd z pl) := by
  intro D σ γ a w dst op ty pos after guard rs ds gd ws gs K' Q h ho hk hsm hs hg hK
  obtain ⟨d, rfl, hl, rfl⟩ := dOK0 (l := []) hk
  simp only [gsem, Option.some.injEq] at hg
  subst hg
  simp only [opOK] at ho
  split at ho
  · simp only [Bool.and_eq_true] at ho
    obtain ⟨⟨h1, h2⟩, h3⟩ := ho
    simp only [sem] at hs
    obtain ⟨cs, p1, rfl⟩ := hs
    exact op_bd h rfl hl rfl h1 h2 h3 (small_sub hsm (by simp [Op.operands])) p1 hK
  · cases ho

theorem k_al {m : Nat} {z : List AV} {ts : List (Nat × (Nat × Nat))} : KindOK C sg (.al m z ts) := by
  intro D σ γ a w dst op ty pos after guard rs ds gd ws gs K' Q h ho hk hsm hs hg hK
  simp only [keysOK, Bool.and_eq_true, decide_eq_true_eq, beq_iff_eq, List.drop_zero, Nat.zero_add] at hk
  obtain ⟨⟨⟨hm1, hm2⟩, hk0, hk1⟩, hk2⟩ := hk
  obtain ⟨d, rfl, hl, rfl⟩ := dOK0 hk2
  simp only [opOK] at ho
  split at ho
  · simp only [Bool.and_eq_true] at ho
    obtain ⟨h1, h2⟩ := ho
    simp only [sem] at hs
    subst hs
    simp only [gsem] at hg
    split at hg
    · rename_i hc
      cases hg
      obtain ⟨c1, c2, c3⟩ := hc
      have hrs := slots_eq hk1
      subst hrs
      simp only [List.map_map, List.all_eq_true, List.mem_map, decide_eq_true_eq] at c2
      refine op_al h rfl hl rfl h1 (fun q hq => ?_) (c2 _ ⟨m, by simp, rfl⟩) hm1 hm2 (fun t ht => c2 _ ⟨lk t.2.1, List.mem_cons.2 (.inr (List.mem_map.2 ⟨t, ht, rfl⟩)), rfl⟩) c3 hK
      have := List.all_eq_true.1 h2 q hq
      split at this
      · exact ⟨_, ‹_›⟩
      · cases this
    · cases hg
  · cases ho

theorem k_bx {m : Nat} : KindOK C sg (.bx m) := by
  intro D σ γ a w dst op ty pos after guard rs ds gd ws gs K' Q h ho hk hsm hs hg hK
  simp only [keysOK, Bool.and_eq_true, decide_eq_true_eq, beq_iff_eq] at hk
  obtain ⟨⟨⟨hm1, hm2⟩, hk0, hk1⟩, hk2⟩ := hk
  obtain ⟨d, rfl, hl, rfl⟩ := dOK0 hk2
  simp only [opOK] at ho
  split at ho
  · rename_i t x r rest
    simp at hk0
    obtain ⟨q, rfl⟩ := len1 hk0
    simp only [List.drop_succ_cons, List.drop_zero, List.map_cons, List.map_nil, List.cons.injEq, and_true] at hk1
    have hq := mslot hk1
    subst hq
    simp only [List.map_cons, List.map_nil, sem] at hs
    obtain ⟨p1, rfl⟩ := hs
    simp only [List.map_cons, List.map_nil, gsem] at hg
    split at hg
    · rename_i g heq
      simp only [List.cons.injEq, and_true, Opd.gh] at heq
      cases hg
      exact op_bx h rfl hl rfl ho (small_mem hsm (by simp [Op.operands])) p1 heq.2 hm1 hm2 hK
    · cases hg
  · cases ho

theorem k_ld {m o' n : Nat} {agg : Bool} : KindOK C sg (.ld m o' n agg) := by
  intro D σ γ a w dst op ty pos after guard rs ds gd ws gs K' Q h ho hk hsm hs hg hK
  simp only [keysOK, Bool.and_eq_true, decide_eq_true_eq, beq_iff_eq] at hk
  obtain ⟨⟨⟨hm1, hm2⟩, hk0, hk1⟩, hk2⟩ := hk
  obtain ⟨d, rfl, hl, rfl⟩ := dOK0 (l := []) hk2
  simp only [opOK] at ho
  split at ho
  · rename_i t x r rest
    simp at hk0
    obtain ⟨q, rfl⟩ := len1 hk0
    simp only [List.drop_succ_cons, List.drop_zero, List.map_cons, List.map_nil, List.cons.injEq, and_true] at hk1
    have hq := mslot hk1
    subst hq
    simp only [Bool.and_eq_true] at ho
    obtain ⟨ht, ho⟩ := ho
    obtain ⟨inf, h1, h2, h3, h4⟩ := shapeOK_spec ht
    simp only [List.map_cons, List.map_nil, sem] at hs
    split at hs
    · rename_i cs heq
      simp only [List.cons.injEq, and_true, Opd.ev] at heq
      obtain ⟨x', p1, rfl⟩ := hs
      simp only [List.map_cons, List.map_nil, gsem] at hg
      split at hg
      · rename_i m' o'' ts heq2
        simp only [List.cons.injEq, and_true, Opd.gh] at heq2
        split at hg
        · rename_i hc
          obtain ⟨rfl, rfl⟩ := hc
          cases hg
          exact op_ld h rfl hl rfl h1 h2 h3 h4 ho (small_mem hsm (by simp [Op.operands])) heq.1 heq2.1 heq2.2 heq.2 p1 hK
        · cases hg
      · cases hg
    · cases hs
  · cases ho

theorem k_st {m o' n : Nat} : KindOK C sg (.st m o' n) := by
  intro D σ γ a w dst op ty pos after guard rs ds gd ws gs K' Q h ho hk hsm hs hg hK
  simp only [keysOK, Bool.and_eq_true, decide_eq_true_eq, beq_iff_eq, Option.isNone_iff_eq_none] at hk
  obtain ⟨⟨⟨⟨hm1, hm2⟩, rfl⟩, rfl⟩, hk1⟩ := hk
  simp only [opOK] at ho
  split at ho
  · rename_i t x v p q r
    simp only [Bool.and_eq_true, beq_iff_eq] at ho
    obtain ⟨⟨ht, hx⟩, hv⟩ := ho
    obtain ⟨inf, h1, h2⟩ := sizeT_spec ht
    cases q with
    | s j =>
      simp at hk1
      subst hk1
      simp only [List.map_cons, List.map_nil, sem] at hs
      split at hs
      · rename_i cs y heq
        simp only [List.cons.injEq, and_true, Opd.ev] at heq
        obtain ⟨e1, e2, e3⟩ := heq
        obtain ⟨p1, p2, p3, rfl⟩ := hs
        subst e3
        simp only [List.map_cons, List.map_nil, gsem] at hg
        split at hg
        · rename_i m' o'' ts g heq2
          simp only [List.cons.injEq, and_true, Opd.gh] at heq2
          obtain ⟨f1, f2, f3⟩ := heq2
          subst f3
          split at hg
          · rename_i hc
            obtain ⟨rfl, rfl⟩ := hc
            cases hg
            exact op_st h rfl rfl h1 h2 hx (small_mem hsm (by simp [Op.operands])) hv (small_mem hsm (by simp [Op.operands])) e1 f1 f2 e2 p1 p2 p3 hK
          · cases hg
        · cases hg
      · cases hs
    | c => simp at hk1
    | g => simp at hk1
  · cases ho

theorem k_fa {m o' dd : Nat} : KindOK C sg (.fa m o' dd) := by
  intro D σ γ a w dst op ty pos after guard rs ds gd ws gs K' Q h ho hk hsm hs hg hK
  obtain ⟨d, rfl, hl, rfl⟩ := dOK0 (l := []) hk
  simp only [opOK] at ho
  split at ho
  · rename_i t x f r
    simp only [Bool.and_eq_true] at ho
    obtain ⟨ht, hx⟩ := ho
    cases hf : fieldT C.P t f with
    | none => simp [hf] at ht
    | some fl =>
      simp only [hf, Option.any_some, Bool.and_eq_true, beq_iff_eq] at ht
      obtain ⟨h0, ht⟩ := ht
      cases hz : sizeT C.P fl.type with
      | none => simp [hz] at ht
      | some n =>
        simp [hz] at ht
        obtain ⟨inf, h1, h2⟩ := sizeT_spec hz
        obtain ⟨fs, hu, hfs⟩ := fieldT_spec hf
        simp only [List.map_cons, List.map_nil, sem] at hs
        split at hs
        · rename_i heq
          simp only [List.cons.injEq, and_true] at heq
          subst hs
          simp only [List.map_cons, List.map_nil, gsem] at hg
          split at hg
          · rename_i m' o'' heq2
            simp only [List.cons.injEq, and_true] at heq2
            split at hg
            · rename_i hc
              obtain ⟨rfl, rfl⟩ := hc
              cases hg
              exact op_fa h rfl hl rfl hu hfs h0 h1 (by omega) hx (small_mem hsm (by simp [Op.operands])) heq heq2 hK
            · cases hg
          · cases hg
        · cases hs
  · cases ho

theorem k_fr {o' n : Nat} {agg : Bool} : KindOK C sg (.fr o' n agg) := by
  intro D σ γ a w dst op ty pos after guard rs ds gd ws gs K' Q h ho hk hsm hs hg hK
  obtain ⟨d, rfl, hl, rfl⟩ := dOK0 (l := []) hk
  simp only [gsem, Option.some.injEq] at hg
  subst hg
  simp only [opOK] at ho
  split at ho
  · rename_i t x f r
    simp only [Bool.and_eq_true] at ho
    obtain ⟨ht, hx⟩ := ho
    cases hf : fieldT C.P t f with
    | none => simp [hf] at ht
    | some fl =>
      simp only [hf, Option.any_some, Bool.and_eq_true, beq_iff_eq, decide_eq_true_eq] at ht
      obtain ⟨⟨h0, ht⟩, hn⟩ := ht
      obtain ⟨inf, h1, h2, h3, h4⟩ := shapeOK_spec ht
      obtain ⟨fs, hu, hfs⟩ := fieldT_spec hf
      simp only [List.map_cons, List.map_nil, sem] at hs
      split at hs
      · rename_i cs heq
        simp only [List.cons.injEq, and_true] at heq
        obtain ⟨x', p1, rfl⟩ := hs
        exact op_fr h rfl hl rfl hu hfs h0 h1 h2 hn h4 hx (small_mem hsm (by simp [Op.operands])) heq p1 hK
      · cases hs
  · cases ho

theorem k_nc {m o' : Nat} : KindOK C sg (.nc m o') := by
  intro D σ γ a w dst op ty pos after guard rs ds gd ws gs K' Q h ho hk hsm hs hg hK
  obtain ⟨d, rfl, hl, rfl⟩ := dOK0 (l := []) hk
  simp only [opOK] at ho
  split at ho
  · simp only [List.map_cons, List.map_nil, sem] at hs
    split at hs
    · rename_i heq
      simp only [List.cons.injEq, and_true] at heq
      subst hs
      simp only [List.map_cons, List.map_nil, gsem] at hg
      split at hg
      · rename_i m' o'' heq2
        simp only [List.cons.injEq, and_true] at heq2
        split at hg
        · rename_i hc
          obtain ⟨rfl, rfl⟩ := hc
          cases hg
          exact op_nc h rfl hl rfl ho (small_mem hsm (by simp [Op.operands])) heq heq2 hK
        · cases hg
      · cases hg
    · cases hs
  · cases ho
end
end Go.Eng
