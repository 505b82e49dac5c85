/- Each operation, whichever it is. -/
import Derived.Test.YtenbejbhjgkibaaEngN
set_option linter.unusedVariables false
set_option linter.unusedSimpArgs false
namespace Go.Eng
open Go.RowKit

section
variable {C : Ctx} {D : Dyn} {σ : Sg} {γ : Ga} {a : Act} {w : World}

theorem small_mem {nt : Nat} {l : List Operand} (h : small nt l = true) {x : Operand} (hx : x ∈ l) : small nt [x] = true := by
  simp only [small, List.all_cons, List.all_nil, Bool.and_true]
  exact List.all_eq_true.1 h x hx
theorem small_sub {nt : Nat} {l l' : List Operand} (h : small nt l = true) (hs : ∀ x ∈ l', x ∈ l) : small nt l' = true :=
  List.all_eq_true.2 fun x hx => List.all_eq_true.1 h x (hs x hx)

/-- 'ds' is the slot alone. -/
theorem dOK0 {nt : Nat} {dst : Option Nat} {l ds : List Nat} (h : (match dst with | some d => decide (d < nt) && ds == d :: l | none => false) = true) : ∃ d, dst = some d ∧ d < nt ∧ ds = d :: l := by
  cases dst with
  | none => cases h
  | some d => simp at h; exact ⟨d, rfl, h.1, h.2⟩

theorem len1 {α : Type} {l : List α} (h : l.length = 1) : ∃ x, l = [x] := by
  match l, h with
  | [x], _ => exact ⟨x, rfl⟩

theorem len2 {α : Type} {l : List α} (h : l.length = 2) : ∃ x y, l = [x, y] := by
  match l, h with
  | [x, y], _ => exact ⟨x, y, rfl⟩
theorem arr1 {α : Type} {l : Array α} {x : α} (h : l.toList = [x]) : l = #[x] := by apply Array.ext'; simpa using h
theorem arr2 {α : Type} {l : Array α} {x y : α} (h : l.toList = [x, y]) : l = #[x, y] := by apply Array.ext'; simpa using h

theorem opdsOK_len : ∀ {l : List Operand} {rs : List Opd}, opdsOK l rs = true → l.length = rs.length
  | [], [], _ => rfl
  | _ :: _, _ :: _, h => by simp [opdsOK] at h; simp [opdsOK_len h.2]
  | [], _ :: _, h => by simp [opdsOK] at h
  | _ :: _, [], h => by simp [opdsOK] at h

variable {sg : Nat → FSig} {dst : Option Nat} {op : Op} {ty : TypeId} {pos : String} {after : Array Edge} {guard : Option (Nat × Bool)} {k : K} {rs : List Opd} {ds : List Nat} {gd : Option (Nat × Bool)} {ws : List AV} {gs : List Gh}
  {K' : Act → World → Prop} {Q : Exit → Act → World → Prop}

/-- What is to be shown of a kind of operation. -/
def KindOK (C : Ctx) (sg : Nat → FSig) (k : K) : Prop :=
  ∀ {D : Dyn} {σ : Sg} {γ : Ga} {a : Act} {w : World} {dst : Option Nat} {op : Op} {ty : TypeId} {pos : String} {after : Array Edge} {guard : Option (Nat × Bool)} {rs : List Opd} {ds : List Nat} {gd : Option (Nat × Bool)} {ws : List AV} {gs : List Gh}
    {K' : Act → World → Prop} {Q : Exit → Act → World → Prop}, Sim C D σ γ a w → opOK C.P sg ⟨dst, op, ty, pos, after, guard⟩ ⟨k, rs, ds, gd⟩ = true → keysOK C.nt dst ⟨k, rs, ds, gd⟩ = true → small C.nt op.operands.toList = true →
    sem C.E k (rs.map (Opd.ev C.E σ)) ws → gsem k (rs.map (Opd.gh γ)) = some gs →
    (∀ D' a' w', Sim C D' (updL σ ds ws) (updL γ ds gs) a' w' → K' a' w') → (⟨dst, op, ty, pos, after, guard⟩ : Oper).wp C.P a w K' Q

theorem k_mv : KindOK C sg .mv := by
  intro D σ γ a w dst op ty pos after guard rs ds gd ws gs K' Q h ho hk hsm hs hg hK
  obtain ⟨d, rfl, hl, rfl⟩ := dOK0 (l := []) hk
  simp only [opOK] at ho
  split at ho
  · rename_i x _
    obtain ⟨r, rfl, hx⟩ := opds1 ho
    simp only [List.map_cons, List.map_nil, sem] at hs
    simp only [List.map_cons, List.map_nil, gsem, Option.some.injEq] at hg
    subst hs; subst hg
    exact op_mv h rfl hl (.inl rfl) hx (small_mem hsm (by simp [Op.operands])) hK
  · rename_i x _
    obtain ⟨r, rfl, hx⟩ := opds1 ho
    simp only [List.map_cons, List.map_nil, sem] at hs
    simp only [List.map_cons, List.map_nil, gsem, Option.some.injEq] at hg
    subst hs; subst hg
    exact op_mv h rfl hl (.inr rfl) hx (small_mem hsm (by simp [Op.operands])) hK
  · cases ho

theorem k_nl {k s : Nat} : KindOK C sg (.nl k s) := by
  intro D σ γ a w dst op ty pos after guard rs ds gd ws gs K' Q h ho hk hsm hs hg hK
  simp only [keysOK, Bool.and_eq_true] at hk
  obtain ⟨hk1, hk2⟩ := hk
  obtain ⟨d, rfl, hl, rfl⟩ := dOK0 hk2
  simp only [opOK] at ho
  split at ho
  · rename_i r
    simp at hk1
    cases r <;> simp at hk1
    subst hk1
    simp only [List.map_cons, List.map_nil, sem] at hs
    subst hs
    simp only [List.map_cons, List.map_nil, Opd.gh] at hg
    simp only [gsem] at hg
    split at hg
    · rename_i e; cases hg; simp at e; exact op_nl h rfl hl (.inl rfl) e hK
    · cases hg
  · rename_i r
    simp at hk1
    cases r <;> simp at hk1
    subst hk1
    simp only [List.map_cons, List.map_nil, sem] at hs
    subst hs
    simp only [List.map_cons, List.map_nil, Opd.gh] at hg
    simp only [gsem] at hg
    split at hg
    · rename_i e; cases hg; simp at e; exact op_nl h rfl hl (.inr rfl) e hK
    · cases hg
  · cases ho
theorem k_pick : KindOK C sg .pick := by
  intro D σ γ a w dst op ty pos after guard rs ds gd ws gs K' Q h ho hk hsm hs hg hK
  obtain ⟨d, rfl, hl, rfl⟩ := dOK0 (l := []) hk
  simp only [gsem, Option.some.injEq] at hg
  subst hg
  simp only [opOK] at ho
  split at ho
  · obtain ⟨r, q, s, rfl, hc, hx, hy⟩ := opds3 ho
    simp only [List.map_cons, List.map_nil, sem] at hs
    split at hs
    · rename_i b x y heq
      simp only [List.cons.injEq, and_true] at heq
      obtain ⟨e1, e2, e3⟩ := heq
      subst e2; subst e3; subst hs
      exact op_pick h rfl hl rfl hc hx hy (small_mem hsm (by simp [Op.operands])) (small_mem hsm (by simp [Op.operands])) (small_mem hsm (by simp [Op.operands])) e1 hK
    · cases hs
  · cases ho

theorem k_bin {b : BinOp} : KindOK C sg (.bin b) := by
  intro D σ γ a w dst op ty pos after guard rs ds gd ws gs K' Q h ho hk hsm hs hg hK
  obtain ⟨d, rfl, hl, rfl⟩ := dOK0 (l := []) hk
  simp only [gsem, Option.some.injEq] at hg
  subst hg
  simp only [opOK] at ho
  split at ho
  · simp only [Bool.and_eq_true, beq_iff_eq] at ho
    obtain ⟨hb, ho⟩ := ho
    subst hb
    obtain ⟨r, q, rfl, hx, hy⟩ := opds2 ho
    simp only [List.map_cons, List.map_nil, sem] at hs
    split at hs
    · rename_i u v heq
      simp only [List.cons.injEq, and_true] at heq
      obtain ⟨e1, e2⟩ := heq
      obtain ⟨z, hz, rfl⟩ := hs
      exact op_bin h rfl hl rfl hx hy (small_mem hsm (by simp [Op.operands])) (small_mem hsm (by simp [Op.operands])) e1 e2 hz hK
    · cases hs
  · cases ho

theorem k_be {neg : Bool} : KindOK C sg (.be neg) := by
  intro D σ γ a w dst op ty pos after guard rs ds gd ws gs K' Q h ho hk hsm hs hg hK
  obtain ⟨d, rfl, hl, rfl⟩ := dOK0 (l := []) hk
  simp only [gsem, Option.some.injEq] at hg
  subst hg
  simp only [opOK] at ho
  split at ho
  · simp only [Bool.and_eq_true, beq_iff_eq] at ho
    obtain ⟨⟨ht, hb⟩, ho⟩ := ho
    obtain ⟨r, q, rfl, hx, hy⟩ := opds2 ho
    simp only [List.map_cons, List.map_nil, sem] at hs
    split at hs
    · rename_i u v heq
      simp only [List.cons.injEq, and_true] at heq
      obtain ⟨e1, e2⟩ := heq
      subst hs
      exact op_be h rfl hl rfl hb (isBoolT_spec ht) hx hy (small_mem hsm (by simp [Op.operands])) (small_mem hsm (by simp [Op.operands])) e1 e2 hK
    · cases hs
  · cases ho

theorem k_un {b : UnOp} : KindOK C sg (.un b) := by
  intro D σ γ a w dst op ty pos after guard rs ds gd ws gs K' Q h ho hk hsm hs hg hK
  obtain ⟨d, rfl, hl, rfl⟩ := dOK0 (l := []) hk
  simp only [gsem, Option.some.injEq] at hg
  subst hg
  simp only [opOK] at ho
  split at ho
  · simp only [Bool.and_eq_true, beq_iff_eq] at ho
    obtain ⟨hb, ho⟩ := ho
    subst hb
    obtain ⟨r, rfl, hx⟩ := opds1 ho
    simp only [List.map_cons, List.map_nil, sem] at hs
    split at hs
    · rename_i u heq
      simp only [List.cons.injEq, and_true] at heq
      obtain ⟨z, hz, rfl⟩ := hs
      exact op_un h rfl hl rfl hx (small_mem hsm (by simp [Op.operands])) heq hz hK
    · cases hs
  · cases ho

theorem k_ci {k : IntKind} : KindOK C sg (.ci k) := by
  intro D σ γ a w dst op ty pos after guard rs ds gd ws gs K' Q h ho hk hsm hs hg hK
  obtain ⟨d, rfl, hl, rfl⟩ := dOK0 (l := []) hk
  simp only [gsem, Option.some.injEq] at hg
  subst hg
  simp only [opOK] at ho
  split at ho
  · simp only [Bool.and_eq_true] at ho
    obtain ⟨⟨ht, hu⟩, ho⟩ := ho
    obtain ⟨r, rfl, hx⟩ := opds1 ho
    simp only [List.map_cons, List.map_nil, sem] at hs
    split at hs
    · rename_i k' n heq
      simp only [List.cons.injEq, and_true] at heq
      subst hs
      exact op_ci h rfl hl rfl (isIntT_spec ht) hu hx (small_mem hsm (by simp [Op.operands])) heq hK
    · cases hs
  · cases ho

theorem k_cs : KindOK C sg .cs := by
  intro D σ γ a w dst op ty pos after guard rs ds gd ws gs K' Q h ho hk hsm hs hg hK
  obtain ⟨d, rfl, hl, rfl⟩ := dOK0 (l := []) hk
  simp only [gsem, Option.some.injEq] at hg
  subst hg
  simp only [opOK] at ho
  split at ho
  · simp only [Bool.and_eq_true] at ho
    obtain ⟨⟨ht, hu⟩, ho⟩ := ho
    obtain ⟨r, rfl, hx⟩ := opds1 ho
    simp only [List.map_cons, List.map_nil, sem] at hs
    split at hs
    · rename_i b heq
      simp only [List.cons.injEq, and_true] at heq
      subst hs
      exact op_cs h rfl hl rfl (isStrT_spec hu) (isStrT_spec ht) hx (small_mem hsm (by simp [Op.operands])) heq hK
    · cases hs
  · cases ho

theorem k_sb : KindOK C sg .sb := by
  intro D σ γ a w dst op ty pos after guard rs ds gd ws gs K' Q h ho hk hsm hs hg hK
  obtain ⟨d, rfl, hl, rfl⟩ := dOK0 (l := []) hk
  simp only [gsem, Option.some.injEq] at hg
  subst hg
  simp only [opOK] at ho
  split at ho
  · simp only [Bool.and_eq_true] at ho
    obtain ⟨⟨ht, hu⟩, ho⟩ := ho
    obtain ⟨e, hu1, hu2⟩ := isByteSl_spec hu
    obtain ⟨r, rfl, hx⟩ := opds1 ho
    simp only [List.map_cons, List.map_nil, sem] at hs
    split at hs
    · rename_i b heq
      simp only [List.cons.injEq, and_true] at heq
      obtain ⟨hb, rfl⟩ := hs
      exact op_sb h rfl hl rfl (isStrT_spec ht) hu1 hu2 hx (small_mem hsm (by simp [Op.operands])) heq hb hK
    · cases hs
  · cases ho

theorem k_sbt {k : Nat} : KindOK C sg (.sbt k) := by
  intro D σ γ a w dst op ty pos after guard rs ds gd ws gs K' Q h ho hk hsm hs hg hK
  simp only [keysOK, Bool.and_eq_true] at hk
  obtain ⟨⟨hk0, hk1⟩, hk2⟩ := hk
  obtain ⟨d, rfl, hl, rfl⟩ := dOK0 hk2
  simp only [opOK] at ho
  split at ho
  · rename_i s u x r rest _ _
    simp only [Bool.and_eq_true] at ho
    obtain ⟨⟨ht, hu⟩, ho⟩ := ho
    obtain ⟨e, hu1, hu2⟩ := isByteSl_spec hu
    simp at hk0
    obtain ⟨q, rfl⟩ := len1 hk0
    cases q <;> simp at hk1
    subst hk1
    simp only [List.map_cons, List.map_nil, sem] at hs
    simp only [List.map_cons, List.map_nil, gsem] at hg
    split at hs
    · rename_i b y heq
      simp only [List.cons.injEq, and_true] at heq
      obtain ⟨hb, rfl⟩ := hs
      split at hg
      · rename_i g heq2
        simp only [List.cons.injEq, and_true, Opd.gh] at heq2
        cases hg
        exact op_sbt h rfl hl rfl (isStrT_spec ht) hu1 hu2 ho (small_mem hsm (by simp [Op.operands])) heq.1 hb heq2.2 hK
      · cases hg
    · cases hs
  · cases ho

theorem k_bs : KindOK C sg .bs := by
  intro D σ γ a w dst op ty pos after guard rs ds gd ws gs K' Q h ho hk hsm hs hg hK
  obtain ⟨d, rfl, hl, rfl⟩ := dOK0 (l := []) hk
  simp only [gsem, Option.some.injEq] at hg
  subst hg
  simp only [opOK] at ho
  split at ho
  · simp only [Bool.and_eq_true] at ho
    obtain ⟨⟨ht, hu⟩, ho⟩ := ho
    obtain ⟨e, ht1, ht2⟩ := isByteSl_spec ht
    obtain ⟨r, rfl, hx⟩ := opds1 ho
    simp only [List.map_cons, List.map_nil, sem] at hs
    split at hs
    · rename_i s es heq
      simp only [List.cons.injEq, and_true] at heq
      obtain ⟨l, rfl, rfl, rfl⟩ := hs
      exact op_bs h rfl hl rfl ht1 ht2 (isStrT_spec hu) hx (small_mem hsm (by simp [Op.operands])) heq hK
    · cases hs
  · cases ho

theorem k_len : KindOK C sg .len := by
  intro D σ γ a w dst op ty pos after guard rs ds gd ws gs K' Q h ho hk hsm hs hg hK
  obtain ⟨d, rfl, hl, rfl⟩ := dOK0 (l := []) hk
  simp only [gsem, Option.some.injEq] at hg
  subst hg
  simp only [opOK] at ho
  split at ho
  · rename_i ats _
    simp only [Bool.and_eq_true, beq_iff_eq] at ho
    obtain ⟨⟨⟨h1, h2⟩, h3⟩, ho⟩ := ho
    obtain ⟨t, ht⟩ := len1 h1
    obtain ⟨x, hx0⟩ := len1 h3
    rw [ht] at h2
    simp only [List.all_cons, List.all_nil, Bool.and_true] at h2
    rw [hx0] at ho
    obtain ⟨r, rfl, hx⟩ := opds1 ho
    have ea := arr1 hx0
    have et := arr1 ht
    subst ea; subst et
    simp only [List.map_cons, List.map_nil, sem] at hs
    split at hs
    · rename_i s es heq
      simp only [List.cons.injEq, and_true] at heq
      subst hs
      obtain ⟨e, he⟩ := Option.isSome_iff_exists.1 h2
      exact op_len_sl h rfl hl rfl (elemT_spec he) hx (small_mem hsm (by simp [Op.operands, Call.operands])) heq hK
    · cases hs
  · cases ho

theorem k_lns : KindOK C sg .lns := by
  intro D σ γ a w dst op ty pos after guard rs ds gd ws gs K' Q h ho hk hsm hs hg hK
  obtain ⟨d, rfl, hl, rfl⟩ := dOK0 (l := []) hk
  simp only [gsem, Option.some.injEq] at hg
  subst hg
  simp only [opOK] at ho
  split at ho
  · rename_i ats _
    simp only [Bool.and_eq_true, beq_iff_eq] at ho
    obtain ⟨⟨⟨h1, h2⟩, h3⟩, ho⟩ := ho
    obtain ⟨t, ht⟩ := len1 h1
    obtain ⟨x, hx0⟩ := len1 h3
    rw [ht] at h2
    simp only [List.all_cons, List.all_nil, Bool.and_true] at h2
    rw [hx0] at ho
    obtain ⟨r, rfl, hx⟩ := opds1 ho
    have ea := arr1 hx0
    have et := arr1 ht
    subst ea; subst et
    simp only [List.map_cons, List.map_nil, sem] at hs
    split at hs
    · rename_i b heq
      simp only [List.cons.injEq, and_true] at heq
      subst hs
      exact op_len_str h rfl hl rfl (isStrT_spec h2) hx (small_mem hsm (by simp [Op.operands, Call.operands])) heq hK
    · cases hs
  · cases ho

theorem k_mn : KindOK C sg .mn := by
  intro D σ γ a w dst op ty pos after guard rs ds gd ws gs K' Q h ho hk hsm hs hg hK
  obtain ⟨d, rfl, hl, rfl⟩ := dOK0 (l := []) hk
  simp only [gsem, Option.some.injEq] at hg
  subst hg
  simp only [opOK] at ho
  split at ho
  · rename_i ats _
    simp only [Bool.and_eq_true, beq_iff_eq] at ho
    obtain ⟨h3, ho⟩ := ho
    obtain ⟨x, y, hx0⟩ := len2 h3
    rw [hx0] at ho
    obtain ⟨r, q, rfl, hx, hy⟩ := opds2 ho
    have ea := arr2 hx0
    subst ea
    simp only [List.map_cons, List.map_nil, sem] at hs
    split at hs
    · rename_i k u k' v heq
      simp only [List.cons.injEq, and_true] at heq
      subst hs
      exact op_minmax (mx := false) h rfl hl rfl hx hy (small_mem hsm (by simp [Op.operands, Call.operands])) (small_mem hsm (by simp [Op.operands, Call.operands])) heq.1 heq.2 hK
    · cases hs
  · cases ho

theorem k_mx : KindOK C sg .mx := by
  intro D σ γ a w dst op ty pos after guard rs ds gd ws gs K' Q h ho hk hsm hs hg hK
  obtain ⟨d, rfl, hl, rfl⟩ := dOK0 (l := []) hk
  simp only [gsem, Option.some.injEq] at hg
  subst hg
  simp only [opOK] at ho
  split at ho
  · rename_i ats _
    simp only [Bool.and_eq_true, beq_iff_eq] at ho
    obtain ⟨h3, ho⟩ := ho
    obtain ⟨x, y, hx0⟩ := len2 h3
    rw [hx0] at ho
    obtain ⟨r, q, rfl, hx, hy⟩ := opds2 ho
    have ea := arr2 hx0
    subst ea
    simp only [List.map_cons, List.map_nil, sem] at hs
    split at hs
    · rename_i k u k' v heq
      simp only [List.cons.injEq, and_true] at heq
      subst hs
      exact op_minmax (mx := true) h rfl hl rfl hx hy (small_mem hsm (by simp [Op.operands, Call.operands])) (small_mem hsm (by simp [Op.operands, Call.operands])) heq.1 heq.2 hK
    · cases hs
  · cases ho

theorem k_ix {s : Nat} : KindOK C sg (.ix s) := by
  intro D σ γ a w dst op ty pos after guard rs ds gd ws gs K' Q h ho hk hsm hs hg hK
  obtain ⟨d, rfl, hl, rfl⟩ := dOK0 (l := []) hk
  simp only [gsem, Option.some.injEq] at hg
  subst hg
  simp only [opOK] at ho
  split at ho
  · simp only [Bool.and_eq_true] at ho
    obtain ⟨ht, ho⟩ := ho
    obtain ⟨e, i, h1, h2, h3, h4⟩ := sliceOK'_spec ht
    obtain ⟨r, q, rfl, hx, hy⟩ := opds2 ho
    simp only [List.map_cons, List.map_nil, sem] at hs
    split at hs
    · rename_i s' es k i heq
      simp only [List.cons.injEq, and_true] at heq
      obtain ⟨el, rfl, h0, hel, rfl⟩ := hs
      exact op_ix h rfl hl rfl h1 h2 h3 hx hy (small_mem hsm (by simp [Op.operands])) (small_mem hsm (by simp [Op.operands])) heq.1 heq.2 h0 hel hK
    · cases hs
  · cases ho

theorem k_si : KindOK C sg .si := by
  intro D σ γ a w dst op ty pos after guard rs ds gd ws gs K' Q h ho hk hsm hs hg hK
  obtain ⟨d, rfl, hl, rfl⟩ := dOK0 (l := []) hk
  simp only [gsem, Option.some.injEq] at hg
  subst hg
  simp only [opOK] at ho
  split at ho
  · simp only [Bool.and_eq_true] at ho
    obtain ⟨ht, ho⟩ := ho
    obtain ⟨r, q, rfl, hx, hy⟩ := opds2 ho
    simp only [List.map_cons, List.map_nil, sem] at hs
    split at hs
    · rename_i b k i heq
      simp only [List.cons.injEq, and_true] at heq
      obtain ⟨el, h0, hel, rfl⟩ := hs
      exact op_si h rfl hl rfl (isStrT_spec ht) hx hy (small_mem hsm (by simp [Op.operands])) (small_mem hsm (by simp [Op.operands])) heq.1 heq.2 h0 hel hK
    · cases hs
  · cases ho

theorem k_ai {n s : Nat} {agg : Bool} : KindOK C sg (.ai n s agg) := by
  intro D σ γ a w dst op ty pos after guard rs ds gd ws gs K' Q h ho hk hsm hs hg hK
  obtain ⟨d, rfl, hl, rfl⟩ := dOK0 (l := []) hk
  simp only [gsem, Option.some.injEq] at hg
  subst hg
  simp only [opOK] at ho
  split at ho
  · rename_i t x y _
    simp only [Bool.and_eq_true] at ho
    obtain ⟨ht, ho⟩ := ho
    split at ht
    · rename_i n' e hu
      simp only [Bool.and_eq_true, beq_iff_eq] at ht
      obtain ⟨rfl, ht⟩ := ht
      obtain ⟨inf, h1, h2, h3, h4⟩ := shapeOK_spec ht
      obtain ⟨r, q, rfl, hx, hy⟩ := opds2 ho
      simp only [List.map_cons, List.map_nil, sem] at hs
      split at hs
      · rename_i cs k i heq
        simp only [List.cons.injEq, and_true] at heq
        obtain ⟨el, h0, hn, hel, rfl⟩ := hs
        exact op_ai h rfl hl rfl hu h1 h2 h3 h4 hx hy (small_mem hsm (by simp [Op.operands])) (small_mem hsm (by simp [Op.operands])) heq.1 heq.2 h0 hn hel hK
      · cases hs
    · cases ht
  · cases ho

theorem k_fe {o' n : Nat} {agg : Bool} : KindOK C sg (.fe o' n agg) := by
  intro D σ γ a w dst op ty pos after guard rs ds gd ws gs K' Q h ho hk hsm hs hg hK
  obtain ⟨d, rfl, hl, rfl⟩ := dOK0 (l := []) hk
  simp only [gsem, Option.some.injEq] at hg
  subst hg
  simp only [opOK] at ho
  split at ho
  · rename_i t x f
    simp only [Bool.and_eq_true] at ho
    obtain ⟨ht, ho⟩ := ho
    cases hf : fieldT C.P t f with
    | none => simp [hf] at ht
    | some fl =>
      simp only [hf, Option.any_some, Bool.and_eq_true, beq_iff_eq] at ht
      obtain ⟨h0, ht⟩ := ht
      obtain ⟨fs, hu, hfs⟩ := fieldT_spec hf
      obtain ⟨inf, h1, h2, h3, h4⟩ := shapeOK_spec ht
      obtain ⟨r, rfl, hx⟩ := opds1 ho
      simp only [List.map_cons, List.map_nil, sem] at hs
      split at hs
      · rename_i cs heq
        simp only [List.cons.injEq, and_true] at heq
        obtain ⟨el, hel, rfl⟩ := hs
        exact op_fe h rfl hl rfl hu hfs h0 h1 h2 h3 h4 hx (small_mem hsm (by simp [Op.operands])) heq hel hK
      · cases hs
  · cases ho

theorem k_lr {n : Nat} {agg : Bool} : KindOK C sg (.lr n agg) := by
  intro D σ γ a w dst op ty pos after guard rs ds gd ws gs K' Q h ho hk hsm hs hg hK
  obtain ⟨d, rfl, hl, rfl⟩ := dOK0 (l := []) hk
  simp only [gsem, Option.some.injEq] at hg
  subst hg
  simp only [opOK] at ho
  split at ho
  · simp only [Bool.and_eq_true] at ho
    obtain ⟨ht, hx⟩ := ho
    obtain ⟨inf, h1, h2, h3, h4⟩ := shapeOK_spec ht
    simp only [List.map_cons, List.map_nil, sem] at hs
    split at hs
    · rename_i x heq
      simp only [List.cons.injEq, and_true] at heq
      obtain ⟨p1, p2, rfl⟩ := hs
      exact op_lr h rfl hl rfl h1 h2 h3 h4 hx (small_mem hsm (by simp [Op.operands])) heq p1 p2 hK
    · cases hs
  · cases ho

theorem k_ncr : KindOK C sg .ncr := by
  intro D σ γ a w dst op ty pos after guard rs ds gd ws gs K' Q h ho hk hsm hs hg hK
  obtain ⟨d, rfl, hl, rfl⟩ := dOK0 (l := []) hk
  simp only [gsem, Option.some.injEq] at hg
  subst hg
  simp only [opOK] at ho
  split at ho
  · simp only [List.map_cons, List.map_nil, sem] at hs
    split at hs
    · rename_i x heq
      simp only [List.cons.injEq, and_true] at heq
      subst hs
      exact op_ncr h rfl hl rfl ho (small_mem hsm (by simp [Op.operands])) heq hK
    · cases hs
  · cases ho

theorem k_ex {i : Nat} : KindOK C sg (.ex i) := by
  intro D σ γ a w dst op ty pos after guard rs ds gd ws gs K' Q h ho hk hsm hs hg hK
  obtain ⟨d, rfl, hl, rfl⟩ := dOK0 (l := []) hk
  simp only [opOK] at ho
  split at ho
  · simp only [Bool.and_eq_true, beq_iff_eq] at ho
    obtain ⟨rfl, hx⟩ := ho
    simp only [List.map_cons, List.map_nil, gsem, Option.some.injEq] at hg
    subst hg
    simp only [List.map_cons, List.map_nil, sem] at hs
    split at hs
    · rename_i vs heq
      simp only [List.cons.injEq, and_true] at heq
      obtain ⟨x, hx1, rfl⟩ := hs
      exact op_ex h rfl hl rfl hx (small_mem hsm (by simp [Op.operands])) heq hx1 hK
    · cases hs
  · cases ho

end
end Go.Eng
