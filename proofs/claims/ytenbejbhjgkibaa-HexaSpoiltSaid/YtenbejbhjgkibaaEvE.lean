/- The operations that look at nothing but their operands. -/
import Derived.Test.YtenbejbhjgkibaaEvD
set_option linter.unusedVariables false
set_option linter.unusedSimpArgs false
namespace Go.Eng

def semK (k : K) (vs : List TV) : Res :=
  match k, vs with
  | .mv, [x] => .ok [x]
  | .pick, [.b t, x, y] => pickT t x y
  | .bin o, [x, y] => binT o x y
  | .be neg, [.b a, .b b] => .ok [.b (cond neg (!(a == b)) (a == b))]
  | .un o, [x] => unT o x
  | .ci k, [x] => match x.int? with
    | some (_, n) => .ok [intTV k n]
    | none => .err
  | .cs, [.s l] => .ok [.s l]
  | .sb, [.s l] => .if_ (lenOK l.length) [.sl .bs l]
  | .sbt _, [.s l, _] => .if_ (lenOK l.length) [.sl .bs l, .dead]
  | .bs, [.sl .bs l] => .ok [.s l]
  | .len, [.sl _ l] => .ok [.i .i64 l.length]
  | .lns, [.s l] => .ok [.i .i64 l.length]
  | .mn, [.i k a, .i k' b] => needT (decide (k = k')) (.ok [.i k (minI a b)])
  | .mx, [.i k a, .i k' b] => needT (decide (k = k')) (.ok [.i k (maxI a b)])
  | .ix s, [.sl t l, i] => match i.int? with
    | some (_, n) => needT (Nat.beq s t.size) (.if_ (idxOK n l.length) [.ro (t.tv (l.getD n.toNat t.dflt))])
    | none => .err
  | .si, [.s l, i] => match i.int? with
    | some (_, n) => .if_ (idxOK n l.length) [.u8 (l.getD n.toNat 0)]
    | none => .err
  | .ai m s agg, [.ag cs, i] => match i.int?, agg with
    | some (_, n), false => match arrT cs n.toNat with
      | some x => needT (Nat.beq s 1 && Nat.beq m cs.length) (.if_ (idxOK n m) [x])
      | none => .err
    | _, _ => .err
  | .fe o n agg, [.ag cs] => oneT (partT cs o n agg)
  | .sc s true true, [.sl t l, i, j] => match i.int?, j.int? with
    | some (_, a), some (_, b) => needT (Nat.beq s t.size) (.if_ (cutOK a b l.length) [.sl t ((l.take b.toNat).drop a.toNat)])
    | _, _ => .err
  | .sc s true false, [.sl t l, i] => match i.int? with
    | some (_, a) => needT (Nat.beq s t.size) (.if_ (cutOK a l.length l.length) [.sl t (l.drop a.toNat)])
    | _ => .err
  | .sc s false true, [.sl t l, j] => match j.int? with
    | some (_, b) => needT (Nat.beq s t.size) (.if_ (cutOK 0 b l.length) [.sl t (l.take b.toNat)])
    | _ => .err
  | .sc s false false, [.sl t l] => needT (Nat.beq s t.size) (.ok [.sl t l])
  | .ss true true, [.s l, i, j] => match i.int?, j.int? with
    | some (_, a), some (_, b) => .if_ (cutOK a b l.length) [.s ((l.take b.toNat).drop a.toNat)]
    | _, _ => .err
  | .ss true false, [.s l, i] => match i.int? with
    | some (_, a) => .if_ (cutOK a l.length l.length) [.s (l.drop a.toNat)]
    | _ => .err
  | .ss false true, [.s l, j] => match j.int? with
    | some (_, b) => .if_ (cutOK 0 b l.length) [.s (l.take b.toNat)]
    | _ => .err
  | .ss false false, [.s l] => .ok [.s l]
  | .bx _, [x, _] => needT x.plain (.ok [.pt, .ag x.cells])
  | .ld _ o n agg, [.pt, .ag cs] => oneT (partT cs o n agg)
  | .st _ o n, [.pt, .ag cs, x] => needT (x.plain && Nat.beq x.cells.length n && Nat.ble (o + n) cs.length) (.ok [.ag (spliceT cs o x.cells)])
  | .lr n agg, [.ro x] => needT (x.plain && (x.isAg == agg) && Nat.beq x.cells.length n) (.ok [x])
  | .fa _ _ _, [.pt] => .ok [.pt]
  | .fr o n agg, [.ro (.ag cs)] => match partT cs o n agg with
    | some x => .ok [.ro x]
    | none => .err
  | .nc _ _, [.pt] => .ok [.pt]
  | .ncr, [.ro x] => .ok [.ro x]
  | .ex i, [.tu vs] => oneT vs[i]?
  | .ap _ _ s by_, [.sl t l, .sl t' m, _, _] => match t.app l t' m with
    | some n => needT (Nat.beq s t.size) (.if_ (apOK (l.length + m.length) by_) [.sl t n, .dead, .dead])
    | none => .err
  | .aps _ _ by_, [.sl .bs l, .s m, _, _] => .if_ (apOK (l.length + m.length) by_) [.sl .bs (l ++ m), .dead, .dead]
  | .an _ s by_, [.sl t l, _] => needT (Nat.beq s t.size) (.if_ (apOK l.length by_) [.sl t l, .dead])
  | .ans _ by_, [.s l, _] => .if_ (apOK l.length by_) [.sl .bs l, .dead]
  | .pss _, [.s l, _] => .if_ (lenOK l.length) [.pt, .sl .bs l]
  | .pln _, [.pt, .sl _ l] => .ok [.i .i64 l.length]
  | .pix _ s, [.pt, i, .sl t l] => match i.int? with
    | some (_, n) => needT (Nat.beq s t.size) (.if_ (idxOK n l.length) [.el n.toNat s 0])
    | none => .err
  | .pfa _ o, [.el i s o'] => .ok [.el i s (o' + o)]
  | .pld _ s n agg, [.el i s' o, .sl t l] => match partElT (t.tv (l.getD i t.dflt)) o n agg with
    | some x => needT (Nat.beq s' s && Nat.beq s t.size) (.if_ (decide (i < l.length)) [x])
    | none => .err
  | .pst _ s n, [.el i s' o, .sl t l, x] => match putElT (t.tv (l.getD i t.dflt)) o x with
    | some y => match t.el y with
      | some e => needT (Nat.beq s' s && Nat.beq s t.size && x.plain && Nat.beq x.cells.length n) (.if_ (decide (i < l.length)) [.sl t (l.set i e)])
      | none => .err
    | none => .err
  | .pfz _ s, [.pt, .sl t l] => needT (Nat.beq s t.size) (.ok [.sl t l, .sl t l, .dead])
  | _, _ => .err

theorem idxOK_iff {n : Int} {l : Nat} : idxOK n l = true ↔ 0 ≤ n ∧ n < l := by simp [idxOK]
theorem cutOK_iff {a b : Int} {l : Nat} : cutOK a b l = true ↔ 0 ≤ a ∧ a ≤ b ∧ b ≤ l := by simp [cutOK, and_assoc]
theorem apOK_iff {n b : Nat} : apOK n b = true ↔ n ≤ maxLen ∧ n * b ≤ 140737488355328 := by simp [apOK]
theorem mkOK_iff {l c : Int} {b : Nat} : mkOK l c b = true ↔ 0 ≤ l ∧ l ≤ c ∧ c * b ≤ 140737488355328 ∧ c ≤ maxLen := by simp [mkOK, and_assoc]
theorem lenOK_iff {n : Nat} : lenOK n = true ↔ n ≤ maxLen := by simp [lenOK]

theorem getD_map {A : Type} (f : A → AV) (l : List A) (n : Int) (d : A) (h : 0 ≤ n ∧ n < l.length) : (l.map f)[n.toNat]? = some (f (l.getD n.toNat d)) := by
  have : n.toNat < l.length := by omega
  simp [List.getD_eq_getElem?_getD, List.getElem?_eq_getElem this]

theorem getD_str (l : Str) (n : Int) (h : 0 ≤ n ∧ n < l.length) : l[n.toNat]? = some (l.getD n.toNat 0) := by
  have : n.toNat < l.length := by omega
  simp [List.getD_eq_getElem?_getD, List.getElem?_eq_getElem this]

theorem semK_ok (E : Env) {k : K} {vs ws : List TV} (h : (semK k vs).holds ws) : sem E k (vs.map TV.av) (ws.map TV.av) := by
  unfold semK at h
  split at h
  -- mv
  · cases h; rfl
  · obtain ⟨x, rfl, e⟩ := pickT_ok _ _ _ _ h; simp only [List.map, sem, TV.av]; rw [e]
  · obtain ⟨x, rfl, a, b, v, e1, e2, e3, e4⟩ := binT_ok _ _ _ _ h
    simp only [List.map, sem, e1, e2, e4]; exact ⟨v, e3, rfl⟩
  · cases h; rename_i neg a b; cases neg <;> rfl
  · obtain ⟨x, rfl, a, v, e1, e2, e3⟩ := unT_ok _ _ _ h
    simp only [List.map, sem, e1, e3]; exact ⟨v, e2, rfl⟩
  · split at h
    · rename_i e; cases h; simp only [List.map, sem, TV.int?_av e, intTV_av]
    · exact h.elim
  · cases h; rfl
  · obtain ⟨h1, rfl⟩ := h; exact ⟨lenOK_iff.1 h1, rfl⟩
  · obtain ⟨h1, rfl⟩ := h; exact ⟨lenOK_iff.1 h1, rfl⟩
  · cases h; exact ⟨_, rfl, rfl, rfl⟩
  · cases h; simp only [List.map, sem, TV.av, List.length_map]
  · cases h; simp only [List.map, sem, TV.av, strAV]
  · obtain ⟨e, h⟩ := needT_holds h; cases h; simp only [List.map, sem, TV.av]
  · obtain ⟨e, h⟩ := needT_holds h; cases h; simp only [List.map, sem, TV.av]
  · split at h
    · rename_i t l i k n e
      obtain ⟨e1, h1, rfl⟩ := needT_holds h
      have e1 := Nat.eq_of_beq_eq_true e1
      have h1 := idxOK_iff.1 h1
      simp only [List.map, sem, TV.av, TV.int?_av e, STy.tv_av]
      exact ⟨_, e1, h1.1, getD_map _ _ _ _ h1, rfl⟩
    · exact h.elim
  · split at h
    · rename_i e
      obtain ⟨h1, rfl⟩ := h
      have h1 := idxOK_iff.1 h1
      simp only [List.map, sem, TV.av, strAV, TV.int?_av e]
      exact ⟨_, h1.1, getD_str _ _ h1, rfl⟩
    · exact h.elim
  · split at h
    · rename_i m s cs i k n e
      split at h
      · rename_i x hx
        obtain ⟨e1, h1, rfl⟩ := needT_holds h
        simp only [Bool.and_eq_true] at e1
        have e2 := Nat.eq_of_beq_eq_true e1.1
        have e3 := Nat.eq_of_beq_eq_true e1.2
        subst e2; subst e3
        have h1 := idxOK_iff.1 h1
        have hx := arrT_ok hx (by omega)
        simp only [List.map, sem, TV.av, TV.int?_av e]
        refine ⟨x.av, h1.1, h1.2, ?_, rfl⟩
        simp [partAV, TV.avs_map, hx]
      · exact h.elim
    · exact h.elim
  · obtain ⟨y, e, rfl⟩ := oneT_holds h
    simp only [List.map, sem, TV.av, TV.avs_map]; exact ⟨_, partT_av e, rfl⟩
  · split at h
    · rename_i i j _ a _ b e1 e2
      obtain ⟨e, h1, rfl⟩ := needT_holds h
      have h1 := cutOK_iff.1 h1
      simp only [List.map, sem, TV.av, TV.int?_av e1, TV.int?_av e2, List.length_map]
      exact ⟨Nat.eq_of_beq_eq_true e, h1.1, h1.2.1, h1.2.2, by simp [Nat.eq_of_beq_eq_true e, List.map_take, List.map_drop]⟩
    · exact h.elim
  · split at h
    · rename_i i _ a e1
      obtain ⟨e, h1, rfl⟩ := needT_holds h
      have h1 := cutOK_iff.1 h1
      simp only [List.map, sem, TV.av, TV.int?_av e1, List.length_map]
      exact ⟨Nat.eq_of_beq_eq_true e, h1.1, h1.2.1, by simp [Nat.eq_of_beq_eq_true e, List.map_take, List.map_drop]⟩
    · exact h.elim
  · split at h
    · rename_i i _ a e1
      obtain ⟨e, h1, rfl⟩ := needT_holds h
      have h1 := cutOK_iff.1 h1
      simp only [List.map, sem, TV.av, TV.int?_av e1, List.length_map]
      exact ⟨Nat.eq_of_beq_eq_true e, h1.2.1, h1.2.2, by simp [Nat.eq_of_beq_eq_true e, List.map_take, List.map_drop]⟩
    · exact h.elim
  · obtain ⟨e, h⟩ := needT_holds h
    cases h
    simp only [List.map, sem, TV.av]
    exact ⟨Nat.eq_of_beq_eq_true e, by rw [Nat.eq_of_beq_eq_true e]⟩
  · split at h
    · rename_i i j _ a _ b e1 e2
      obtain ⟨h1, rfl⟩ := h
      have h1 := cutOK_iff.1 h1
      simp only [List.map, sem, TV.av, strAV, TV.int?_av e1, TV.int?_av e2]
      exact ⟨h1.1, h1.2.1, h1.2.2, by simp [List.take_drop, List.drop_take]⟩
    · exact h.elim
  · split at h
    · rename_i i _ a e1
      obtain ⟨h1, rfl⟩ := h
      have h1 := cutOK_iff.1 h1
      simp only [List.map, sem, TV.av, strAV, TV.int?_av e1]
      exact ⟨h1.1, h1.2.1, by simp⟩
    · exact h.elim
  · split at h
    · rename_i i _ a e1
      obtain ⟨h1, rfl⟩ := h
      have h1 := cutOK_iff.1 h1
      simp only [List.map, sem, TV.av, strAV, TV.int?_av e1]
      exact ⟨h1.2.1, h1.2.2, by simp⟩
    · exact h.elim
  · cases h; rfl
  · obtain ⟨e, h⟩ := needT_holds h; cases h
    simp only [List.map, sem, TV.av, TV.avs_map]
    exact ⟨TV.plain_av _ e, by rw [TV.cells_av _ e]⟩
  · obtain ⟨y, e, rfl⟩ := oneT_holds h
    simp only [List.map, sem, TV.av, TV.avs_map]; exact ⟨_, partT_av e, rfl⟩
  · obtain ⟨e, h⟩ := needT_holds h; cases h
    simp only [Bool.and_eq_true] at e
    obtain ⟨⟨e1, e2⟩, e3⟩ := e
    simp only [List.map, sem, TV.av, TV.avs_map]
    refine ⟨TV.plain_av _ e1, ?_, ?_, ?_⟩
    · rw [TV.cells_av _ e1, List.length_map]; exact Nat.eq_of_beq_eq_true e2
    · rw [List.length_map]; exact Nat.le_of_ble_eq_true e3
    · rw [TV.cells_av _ e1, spliceT_av]
  · obtain ⟨e, h⟩ := needT_holds h; cases h
    simp only [Bool.and_eq_true, beq_iff_eq] at e
    obtain ⟨⟨e1, e2⟩, e3⟩ := e
    simp only [List.map, sem, TV.av]
    refine ⟨?_, ?_, trivial⟩
    · rw [TV.isAg_av _ e1, e2]
    · rw [TV.cells_av _ e1, List.length_map]; exact Nat.eq_of_beq_eq_true e3
  · cases h; rfl
  · split at h
    · rename_i x e
      cases h
      simp only [List.map, sem, TV.av, TV.avs_map]; exact ⟨_, partT_av e, rfl⟩
    · exact h.elim
  · cases h; rfl
  · cases h; rfl
  · obtain ⟨y, e, rfl⟩ := oneT_holds h
    simp only [List.map, sem, TV.av, TV.avs_map]; exact ⟨y.av, by simp [e], rfl⟩
  · split at h
    · rename_i n e
      obtain ⟨e0, h1, rfl⟩ := needT_holds h
      obtain ⟨rfl, e1, e2⟩ := STy.app_av e
      have h1 := apOK_iff.1 h1
      simp only [List.map, sem, TV.av, List.length_map]
      have e0 := Nat.eq_of_beq_eq_true e0
      exact ⟨e0.symm, e0.symm, by intro x hx; obtain ⟨y, _, rfl⟩ := List.mem_map.1 hx; rw [e0]; exact (STy.av_plain _ y).2, h1.1, h1.2, by rw [e1, e0]⟩
    · exact h.elim
  · obtain ⟨h1, rfl⟩ := h
    have h1 := apOK_iff.1 h1
    simp only [List.map, sem, TV.av, strAV, List.length_map]
    exact ⟨rfl, h1.1, h1.2, by simp [STy.size]; intro _ _; rfl⟩
  · obtain ⟨e0, h1, rfl⟩ := needT_holds h
    have h1 := apOK_iff.1 h1
    have e0 := Nat.eq_of_beq_eq_true e0
    simp only [List.map, sem, TV.av, List.length_map]
    exact ⟨e0.symm, by intro x hx; obtain ⟨y, _, rfl⟩ := List.mem_map.1 hx; rw [e0]; exact (STy.av_plain _ y).2, h1.1, h1.2, by rw [e0]⟩
  · obtain ⟨h1, rfl⟩ := h
    have h1 := apOK_iff.1 h1
    simp only [List.map, sem, TV.av, strAV]
    exact ⟨h1.1, h1.2, by simp [STy.size]; intro _ _; rfl⟩
  · obtain ⟨h1, rfl⟩ := h; exact ⟨lenOK_iff.1 h1, rfl⟩
  · cases h; simp only [List.map, sem, TV.av, List.length_map]
  · split at h
    · rename_i s i t l k n e
      obtain ⟨e1, h1, rfl⟩ := needT_holds h
      have e1 := Nat.eq_of_beq_eq_true e1
      have h1 := idxOK_iff.1 h1
      simp only [List.map, sem, TV.av, TV.int?_av e, List.length_map]
      exact ⟨e1.symm, h1.1, by omega, trivial⟩
    · exact h.elim
  · cases h; rfl
  · split at h
    · rename_i s n agg i s' o t l _ x e
      obtain ⟨e1, h1, rfl⟩ := needT_holds h
      simp only [Bool.and_eq_true, decide_eq_true_eq] at e1 h1
      have e2 := Nat.eq_of_beq_eq_true e1.1
      have e3 := Nat.eq_of_beq_eq_true e1.2
      simp only [List.map, sem, TV.av]
      refine ⟨t.av l[i], _, e2, e3.symm, by simp [List.getElem?_eq_getElem h1], ?_, rfl⟩
      have := partElT_av (STy.tv_plain t _) e
      rw [STy.tv_av, List.getD_eq_getElem?_getD, List.getElem?_eq_getElem h1] at this
      exact this
    · exact h.elim
  · split at h
    · rename_i s n i s' o t l x _ y e
      split at h
      · rename_i _ z e'
        obtain ⟨e1, h1, rfl⟩ := needT_holds h
        simp only [Bool.and_eq_true, decide_eq_true_eq] at e1 h1
        obtain ⟨⟨⟨e2, e3⟩, e4⟩, e5⟩ := e1
        have e2 := Nat.eq_of_beq_eq_true e2
        have e3 := Nat.eq_of_beq_eq_true e3
        have e5 := Nat.eq_of_beq_eq_true e5
        have := putElT_av (STy.tv_plain t _) e4 e
        rw [STy.tv_av, List.getD_eq_getElem?_getD, List.getElem?_eq_getElem h1, ← STy.el_av e'] at this
        simp only [List.map, sem, TV.av]
        refine ⟨t.av l[i], _, e2, e3.symm, by simp [List.getElem?_eq_getElem h1], TV.plain_av _ e4, by rw [TV.cells_av _ e4, List.length_map]; exact e5, this, ?_⟩
        rw [List.map_set, e3]
      · exact h.elim
    · exact h.elim
  · obtain ⟨e0, h⟩ := needT_holds h; cases h
    have e0 := Nat.eq_of_beq_eq_true e0
    simp only [List.map, sem, TV.av]
    exact ⟨e0.symm, by rw [e0]⟩
  · exact h.elim
end Go.Eng
