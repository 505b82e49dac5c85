/- Texts of my own, one behind the other: TreeP4, BookP, TreeP, TreeOK. -/
import Derived.Test.YtebebmkjaeebnaaT4
set_option linter.unusedVariables false
set_option linter.unusedSimpArgs false
/- What the functions on trees give: the same, how deep, room. -/
namespace Go.Eng
open Go.IntWalk

theorem by_Equal.goal (a b : Str) : by_Equal.F a b = some [.b (decide (a = b))] := by_Equal.F_eq a b

/-! ## The same -/
theorem Tree.same_iff (a b : Val) : Tree.same a b = true ↔ a = b := by unfold Tree.same; simp
theorem Tree.same_eq (a b : Val) (c : Bool) (h : c = true ↔ a = b) : Tree.same a b = c := by
  rw [Bool.eq_iff_iff, Tree.same_iff, h]
theorem Fld.ext_iff (a b : Fld) : a = b ↔ a.name = b.name ∧ a.val = b.val := by
  cases a; cases b; simp [Fld.name, Fld.val, Fld.kind, Fld.bits, Fld.high, Fld.low, Fld.text, Fld.more, Fld.sub, Fld.bytes, Fld.kids]
/-- Two lists of one length are alike from a place on. -/
theorem drop_eq {α : Type} {a b : List α} {i : Nat} (ha : i < a.length) (hb : i < b.length) (d : α) : a.drop i = b.drop i ↔ a.getD i d = b.getD i d ∧ a.drop (i + 1) = b.drop (i + 1) := by
  rw [drop_cons ha d, drop_cons hb d, List.cons.injEq]

theorem tree_Same.l1_ok (n : Nat) (ks : List Fld) (b : Val) (hl : ks.length = b.kids.length) (hb : Fld.bulks ks < 1099511627776) (hn : Fld.bulks ks < n) : ∀ (m i : Nat), i + m = ks.length →
    ∃ c : Bool, tree_Same.l1 n ks (ks.length : Int) i b = some [.b c] ∧ (c = true ↔ ks.drop i = b.kids.drop i) := by
  have hlen := Fld.bulks_len ks
  intro m
  induction m with
  | zero =>
    intro i hi
    refine ⟨true, ?_, by rw [List.drop_of_length_le (by omega), List.drop_of_length_le (by omega)]; simp⟩
    refine tree_Same.l1_in _ _ _ _ _ ?_
    intro v1 h1 v2 h2 v3 h3 v4 h4 v5 h5 v6 h6
    rw [decide_eq_false (by omega), cond_false]
  | succ m ih =>
    intro i hi
    obtain ⟨c, hc1, hc2⟩ := ih (i + 1) (by omega)
    by_cases h : (ks.getD i (STy.dflt .fl)) = (b.kids.getD i (STy.dflt .fl))
    · refine ⟨c, ?_, hc2.trans ⟨fun x => (drop_eq (i := i) (by omega) (by omega) (STy.dflt .fl)).2 ⟨h, x⟩, fun x => ((drop_eq (i := i) (by omega) (by omega) (STy.dflt .fl)).1 x).2⟩⟩
      refine tree_Same.l1_in _ _ _ _ _ ?_
      intro v1 h1 v2 h2 v3 h3 v4 h4 v5 h5 v6 h6
      rw [Int.toNat_natCast] at h1 h2
      have hg := Fld.bulks_get ks i (STy.dflt .fl) (by omega)
      rw [← h1] at hg h
      rw [← h2] at h
      have hv := Fld.bulk_val v1
      rw [decide_eq_true (by omega), cond_true, show v6 = ((i + 1 : Nat) : Int) by rw [h6, i64_in _ (by omega)]; omega, hc1, ck_of (idx_ok (by omega) (by omega)), ck_of (idx_ok (by omega) (by omega)), show idxOK (i : Int) b.kids.length = true from idx_ok (by omega) (by omega), decide_eq_true (show Fld.bulk (Fld.of [] v1.val) < n by omega), decide_eq_true (show Fld.bulk (Fld.of [] v1.val) ≤ 1099511627776 by omega)]
      have e4 : v4 = true := by rw [h4, Tree.same_iff, h]
      rw [e4, h, decide_eq_true rfl] at h5
      rw [h, decide_eq_true rfl] at h3 ⊢
      subst h3 h5
      rfl
    · refine ⟨false, ?_, ⟨fun x => (by cases x), fun x => (h ((drop_eq (i := i) (by omega) (by omega) (STy.dflt .fl)).1 x).1).elim⟩⟩
      refine tree_Same.l1_in _ _ _ _ _ ?_
      intro v1 h1 v2 h2 v3 h3 v4 h4 v5 h5 v6 h6
      rw [Int.toNat_natCast] at h1 h2
      have hg := Fld.bulks_get ks i (STy.dflt .fl) (by omega)
      rw [← h1] at hg h
      rw [← h2] at h
      have hv := Fld.bulk_val v1
      rw [decide_eq_true (by omega), cond_true, ck_of (idx_ok (by omega) (by omega)), ck_of (idx_ok (by omega) (by omega)), show idxOK (i : Int) b.kids.length = true from idx_ok (by omega) (by omega), decide_eq_true (show Fld.bulk (Fld.of [] v1.val) < n by omega), decide_eq_true (show Fld.bulk (Fld.of [] v1.val) ≤ 1099511627776 by omega)]
      by_cases hN : v1.name = v2.name
      · have e4 : v4 = false := by
          have : v4 ≠ true := by rw [h4, Ne, Tree.same_iff]; exact fun e => h ((Fld.ext_iff _ _).2 ⟨hN, e⟩)
          simpa using this
        rw [e4, decide_eq_true hN] at h5
        rw [decide_eq_true hN] at h3 ⊢
        subst h3 h5
        rfl
      · rw [decide_eq_false hN] at h3 h5 ⊢
        subst h3 h5
        rfl
theorem Val.ext_own (a b : Val) : a = b ↔ Tree.ownSame a b = true ∧ a.kids = b.kids := by
  cases a; cases b; simp [Tree.ownSame, and_assoc]
theorem tree_Same.goal (n : Nat) (a b : Val) (hp : ((decide (Fld.bulk (Fld.of [] a) ≤ 1099511627776)) && decide ((Fld.bulk (Fld.of [] a)) < n + 1)) = true) : tree_Same.F n a b = some [.b (Tree.same a b)] := by
  simp only [Bool.and_eq_true, decide_eq_true_eq] at hp
  obtain ⟨hbig, hn⟩ := hp
  have hks : Fld.bulks a.kids < Fld.bulk (Fld.of [] a) := by simp only [Fld.of, Fld.bulk]; omega
  refine tree_Same.F_in n a b ?_
  intro v1 h1 v2 h2 v3 h3 v4 h4 v5 h5 v6 h6 v7 h7 v8 h8 v9 h9 v10 h10 v11 h11
  have e8 : v8 = !Tree.ownSame a b := by
    subst h2 h3 h4 h5 h6 h7 h8
    unfold Tree.ownSame
    simp only [Bool.cond_true_left, Bool.not_and, Bool.or_assoc]
  subst h1
  simp only [Bool.and_self, Bool.not_or_self, Bool.or_not_self, ck_true]
  by_cases hl : a.kids.length = b.kids.length
  · obtain ⟨c, hc1, hc2⟩ := tree_Same.l1_ok n a.kids b hl (by omega) (by omega) a.kids.length 0 (by omega)
    rw [decide_eq_true (by omega), e8] at h11
    simp only [Bool.not_true] at h11
    rw [h11, h9]
    rw [List.drop_zero, List.drop_zero] at hc2
    cases ho : Tree.ownSame a b
    · rw [Tree.same_eq a b false (by rw [Val.ext_own, ho]; simp)]; rfl
    · rw [Tree.same_eq a b c (by rw [Val.ext_own, ho, hc2]; simp)]; exact hc1
  · rw [decide_eq_false (by omega), e8] at h11
    have : v11 = true := by rw [h11]; cases Tree.ownSame a b <;> rfl
    rw [this, Tree.same_eq a b false (by constructor; (· intro h; cases h); (· intro h; rw [h] at hl; exact (hl rfl).elim))]; rfl

theorem ref17_Own.goal (a b : Val) : ref17_Own.F a b = some [.b (Tree.ownSame a b)] := by
  refine ref17_Own.F_in a b ?_
  intro v1 h1 v2 h2 v3 h3 v4 h4 v5 h5 v6 h6 v7 h7
  subst h1 h2 h3 h4 h5 h6 h7
  simp only [Bool.and_self, Bool.not_or_self, ck_true, Bool.cond_false_right]
  rfl
theorem ref17_Same.l1_ok (n : Nat) (a b : Val) (hl : a.kids.length = b.kids.length) (hb : Fld.bulks a.kids < 1099511627776) (hn : Fld.bulks a.kids < n) : ∀ (m i : Nat), i + m = a.kids.length →
    ∃ c : Bool, ref17_Same.l1 n i a b = some [.b c] ∧ (c = true ↔ a.kids.drop i = b.kids.drop i) := by
  have hlen := Fld.bulks_len a.kids
  intro m
  induction m with
  | zero =>
    intro i hi
    refine ⟨true, ?_, by rw [List.drop_of_length_le (by omega), List.drop_of_length_le (by omega)]; simp⟩
    refine ref17_Same.l1_in _ _ _ _ ?_
    intro v1 h1 v2 h2 v3 h3 v4 h4 v5 h5 v6 h6 v7 h7
    rw [decide_eq_false (by omega), cond_false]
  | succ m ih =>
    intro i hi
    obtain ⟨c, hc1, hc2⟩ := ih (i + 1) (by omega)
    by_cases h : (a.kids.getD i (STy.dflt .fl)) = (b.kids.getD i (STy.dflt .fl))
    · refine ⟨c, ?_, hc2.trans ⟨fun x => (drop_eq (i := i) (by omega) (by omega) (STy.dflt .fl)).2 ⟨h, x⟩, fun x => ((drop_eq (i := i) (by omega) (by omega) (STy.dflt .fl)).1 x).2⟩⟩
      refine ref17_Same.l1_in _ _ _ _ ?_
      intro v1 h1 v2 h2 v3 h3 v4 h4 v5 h5 v6 h6 v7 h7
      rw [Int.toNat_natCast] at h2 h3
      have hg := Fld.bulks_get a.kids i (STy.dflt .fl) (by omega)
      rw [← h2] at hg h
      rw [← h3] at h
      have hv := Fld.bulk_val v2
      rw [decide_eq_true (by omega), cond_true, show v7 = ((i + 1 : Nat) : Int) by rw [h7, i64_in _ (by omega)]; omega, hc1, show idxOK (i : Int) a.kids.length = true from idx_ok (by omega) (by omega), show idxOK (i : Int) b.kids.length = true from idx_ok (by omega) (by omega), decide_eq_true (show Fld.bulk (Fld.of [] v2.val) < n by omega), decide_eq_true (show Fld.bulk (Fld.of [] v2.val) ≤ 1099511627776 by omega)]
      have e5 : v5 = true := by rw [h5, Tree.same_iff, h]
      rw [e5, h, decide_eq_true rfl] at h6
      rw [h, decide_eq_true rfl] at h4 ⊢
      subst h4 h6
      rfl
    · refine ⟨false, ?_, ⟨fun x => (by cases x), fun x => (h ((drop_eq (i := i) (by omega) (by omega) (STy.dflt .fl)).1 x).1).elim⟩⟩
      refine ref17_Same.l1_in _ _ _ _ ?_
      intro v1 h1 v2 h2 v3 h3 v4 h4 v5 h5 v6 h6 v7 h7
      rw [Int.toNat_natCast] at h2 h3
      have hg := Fld.bulks_get a.kids i (STy.dflt .fl) (by omega)
      rw [← h2] at hg h
      rw [← h3] at h
      have hv := Fld.bulk_val v2
      rw [decide_eq_true (by omega), cond_true, show idxOK (i : Int) a.kids.length = true from idx_ok (by omega) (by omega), show idxOK (i : Int) b.kids.length = true from idx_ok (by omega) (by omega), decide_eq_true (show Fld.bulk (Fld.of [] v2.val) < n by omega), decide_eq_true (show Fld.bulk (Fld.of [] v2.val) ≤ 1099511627776 by omega)]
      by_cases hN : v2.name = v3.name
      · have e5 : v5 = false := by
          have : v5 ≠ true := by rw [h5, Ne, Tree.same_iff]; exact fun e => h ((Fld.ext_iff _ _).2 ⟨hN, e⟩)
          simpa using this
        rw [e5, decide_eq_true hN] at h6
        rw [decide_eq_true hN] at h4 ⊢
        subst h4 h6
        rfl
      · rw [decide_eq_false hN] at h4 h6 ⊢
        subst h4 h6
        rfl
theorem ref17_Same.goal (n : Nat) (a b : Val) (hp : ((decide (Fld.bulk (Fld.of [] a) ≤ 1099511627776)) && decide ((Fld.bulk (Fld.of [] a)) < n + 1)) = true) : ref17_Same.F n a b = some [.b (Tree.same a b)] := by
  simp only [Bool.and_eq_true, decide_eq_true_eq] at hp
  obtain ⟨hbig, hn⟩ := hp
  have hks : Fld.bulks a.kids < Fld.bulk (Fld.of [] a) := by simp only [Fld.of, Fld.bulk]; omega
  refine ref17_Same.F_in n a b ?_
  intro v1 h1 v2 h2 v3 h3
  simp only [Bool.and_self, Bool.not_or_self, Bool.or_not_self, ck_true]
  by_cases hl : a.kids.length = b.kids.length
  · obtain ⟨c, hc1, hc2⟩ := ref17_Same.l1_ok n a b hl (by omega) (by omega) a.kids.length 0 (by omega)
    rw [decide_eq_true (by omega)] at h3
    rw [List.drop_zero, List.drop_zero] at hc2
    rw [h3]
    cases ho : Tree.ownSame a b
    · rw [Tree.same_eq a b false (by rw [Val.ext_own, ho]; simp)]; rfl
    · rw [Tree.same_eq a b c (by rw [Val.ext_own, ho, hc2]; simp)]; exact hc1
  · rw [decide_eq_false (by omega)] at h3
    have : v3 = true := by rw [h3]; cases Tree.ownSame a b <;> rfl
    rw [this, Tree.same_eq a b false (by constructor; (· intro h; cases h); (· intro h; rw [h] at hl; exact (hl rfl).elim))]; rfl

/-! ## How deep -/
theorem Tree.depth_val (f : Fld) : Tree.depth (Fld.of [] f.val) = Tree.depth f := by cases f; rfl
theorem Tree.depth_of (n : Str) (v : Val) : Tree.depth (Fld.of n v) = if v.kind = 3 ∨ v.kind = 4 ∨ v.kind = 15 then Tree.depthL v.kids + 1 else 0 := by cases v; rfl
theorem Tree.depthL_le : ∀ l : List Fld, Tree.depthL l ≤ Fld.bulks l ∧ ∀ f ∈ l, Tree.depth f ≤ Fld.bulk f
  | [] => by simp [Tree.depthL]
  | f :: l => by
    obtain ⟨h1, h2⟩ := Tree.depthL_le l
    have hf : Tree.depth f ≤ Fld.bulk f := by
      obtain ⟨n, k, b, h, lo, t, m, s, y, ks⟩ := f
      have := (Tree.depthL_le ks).1
      unfold Tree.depth Fld.bulk
      split <;> omega
    refine ⟨by simp only [Tree.depthL, Fld.bulks]; omega, fun g hg => ?_⟩
    rcases List.mem_cons.1 hg with rfl | hg
    · exact hf
    · exact h2 g hg
theorem Tree.depth_le (f : Fld) : Tree.depth f ≤ Fld.bulk f := (Tree.depthL_le [f]).2 f (List.mem_cons_self ..)
theorem tree_Depth.l1_ok (n : Nat) (ks : List Fld) (hb : Fld.bulks ks < 1099511627776) (hn : Fld.bulks ks < n) : ∀ (m i d : Nat), i + m = ks.length → d ≤ 1099511627776 →
    tree_Depth.l1 n d ks (ks.length : Int) i = some [.i .i64 ((max d (Tree.depthL (ks.drop i)) + 1 : Nat) : Int)] := by
  have hlen := Fld.bulks_len ks
  intro m
  induction m with
  | zero =>
    intro i d hi hd
    refine tree_Depth.l1_in _ _ _ _ _ ?_
    intro v1 h1 v2 h2 v3 h3 v4 h4
    rw [decide_eq_false (by omega), cond_false, List.drop_of_length_le (by omega), h4, i64_in _ (by omega)]
    simp [Tree.depthL]
  | succ m ih =>
    intro i d hi hd
    refine tree_Depth.l1_in _ _ _ _ _ ?_
    intro v1 h1 v2 h2 v3 h3 v4 h4
    rw [Int.toNat_natCast] at h1
    have hg := Fld.bulks_get ks i (STy.dflt .fl) (by omega)
    rw [← h1] at hg
    have hv := Fld.bulk_val v1
    have hdv := Tree.depth_le v1
    rw [decide_eq_true (by omega), cond_true, ck_of (idx_ok (by omega) (by omega)), decide_eq_true (show Fld.bulk (Fld.of [] v1.val) < n by omega), decide_eq_true (show Fld.bulk (Fld.of [] v1.val) ≤ 1099511627776 by omega), Bool.and_self, ck_true,
      show v3 = ((i + 1 : Nat) : Int) by rw [h3, i64_in _ (by omega)]; omega, h2, Tree.depth_val, show maxI (d : Int) (Tree.depth v1 : Int) = ((max d (Tree.depth v1) : Nat) : Int) by unfold maxI; split <;> omega, ih _ _ (by omega) (by omega), drop_cons (l := ks) (i := i) (by omega) (STy.dflt .fl), ← h1, Tree.depthL, Nat.max_assoc]
theorem tree_Depth.goal (n : Nat) (v : Val) (hp : ((decide (Fld.bulk (Fld.of [] v) ≤ 1099511627776)) && decide ((Fld.bulk (Fld.of [] v)) < n + 1)) = true) : tree_Depth.F n v = some [.i .i64 (Tree.depth (Fld.of [] v) : Int)] := by
  simp only [Bool.and_eq_true, decide_eq_true_eq] at hp
  obtain ⟨hbig, hn⟩ := hp
  have hks : Fld.bulks v.kids < Fld.bulk (Fld.of [] v) := by simp only [Fld.of, Fld.bulk]; omega
  refine tree_Depth.F_in n v ?_
  intro v1 h1 v2 h2 v3 h3
  simp only [Bool.not_or_self, ck_true]
  have key := tree_Depth.l1_ok n v.kids (by omega) (by omega) v.kids.length 0 0 (by omega) (by omega)
  rw [List.drop_zero] at key
  rw [Tree.depth_of]
  by_cases h : v.kind = 3 ∨ v.kind = 4 ∨ v.kind = 15
  · rw [if_pos h, show v2 = false by subst h1 h2; rcases h with h | h | h <;> simp [h], cond_false, h3]
    rw [Nat.zero_max] at key
    exact key
  · rw [if_neg h, show v2 = true by subst h1 h2; simp only [not_or] at h; simp [h.1, h.2.1, h.2.2], cond_true]; rfl

/-! ## Lists of numbers; room -/
theorem ref1_SameInts.l1_ok (a b : List Int) (hl : a.length = b.length) (hb : a.length < 9223372036854775807) : ∀ (m i : Nat), i + m = a.length → ref1_SameInts.l1 a b i = some [.b (decide (a.drop i = b.drop i))] := by
  intro m
  induction m with
  | zero =>
    intro i hi
    refine ref1_SameInts.l1_in _ _ _ ?_
    intro v1 h1 v2 h2 v3 h3
    rw [decide_eq_false (by omega), cond_false, List.drop_of_length_le (by omega), List.drop_of_length_le (by omega)]; rfl
  | succ m ih =>
    intro i hi
    refine ref1_SameInts.l1_in _ _ _ ?_
    intro v1 h1 v2 h2 v3 h3
    rw [Int.toNat_natCast] at h1 h2
    rw [decide_eq_true (by omega), cond_true, ck_of (idx_ok (by omega) (by omega)), ck_of (idx_ok (by omega) (by omega)), drop_cons (l := a) (i := i) (by omega) 0, drop_cons (l := b) (i := i) (by omega) 0, ← h1, ← h2]
    by_cases h : v1 = v2
    · rw [decide_eq_true h]
      simp only [Bool.not_true, cond_false]
      rw [show v3 = ((i + 1 : Nat) : Int) by rw [h3, i64_in _ (by omega)]; omega, ih _ (by omega)]
      simp [h]
    · rw [decide_eq_false h]; simp [h]
theorem ref1_SameInts.goal (a b : List Int) (hp : decide (a.length ≤ 1099511627776) = true) : ref1_SameInts.F a b = some [.b (decide (a = b))] := by
  have hp := of_decide_eq_true hp
  rw [ref1_SameInts.F_eq]
  by_cases hl : a.length = b.length
  · rw [decide_eq_true (by omega)]
    have := ref1_SameInts.l1_ok a b hl (by omega) a.length 0 (by omega)
    simpa using this
  · rw [decide_eq_false (by omega), decide_eq_false (fun e => hl (by rw [e]))]; rfl
end Go.Eng
/- Room, small trees. -/
namespace Go.Eng
open Go.IntWalk

theorem Book.room_le (sizes : List Int) : ∀ left : Int, left ≤ 1200 → (∀ s ∈ sizes, 0 ≤ s) → Book.room left sizes ≤ 1200 := by
  induction sizes with
  | nil => intro left h _; exact h
  | cons s r ih =>
    intro left h hs
    rw [Book.room]
    split
    · omega
    · have := hs s (List.mem_cons_self ..)
      exact ih _ (by omega) fun x hx => hs x (List.mem_cons_of_mem _ hx)
theorem book_Room.l1_ok (sizes : List Int) (hl : sizes.length ≤ 10) (hs : ∀ s ∈ sizes, 0 ≤ s) : ∀ (m i : Nat) (left : Int), i + m = sizes.length → left ≤ 1200 → book_Room.l1 left sizes i = some [.i .i64 (Book.room left (sizes.drop i))] := by
  intro m
  induction m with
  | zero =>
    intro i left hi hle
    refine book_Room.l1_in _ _ _ ?_
    intro v1 h1 v2 h2 v3 h3
    rw [decide_eq_false (by omega), cond_false, List.drop_of_length_le (by omega)]; rfl
  | succ m ih =>
    intro i left hi hle
    refine book_Room.l1_in _ _ _ ?_
    intro v1 h1 v2 h2 v3 h3
    rw [Int.toNat_natCast] at h1
    have h0 : 0 ≤ v1 := hs v1 (by rw [h1, List.getD_eq_getElem?_getD, List.getElem?_eq_getElem (show i < sizes.length by omega)]; simp)
    rw [decide_eq_true (by omega), cond_true, show idxOK (i : Int) sizes.length = true from idx_ok (by omega) (by omega), drop_cons (l := sizes) (i := i) (by omega) 0, ← h1, Book.room]
    simp only [Bool.and_self, Bool.and_true, Bool.not_or_self, Bool.or_not_self, ck_true]
    by_cases a : left < 0 ∨ left < v1
    · rw [if_pos a, show v2 = true by rw [h2]; by_cases b : left < 0 <;> simp [b]; omega]; rfl
    · rw [if_neg a, show v2 = false by rw [h2]; by_cases b : left < 0 <;> simp [b] <;> omega, cond_false, show v3 = ((i + 1 : Nat) : Int) by rw [h3, i64_in _ (by omega)]; omega, i64_in _ (by omega), ih _ _ (by omega) (by omega)]
theorem book_Room.goal (left : Int) (sizes : List Int) (hp : (decide (left ≤ 1200 ∧ sizes.length ≤ 10) && sizes.all (fun s => decide (0 ≤ s))) = true) : book_Room.F left sizes = some [.i .i64 (Book.room left sizes)] := by
  simp only [Bool.and_eq_true, decide_eq_true_eq, List.all_eq_true] at hp
  rw [book_Room.F_eq]
  exact book_Room.l1_ok sizes hp.1.2 hp.2 sizes.length 0 left (by omega) hp.1.1

theorem Book.room1 (left a : Int) (ha : 0 ≤ a) (hl : left ≤ 1200) : Book.room left [a] ≤ 1200 ∧ (Book.room left [a] = -1 ∨ (Book.room left [a] = left - a ∧ 0 ≤ left - a)) := by
  simp only [Book.room]; split <;> omega
theorem Book.room4 (left a b c d : Int) (ha : 0 ≤ a) (hb : 0 ≤ b) (hc : 0 ≤ c) (hd : 0 ≤ d) (hl : left ≤ 1200) :
    Book.room left [a, b, c, d] ≤ 1200 ∧ (Book.room left [a, b, c, d] = -1 ∨ (Book.room left [a, b, c, d] = left - a - b - c - d ∧ 0 ≤ left - a - b - c - d)) := by
  simp only [Book.room]
  split
  · omega
  · split
    · omega
    · split
      · omega
      · split <;> omega
mutual
theorem Book.value_le : ∀ (f : Fld) (left : Int), left ≤ 1200 → Book.value left f ≤ 1200 ∧ (0 ≤ Book.value left f → (Fld.bulk f : Int) - f.name.length ≤ left - Book.value left f)
  | .mk n k b h l t m s y ks, left, hl => by
    have h1 := Book.room4 left 2 t.length m.length y.length (by omega) (by omega) (by omega) (by omega) hl
    have h2 := Book.values_le ks (Book.room left [2, (t.length : Int), (m.length : Int), (y.length : Int)]) h1.1
    simp only [Book.value, Fld.bulk, Fld.name]
    refine ⟨h2.1, fun h0 => ?_⟩
    rcases h1.2 with e | ⟨e, e0⟩
    · have := h2.2.2 (by omega); omega
    · have := h2.2.1 h0; omega
theorem Book.values_le : ∀ (ks : List Fld) (left : Int), left ≤ 1200 → Book.values left ks ≤ 1200 ∧ (0 ≤ Book.values left ks → (Fld.bulks ks : Int) ≤ left - Book.values left ks) ∧ (left < 0 → Book.values left ks < 0)
  | [], left, hl => by simp only [Book.values, Fld.bulks]; omega
  | f :: r, left, hl => by
    simp only [Book.values, Fld.bulks]
    by_cases h : left < 0
    · rw [if_pos h]; omega
    · rw [if_neg h]
      have h1 := Book.room1 left f.name.length (by omega) hl
      have h2 := Book.value_le f (Book.room left [(f.name.length : Int)]) h1.1
      have h3 := Book.values_le r (Book.value (Book.room left [(f.name.length : Int)]) f) h2.1
      refine ⟨h3.1, fun h0 => ?_, fun h0 => by omega⟩
      have h4 := h3.2.1 h0
      have h5 : 0 ≤ Book.value (Book.room left [(f.name.length : Int)]) f := by
        by_cases h6 : Book.value (Book.room left [(f.name.length : Int)]) f < 0
        · have := h3.2.2 h6; omega
        · omega
      have h7 := h2.2 h5
      have hb : (f.name.length : Int) ≤ Fld.bulk f := by cases f; simp only [Fld.name, Fld.bulk]; omega
      rcases h1.2 with e | ⟨e, e0⟩
      · omega
      · omega
end
theorem Book.small_bulk (v : Val) (h : 0 ≤ Book.value 1200 (Fld.of [] v)) : Fld.bulk (Fld.of [] v) ≤ 1200 := by
  have := (Book.value_le (Fld.of [] v) 1200 (by omega)).2 h
  have hn : (Fld.of [] v).name = [] := rfl
  rw [hn] at this
  simp at this; omega
theorem Book.value_val (left : Int) (f : Fld) : Book.value left (Fld.of [] f.val) = Book.value left f := by cases f; rfl
theorem Book.value_lt (f : Fld) (left : Int) (hl : left ≤ 1200) (h0 : 0 ≤ Book.value left f) : Book.value left f + 1 ≤ left := by
  have := (Book.value_le f left hl).2 h0
  have hb : (f.name.length : Int) + 1 ≤ Fld.bulk f := by cases f; simp only [Fld.name, Fld.bulk]; omega
  omega
theorem book_Value.l1_ok (n : Nat) (v : Val) (hn : Fld.bulks v.kids < n) : ∀ (m i : Nat) (left : Int), i + m = v.kids.length → (i : Int) + left ≤ 1200 →
    book_Value.l1 n left i v = some [.i .i64 (Book.values left (v.kids.drop i))] := by
  intro m
  induction m with
  | zero =>
    intro i left hi hle
    refine book_Value.l1_in _ _ _ _ ?_
    intro v1 h1 v2 h2 v3 h3 v4 h4 v5 h5 v6 h6 v7 h7
    simp only [Bool.not_or_self, ck_true]
    rw [show v2 = false by rw [h2, decide_eq_false (by omega)]; rfl, cond_false, List.drop_of_length_le (by omega)]; rfl
  | succ m ih =>
    intro i left hi hle
    refine book_Value.l1_in _ _ _ _ ?_
    intro v1 h1 v2 h2 v3 h3 v4 h4 v5 h5 v6 h6 v7 h7
    rw [Int.toNat_natCast] at h3
    have hg := Fld.bulks_get v.kids i (STy.dflt .fl) (by omega)
    rw [← h3] at hg
    have hv := Fld.bulk_val v3
    have r1 := Book.room1 left v4 (by omega) (by omega)
    rw [← h5] at r1
    have r2 := Book.value_lt v3 v5 r1.1
    rw [Book.value_val] at h6
    simp only [Bool.not_or_self, ck_true]
    rw [drop_cons (l := v.kids) (i := i) (by omega) (STy.dflt .fl), ← h3, Book.values]
    by_cases h : left < 0
    · rw [if_pos h, show v2 = false by rw [h2, decide_eq_false (show ¬ 0 ≤ left by omega)]; simp]; rfl
    · have r3 : (i : Int) + 1 + v6 ≤ 1200 := by
        rw [h6]
        by_cases hx : 0 ≤ Book.value v5 v3
        · have := r2 hx; omega
        · omega
      rw [if_neg h, show v2 = true by rw [h2, decide_eq_true (by omega), decide_eq_true (by omega)]; rfl, cond_true, ck_of (idx_ok (by omega) (by omega)), ck_of (by simp; omega), ck_of (idx_ok (by omega) (by omega)), decide_eq_true r1.1, decide_eq_true (by omega), Bool.and_self, ck_true,
        show v7 = ((i + 1 : Nat) : Int) by rw [h7, i64_in _ (by omega)]; omega, ih _ _ (by omega) (by omega), h6, h5, h4]
theorem book_Value.goal (n : Nat) (left : Int) (v : Val) (hp : ((decide (left ≤ 1200)) && decide ((Fld.bulk (Fld.of [] v)) < n + 1)) = true) : book_Value.F n left v = some [.i .i64 (Book.value left (Fld.of [] v))] := by
  simp only [Bool.and_eq_true, decide_eq_true_eq] at hp
  obtain ⟨hl, hn⟩ := hp
  have hks : Fld.bulks v.kids < Fld.bulk (Fld.of [] v) := by simp only [Fld.of, Fld.bulk]; omega
  refine book_Value.F_in n left v ?_
  intro v1 h1 v2 h2 v3 h3 v4 h4
  have r := Book.room4 left 2 v1 v2 v3 (by omega) (by omega) (by omega) (by omega) hl
  rw [← h4] at r
  rw [ck_of (by rw [h4]; simp; omega)]
  have key := book_Value.l1_ok n v (by omega) v.kids.length 0 (Book.room left v4) (by omega) (by omega)
  rw [List.drop_zero] at key
  refine key.trans ?_
  rw [h4, h1, h2, h3]
  rfl
theorem book_Small.goal (v : Val) : book_Small.F v = some [.b (decide (0 ≤ Book.value 1200 (Fld.of [] v)))] := by
  refine book_Small.F_in v ?_
  intro v1 h1
  rw [ck_of (by decide), h1]
end Go.Eng
/- What the laws on trees give. -/
namespace Go.Eng
open Go.IntWalk

mutual
theorem Tree.chkF_len : ∀ (f : Fld) (p : List Int), (Tree.chkF f p).1.length ≤ p.length + Fld.bulk f
  | .mk n k b h l t m s y ks, p => by
    have := Tree.chkL_len ks 0 p
    simp only [Tree.chkF, Fld.bulk]
    split
    · simp only; omega
    · omega
theorem Tree.chkL_len : ∀ (ks : List Fld) (i : Nat) (p : List Int), (Tree.chkL ks i p).1.length ≤ p.length + 1 + Fld.bulks ks
  | [], i, p => by simp [Tree.chkL]
  | f :: r, i, p => by
    have h1 := Tree.chkF_len f (p ++ [(i : Int)])
    have h2 := Tree.chkL_len r (i + 1) p
    simp only [Tree.chkL, Fld.bulks]
    simp only [List.length_append, List.length_singleton] at h1
    split <;> omega
end

theorem law17_awake.goal : law17_awake.F = some [.b true] := by
  refine law17_awake.F_in ?_
  intro v1 h1 v2 h2 v3 h3 v4 h4 v5 h5 v6 h6 v7 h7
  subst h1 h4
  have e2 : v2 = [0] := h2.trans (by decide +kernel)
  have e3 : v3 = 5 := h3.trans (by decide +kernel)
  have e5 : v5 = 2 := h5.trans (by decide +kernel)
  rw [e5, e3] at h6
  rw [e2, h6] at h7
  rw [h7, h6, e5, e2, ck_of (by decide +kernel), ck_of (by decide +kernel)]
  rfl
theorem TreeChecks.goal (v : Val) : TreeChecks.F v = some [.b true] := by
  refine TreeChecks.F_in v ?_
  intro v1 h1 v2 h2 v3 h3
  by_cases hs : 0 ≤ Book.value 1200 (Fld.of [] v)
  · have hb := Book.small_bulk v hs
    have hl := Tree.chkF_len (Fld.of [] v) []
    rw [← h1] at hl
    simp only [List.length_nil] at hl
    rw [decide_eq_true hs, decide_eq_true (show Fld.bulk (Fld.of [] v) ≤ 1099511627776 by omega), decide_eq_true (show v1.length ≤ 1099511627776 by omega), h3, decide_eq_true rfl, decide_eq_true rfl]
    rfl
  · rw [decide_eq_false hs]; rfl
theorem TreeNames.goal (k : Int) (s : Str) : TreeNames.F k s = some [.b true] := by
  refine TreeNames.F_in k s ?_
  intro v1 h1 v2 h2
  rw [decide_eq_true rfl, decide_eq_true rfl] at h1
  rw [h1, h2, decide_eq_true rfl]
  by_cases h : (100 : Int) < (s.length : Int)
  · rw [decide_eq_true h]; rfl
  · rw [decide_eq_false h]; cases (Tree.kind s).2 <;> rfl
theorem TreeSames.goal (a b : Val) : TreeSames.F a b = some [.b true] := by
  refine TreeSames.F_in a b ?_
  intro v1 h1 v2 h2 v3 h3 v4 h4 v5 h5
  have s1 : Tree.same a a = true := (Tree.same_iff a a).2 rfl
  have s2 : Tree.same b a = Tree.same a b := Tree.same_eq b a _ (by rw [Tree.same_iff]; exact eq_comm)
  rw [s1] at h4
  rw [s2] at h5
  by_cases ha : 0 ≤ Book.value 1200 (Fld.of [] a)
  · by_cases hb : 0 ≤ Book.value 1200 (Fld.of [] b)
    · have ba := Book.small_bulk a ha
      have bb := Book.small_bulk b hb
      rw [decide_eq_true ha] at h1 h2 ⊢
      rw [decide_eq_true hb] at h2
      rw [decide_eq_true (show Fld.bulk (Fld.of [] a) ≤ 1099511627776 by omega), decide_eq_true (show Fld.bulk (Fld.of [] b) ≤ 1099511627776 by omega)]
      subst h1 h2 h3 h4 h5
      cases Tree.same a b <;> rfl
    · rw [decide_eq_true ha] at h1 h2 ⊢
      rw [decide_eq_false hb] at h2
      subst h1 h2
      rfl
  · rw [decide_eq_false ha] at h1 h2 ⊢
    subst h1 h2
    rfl
end Go.Eng
/- Printed by seatgen.py. -/
namespace Go.Eng
theorem utf_is.fit (r : Int) : ([.i .i64 r] : List TV).length = utf_is.d.np ∧ utf_is.d.run (envL noGl utf_is.env) [.i .i64 r] = some (([(.b (Utf.isRune r))] : List TV) ++ utf_is.d.ps.toList.map fun q => ([.i .i64 r] : List TV).getD q.1 .dead) :=
  ⟨by kernel_rfl, Eq.trans (b := utf_is.F r) (by kernel_rfl) (Eq.trans (utf_is.goal r) (by kernel_rfl))⟩
theorem utf_is.ok : SpecOK Go.Proofs.Try.prog (fun n => (noGl n).av) 47 (Ctr.fs (utf_is.c, utf_is.sg)) :=
  meets (l := utf_is.env) all_nil utf_is.chk (by
      intro ins outs h
      unfold utf_is.c at h
      split at h
      · cases h; exact utf_is.fit _
      · exact h.elim)
theorem utf_Rune.fit (b : List UInt8) (at_ : Int) (hp : (decide (b.length ≤ 1099511627776)) = true) : ([.sl .bs b, .i .i64 at_] : List TV).length = utf_Rune.d.np ∧ utf_Rune.d.run (envL noGl utf_Rune.env) [.sl .bs b, .i .i64 at_] = some (([(.i .i64 ((Utf.runeAt b at_).1)), (.i .i64 ((Utf.runeAt b at_).2))] : List TV) ++ utf_Rune.d.ps.toList.map fun q => ([.sl .bs b, .i .i64 at_] : List TV).getD q.1 .dead) :=
  ⟨by kernel_rfl, Eq.trans (b := utf_Rune.F b at_) (by kernel_rfl) (Eq.trans (utf_Rune.goal b at_ hp) (by kernel_rfl))⟩
theorem utf_Rune.ok : SpecOK Go.Proofs.Try.prog (fun n => (noGl n).av) 44 (Ctr.fs (utf_Rune.c, utf_Rune.sg)) :=
  meets (l := utf_Rune.env) (all_cons utf_is.ok all_nil) utf_Rune.chk (by
      intro ins outs h
      unfold utf_Rune.c at h
      split at h
      · obtain ⟨hp, rfl⟩ := h; exact utf_Rune.fit _ _ hp
      · exact h.elim)
theorem utf_look.fit (b : List UInt8) (hp : (decide (b.length ≤ 1099511627776)) = true) : ([.sl .bs b] : List TV).length = utf_look.d.np ∧ utf_look.d.run (envL noGl utf_look.env) [.sl .bs b] = some (([(.i .i64 (((Utf.look b).1 : Int))), (.i .i64 (((Utf.look b).2 : Int)))] : List TV) ++ utf_look.d.ps.toList.map fun q => ([.sl .bs b] : List TV).getD q.1 .dead) :=
  ⟨by kernel_rfl, Eq.trans (b := utf_look.F b) (by kernel_rfl) (Eq.trans (utf_look.goal b hp) (by kernel_rfl))⟩
theorem utf_look.ok : SpecOK Go.Proofs.Try.prog (fun n => (noGl n).av) 41 (Ctr.fs (utf_look.c, utf_look.sg)) :=
  meets (l := utf_look.env) (all_cons utf_Rune.ok all_nil) utf_look.chk (by
      intro ins outs h
      unfold utf_look.c at h
      split at h
      · obtain ⟨hp, rfl⟩ := h; exact utf_look.fit _ hp
      · exact h.elim)
theorem utf_Check.fit (b : List UInt8) (hp : (decide (b.length ≤ 1099511627776)) = true) : ([.sl .bs b] : List TV).length = utf_Check.d.np ∧ utf_Check.d.run (envL noGl utf_Check.env) [.sl .bs b] = some (([(.i .i64 (((Utf.look b).1 : Int))), (.b (Utf.whole b))] : List TV) ++ utf_Check.d.ps.toList.map fun q => ([.sl .bs b] : List TV).getD q.1 .dead) :=
  ⟨by kernel_rfl, Eq.trans (b := utf_Check.F b) (by kernel_rfl) (Eq.trans (utf_Check.goal b hp) (by kernel_rfl))⟩
theorem utf_Check.ok : SpecOK Go.Proofs.Try.prog (fun n => (noGl n).av) 36 (Ctr.fs (utf_Check.c, utf_Check.sg)) :=
  meets (l := utf_Check.env) (all_cons utf_look.ok all_nil) utf_Check.chk (by
      intro ins outs h
      unfold utf_Check.c at h
      split at h
      · obtain ⟨hp, rfl⟩ := h; exact utf_Check.fit _ hp
      · exact h.elim)
theorem ref2_Rune.fit (b : List UInt8) (at_ : Int) (hp : (decide (b.length ≤ 1099511627776)) = true) : ([.sl .bs b, .i .i64 at_] : List TV).length = ref2_Rune.d.np ∧ ref2_Rune.d.run (envL noGl ref2_Rune.env) [.sl .bs b, .i .i64 at_] = some (([(.i .i64 ((Utf.runeAt b at_).1)), (.i .i64 ((Utf.runeAt b at_).2))] : List TV) ++ ref2_Rune.d.ps.toList.map fun q => ([.sl .bs b, .i .i64 at_] : List TV).getD q.1 .dead) :=
  ⟨by kernel_rfl, Eq.trans (b := ref2_Rune.F b at_) (by kernel_rfl) (Eq.trans (ref2_Rune.goal b at_ hp) (by kernel_rfl))⟩
theorem ref2_Rune.ok : SpecOK Go.Proofs.Try.prog (fun n => (noGl n).av) 46 (Ctr.fs (ref2_Rune.c, ref2_Rune.sg)) :=
  meets (l := ref2_Rune.env) all_nil ref2_Rune.chk (by
      intro ins outs h
      unfold ref2_Rune.c at h
      split at h
      · obtain ⟨hp, rfl⟩ := h; exact ref2_Rune.fit _ _ hp
      · exact h.elim)
theorem ref2_Check.fit (b : List UInt8) (hp : (decide (b.length ≤ 1099511627776)) = true) : ([.sl .bs b] : List TV).length = ref2_Check.d.np ∧ ref2_Check.d.run (envL noGl ref2_Check.env) [.sl .bs b] = some (([(.i .i64 (((Utf.look b).1 : Int))), (.b (Utf.whole b))] : List TV) ++ ref2_Check.d.ps.toList.map fun q => ([.sl .bs b] : List TV).getD q.1 .dead) :=
  ⟨by kernel_rfl, Eq.trans (b := ref2_Check.F b) (by kernel_rfl) (Eq.trans (ref2_Check.goal b hp) (by kernel_rfl))⟩
theorem ref2_Check.ok : SpecOK Go.Proofs.Try.prog (fun n => (noGl n).av) 43 (Ctr.fs (ref2_Check.c, ref2_Check.sg)) :=
  meets (l := ref2_Check.env) (all_cons ref2_Rune.ok all_nil) ref2_Check.chk (by
      intro ins outs h
      unfold ref2_Check.c at h
      split at h
      · obtain ⟨hp, rfl⟩ := h; exact ref2_Check.fit _ hp
      · exact h.elim)
theorem ref2_Whole.fit (s : Str) (hp : (decide (s.length ≤ 1099511627776)) = true) : ([.s s] : List TV).length = ref2_Whole.d.np ∧ ref2_Whole.d.run (envL noGl ref2_Whole.env) [.s s] = some (([(.b (Utf.whole s))] : List TV) ++ ref2_Whole.d.ps.toList.map fun q => ([.s s] : List TV).getD q.1 .dead) :=
  ⟨by kernel_rfl, Eq.trans (b := ref2_Whole.F s) (by kernel_rfl) (Eq.trans (ref2_Whole.goal s hp) (by kernel_rfl))⟩
theorem ref2_Whole.ok : SpecOK Go.Proofs.Try.prog (fun n => (noGl n).av) 39 (Ctr.fs (ref2_Whole.c, ref2_Whole.sg)) :=
  meets (l := ref2_Whole.env) (all_cons ref2_Check.ok all_nil) ref2_Whole.chk (by
      intro ins outs h
      unfold ref2_Whole.c at h
      split at h
      · obtain ⟨hp, rfl⟩ := h; exact ref2_Whole.fit _ hp
      · exact h.elim)
theorem ref2_Zero.fit (s : Str) (hp : (decide (s.length ≤ 1099511627776)) = true) : ([.s s] : List TV).length = ref2_Zero.d.np ∧ ref2_Zero.d.run (envL noGl ref2_Zero.env) [.s s] = some (([(.b (Utf.zero s))] : List TV) ++ ref2_Zero.d.ps.toList.map fun q => ([.s s] : List TV).getD q.1 .dead) :=
  ⟨by kernel_rfl, Eq.trans (b := ref2_Zero.F s) (by kernel_rfl) (Eq.trans (ref2_Zero.goal s hp) (by kernel_rfl))⟩
theorem ref2_Zero.ok : SpecOK Go.Proofs.Try.prog (fun n => (noGl n).av) 40 (Ctr.fs (ref2_Zero.c, ref2_Zero.sg)) :=
  meets (l := ref2_Zero.env) all_nil ref2_Zero.chk (by
      intro ins outs h
      unfold ref2_Zero.c at h
      split at h
      · obtain ⟨hp, rfl⟩ := h; exact ref2_Zero.fit _ hp
      · exact h.elim)
theorem sl_IndexByte.fit (s : Str) (c : UInt8) : ([.s s, .u8 c] : List TV).length = sl_IndexByte.d.np ∧ sl_IndexByte.d.run (envL noGl sl_IndexByte.env) [.s s, .u8 c] = some (([(.i .i64 (Lib.indexByte s c))] : List TV) ++ sl_IndexByte.d.ps.toList.map fun q => ([.s s, .u8 c] : List TV).getD q.1 .dead) :=
  ⟨by kernel_rfl, Eq.trans (b := sl_IndexByte.F s c) (by kernel_rfl) (Eq.trans (sl_IndexByte.goal s c) (by kernel_rfl))⟩
theorem sl_IndexByte.ok : SpecOK Go.Proofs.Try.prog (fun n => (noGl n).av) 48 (Ctr.fs (sl_IndexByte.c, sl_IndexByte.sg)) :=
  meets (l := sl_IndexByte.env) all_nil sl_IndexByte.chk (by
      intro ins outs h
      unfold sl_IndexByte.c at h
      split at h
      · cases h; exact sl_IndexByte.fit _ _
      · exact h.elim)
theorem sl_Index.fit (s : Str) (t : Str) (hp : (decide (t.length = 1)) = true) : ([.s s, .s t] : List TV).length = sl_Index.d.np ∧ sl_Index.d.run (envL noGl sl_Index.env) [.s s, .s t] = some (([(.i .i64 (Lib.indexByte s (t.getD 0 0)))] : List TV) ++ sl_Index.d.ps.toList.map fun q => ([.s s, .s t] : List TV).getD q.1 .dead) :=
  ⟨by kernel_rfl, Eq.trans (b := sl_Index.F s t) (by kernel_rfl) (Eq.trans (sl_Index.goal s t hp) (by kernel_rfl))⟩
theorem sl_Index.ok : SpecOK Go.Proofs.Try.prog (fun n => (noGl n).av) 45 (Ctr.fs (sl_Index.c, sl_Index.sg)) :=
  meets (l := sl_Index.env) (all_cons sl_IndexByte.ok all_nil) sl_Index.chk (by
      intro ins outs h
      unfold sl_Index.c at h
      split at h
      · obtain ⟨hp, rfl⟩ := h; exact sl_Index.fit _ _ hp
      · exact h.elim)
theorem st_Index.fit (s : Str) (t : Str) (hp : (decide (t.length = 1)) = true) : ([.s s, .s t] : List TV).length = st_Index.d.np ∧ st_Index.d.run (envL noGl st_Index.env) [.s s, .s t] = some (([(.i .i64 (Lib.indexByte s (t.getD 0 0)))] : List TV) ++ st_Index.d.ps.toList.map fun q => ([.s s, .s t] : List TV).getD q.1 .dead) :=
  ⟨by kernel_rfl, Eq.trans (b := st_Index.F s t) (by kernel_rfl) (Eq.trans (st_Index.goal s t hp) (by kernel_rfl))⟩
theorem st_Index.ok : SpecOK Go.Proofs.Try.prog (fun n => (noGl n).av) 42 (Ctr.fs (st_Index.c, st_Index.sg)) :=
  meets (l := st_Index.env) (all_cons sl_Index.ok all_nil) st_Index.chk (by
      intro ins outs h
      unfold st_Index.c at h
      split at h
      · obtain ⟨hp, rfl⟩ := h; exact st_Index.fit _ _ hp
      · exact h.elim)
theorem st_Contains.fit (s : Str) (t : Str) (hp : (decide (t.length = 1)) = true) : ([.s s, .s t] : List TV).length = st_Contains.d.np ∧ st_Contains.d.run (envL noGl st_Contains.env) [.s s, .s t] = some (([(.b (decide (0 ≤ Lib.indexByte s (t.getD 0 0))))] : List TV) ++ st_Contains.d.ps.toList.map fun q => ([.s s, .s t] : List TV).getD q.1 .dead) :=
  ⟨by kernel_rfl, Eq.trans (b := st_Contains.F s t) (by kernel_rfl) (Eq.trans (st_Contains.goal s t hp) (by kernel_rfl))⟩
theorem st_Contains.ok : SpecOK Go.Proofs.Try.prog (fun n => (noGl n).av) 37 (Ctr.fs (st_Contains.c, st_Contains.sg)) :=
  meets (l := st_Contains.env) (all_cons st_Index.ok all_nil) st_Contains.chk (by
      intro ins outs h
      unfold st_Contains.c at h
      split at h
      · obtain ⟨hp, rfl⟩ := h; exact st_Contains.fit _ _ hp
      · exact h.elim)
theorem tree_Name.fit (k : Int) : ([.i .i64 k] : List TV).length = tree_Name.d.np ∧ tree_Name.d.run (envL noGl tree_Name.env) [.i .i64 k] = some (([(.s (Tree.name k))] : List TV) ++ tree_Name.d.ps.toList.map fun q => ([.i .i64 k] : List TV).getD q.1 .dead) :=
  ⟨by kernel_rfl, Eq.trans (b := tree_Name.F k) (by kernel_rfl) (Eq.trans (tree_Name.goal k) (by kernel_rfl))⟩
theorem tree_Name.ok : SpecOK Go.Proofs.Try.prog (fun n => (noGl n).av) 17 (Ctr.fs (tree_Name.c, tree_Name.sg)) :=
  meets (l := tree_Name.env) all_nil tree_Name.chk (by
      intro ins outs h
      unfold tree_Name.c at h
      split at h
      · cases h; exact tree_Name.fit _
      · exact h.elim)
theorem tree_fields.fit (v_kind : Int) (v_bits : UInt64) (v_high : UInt64) (v_low : UInt64) (v_text : Str) (v_more : Str) (v_sub : Int) (v_bytes : List UInt8) (v_kids : List Fld) : ([.ag [.i .i64 v_kind, .u64 v_bits, .u64 v_high, .u64 v_low, .s v_text, .s v_more, .i .i64 v_sub, .sl .bs v_bytes, .sl .fl v_kids]] : List TV).length = tree_fields.d.np ∧ tree_fields.d.run (envL noGl tree_fields.env) [.ag [.i .i64 v_kind, .u64 v_bits, .u64 v_high, .u64 v_low, .s v_text, .s v_more, .i .i64 v_sub, .sl .bs v_bytes, .sl .fl v_kids]] = some (([(.b (Tree.fieldsOK (Val.mk v_kind v_bits v_high v_low v_text v_more v_sub v_bytes v_kids)))] : List TV) ++ tree_fields.d.ps.toList.map fun q => ([.ag [.i .i64 v_kind, .u64 v_bits, .u64 v_high, .u64 v_low, .s v_text, .s v_more, .i .i64 v_sub, .sl .bs v_bytes, .sl .fl v_kids]] : List TV).getD q.1 .dead) :=
  ⟨by kernel_rfl, Eq.trans (b := tree_fields.F (Val.mk v_kind v_bits v_high v_low v_text v_more v_sub v_bytes v_kids)) (by kernel_rfl) (Eq.trans (tree_fields.goal (Val.mk v_kind v_bits v_high v_low v_text v_more v_sub v_bytes v_kids)) (by kernel_rfl))⟩
theorem tree_fields.ok : SpecOK Go.Proofs.Try.prog (fun n => (noGl n).av) 31 (Ctr.fs (tree_fields.c, tree_fields.sg)) :=
  meets (l := tree_fields.env) all_nil tree_fields.chk (by
      intro ins outs h
      unfold tree_fields.c at h
      split at h
      · cases h; exact tree_fields.fit _ _ _ _ _ _ _ _ _
      · exact h.elim)
theorem tree_whole.fit (s : Str) (plain : Bool) (hp : (decide (s.length ≤ 1099511627776)) = true) : ([.s s, .b plain] : List TV).length = tree_whole.d.np ∧ tree_whole.d.run (envL noGl tree_whole.env) [.s s, .b plain] = some (([(.b (Tree.wholeT s plain))] : List TV) ++ tree_whole.d.ps.toList.map fun q => ([.s s, .b plain] : List TV).getD q.1 .dead) :=
  ⟨by kernel_rfl, Eq.trans (b := tree_whole.F s plain) (by kernel_rfl) (Eq.trans (tree_whole.goal s plain hp) (by kernel_rfl))⟩
theorem tree_whole.ok : SpecOK Go.Proofs.Try.prog (fun n => (noGl n).av) 32 (Ctr.fs (tree_whole.c, tree_whole.sg)) :=
  meets (l := tree_whole.env) (all_cons utf_Check.ok (all_cons st_Contains.ok all_nil)) tree_whole.chk (by
      intro ins outs h
      unfold tree_whole.c at h
      split at h
      · obtain ⟨hp, rfl⟩ := h; exact tree_whole.fit _ _ hp
      · exact h.elim)
theorem tree_check.fit (n : Nat) (v_kind : Int) (v_bits : UInt64) (v_high : UInt64) (v_low : UInt64) (v_text : Str) (v_more : Str) (v_sub : Int) (v_bytes : List UInt8) (v_kids : List Fld) (name : Str) (path : List Int) (hp : ((decide (Fld.bulk (Fld.of name (Val.mk v_kind v_bits v_high v_low v_text v_more v_sub v_bytes v_kids)) + path.length ≤ 1099511627776)) && decide ((Fld.bulk (Fld.of name (Val.mk v_kind v_bits v_high v_low v_text v_more v_sub v_bytes v_kids))) < n + 1)) = true) : ([.ag [.i .i64 v_kind, .u64 v_bits, .u64 v_high, .u64 v_low, .s v_text, .s v_more, .i .i64 v_sub, .sl .bs v_bytes, .sl .fl v_kids], .s name, .sl .is path] : List TV).length = tree_check.d.np ∧ tree_check.d.run (envL noGl (tree_check.env n)) [.ag [.i .i64 v_kind, .u64 v_bits, .u64 v_high, .u64 v_low, .s v_text, .s v_more, .i .i64 v_sub, .sl .bs v_bytes, .sl .fl v_kids], .s name, .sl .is path] = some (([(.sl .is ((Tree.chkF (Fld.of name (Val.mk v_kind v_bits v_high v_low v_text v_more v_sub v_bytes v_kids)) path).1)), (.i .i64 ((Tree.chkF (Fld.of name (Val.mk v_kind v_bits v_high v_low v_text v_more v_sub v_bytes v_kids)) path).2))] : List TV) ++ tree_check.d.ps.toList.map fun q => ([.ag [.i .i64 v_kind, .u64 v_bits, .u64 v_high, .u64 v_low, .s v_text, .s v_more, .i .i64 v_sub, .sl .bs v_bytes, .sl .fl v_kids], .s name, .sl .is path] : List TV).getD q.1 .dead) :=
  ⟨by kernel_rfl, Eq.trans (b := tree_check.F n (Val.mk v_kind v_bits v_high v_low v_text v_more v_sub v_bytes v_kids) name path) (by kernel_rfl) (Eq.trans (tree_check.goal n (Val.mk v_kind v_bits v_high v_low v_text v_more v_sub v_bytes v_kids) name path hp) (by kernel_rfl))⟩
theorem tcheck.oks : ∀ n : Nat, (SpecOK Go.Proofs.Try.prog (fun n => (noGl n).av) 23 (Ctr.fs (tree_check.cn n, tree_check.sg))) := by
  intro n
  induction n with
  | zero => exact spec_zero (by
      intro ti to_ h
      unfold tree_check.cn at h
      split at h
      · obtain ⟨h, _⟩ := h; simp at h
      · exact h.elim)
  | succ n ih =>
    have ih0 := ih
    exact meets (l := tree_check.env n) (all_cons tree_Name.ok (all_cons ih0 (all_cons clone_is.ok (all_cons tree_fields.ok (all_cons tree_whole.ok all_nil))))) (tree_check.chk n) (by
      intro ins outs h
      unfold tree_check.cn at h
      split at h
      · obtain ⟨hp, rfl⟩ := h; exact tree_check.fit n _ _ _ _ _ _ _ _ _ _ _ hp
      · exact h.elim)
theorem tree_check.ok : SpecOK Go.Proofs.Try.prog (fun n => (noGl n).av) 23 (Ctr.fs (tree_check.c, tree_check.sg)) := spec_sub fun ti to_ h => by
  unfold tree_check.c at h
  split at h
  · obtain ⟨hp, rfl⟩ := h; exact ⟨tree_check.cn (_ + 1), (tcheck.oks _), Bool.and_eq_true_iff.2 ⟨hp, decide_eq_true (Nat.lt_succ_self _)⟩, rfl⟩
  · exact h.elim
theorem tree_Check.fit (v_kind : Int) (v_bits : UInt64) (v_high : UInt64) (v_low : UInt64) (v_text : Str) (v_more : Str) (v_sub : Int) (v_bytes : List UInt8) (v_kids : List Fld) (hp : (decide (Fld.bulk (Fld.of [] (Val.mk v_kind v_bits v_high v_low v_text v_more v_sub v_bytes v_kids)) ≤ 1099511627776)) = true) : ([.ag [.i .i64 v_kind, .u64 v_bits, .u64 v_high, .u64 v_low, .s v_text, .s v_more, .i .i64 v_sub, .sl .bs v_bytes, .sl .fl v_kids]] : List TV).length = tree_Check.d.np ∧ tree_Check.d.run (envL noGl tree_Check.env) [.ag [.i .i64 v_kind, .u64 v_bits, .u64 v_high, .u64 v_low, .s v_text, .s v_more, .i .i64 v_sub, .sl .bs v_bytes, .sl .fl v_kids]] = some (([(.sl .is ((Tree.chkF (Fld.of [] (Val.mk v_kind v_bits v_high v_low v_text v_more v_sub v_bytes v_kids)) []).1)), (.i .i64 ((Tree.chkF (Fld.of [] (Val.mk v_kind v_bits v_high v_low v_text v_more v_sub v_bytes v_kids)) []).2))] : List TV) ++ tree_Check.d.ps.toList.map fun q => ([.ag [.i .i64 v_kind, .u64 v_bits, .u64 v_high, .u64 v_low, .s v_text, .s v_more, .i .i64 v_sub, .sl .bs v_bytes, .sl .fl v_kids]] : List TV).getD q.1 .dead) :=
  ⟨by kernel_rfl, Eq.trans (b := tree_Check.F (Val.mk v_kind v_bits v_high v_low v_text v_more v_sub v_bytes v_kids)) (by kernel_rfl) (Eq.trans (tree_Check.goal (Val.mk v_kind v_bits v_high v_low v_text v_more v_sub v_bytes v_kids) hp) (by kernel_rfl))⟩
theorem tree_Check.ok : SpecOK Go.Proofs.Try.prog (fun n => (noGl n).av) 9 (Ctr.fs (tree_Check.c, tree_Check.sg)) :=
  meets (l := tree_Check.env) (all_cons tree_check.ok all_nil) tree_Check.chk (by
      intro ins outs h
      unfold tree_Check.c at h
      split at h
      · obtain ⟨hp, rfl⟩ := h; exact tree_Check.fit _ _ _ _ _ _ _ _ _ hp
      · exact h.elim)
theorem tree_Kind.fit (s : Str) : ([.s s] : List TV).length = tree_Kind.d.np ∧ tree_Kind.d.run (envL noGl tree_Kind.env) [.s s] = some (([(.i .i64 ((Tree.kind s).1)), (.b ((Tree.kind s).2))] : List TV) ++ tree_Kind.d.ps.toList.map fun q => ([.s s] : List TV).getD q.1 .dead) :=
  ⟨by kernel_rfl, Eq.trans (b := tree_Kind.F s) (by kernel_rfl) (Eq.trans (tree_Kind.goal s) (by kernel_rfl))⟩
theorem tree_Kind.ok : SpecOK Go.Proofs.Try.prog (fun n => (noGl n).av) 15 (Ctr.fs (tree_Kind.c, tree_Kind.sg)) :=
  meets (l := tree_Kind.env) (all_cons tree_Name.ok all_nil) tree_Kind.chk (by
      intro ins outs h
      unfold tree_Kind.c at h
      split at h
      · cases h; exact tree_Kind.fit _
      · exact h.elim)
theorem by_Equal.fit (a : List UInt8) (b : List UInt8) : ([.sl .bs a, .sl .bs b] : List TV).length = by_Equal.d.np ∧ by_Equal.d.run (envL noGl by_Equal.env) [.sl .bs a, .sl .bs b] = some (([(.b (decide (a = b)))] : List TV) ++ by_Equal.d.ps.toList.map fun q => ([.sl .bs a, .sl .bs b] : List TV).getD q.1 .dead) :=
  ⟨by kernel_rfl, Eq.trans (b := by_Equal.F a b) (by kernel_rfl) (Eq.trans (by_Equal.goal a b) (by kernel_rfl))⟩
theorem by_Equal.ok : SpecOK Go.Proofs.Try.prog (fun n => (noGl n).av) 27 (Ctr.fs (by_Equal.c, by_Equal.sg)) :=
  meets (l := by_Equal.env) all_nil by_Equal.chk (by
      intro ins outs h
      unfold by_Equal.c at h
      split at h
      · cases h; exact by_Equal.fit _ _
      · exact h.elim)
theorem tree_Same.fit (n : Nat) (a_kind : Int) (a_bits : UInt64) (a_high : UInt64) (a_low : UInt64) (a_text : Str) (a_more : Str) (a_sub : Int) (a_bytes : List UInt8) (a_kids : List Fld) (b_kind : Int) (b_bits : UInt64) (b_high : UInt64) (b_low : UInt64) (b_text : Str) (b_more : Str) (b_sub : Int) (b_bytes : List UInt8) (b_kids : List Fld) (hp : ((decide (Fld.bulk (Fld.of [] (Val.mk a_kind a_bits a_high a_low a_text a_more a_sub a_bytes a_kids)) ≤ 1099511627776)) && decide ((Fld.bulk (Fld.of [] (Val.mk a_kind a_bits a_high a_low a_text a_more a_sub a_bytes a_kids))) < n + 1)) = true) : ([.ag [.i .i64 a_kind, .u64 a_bits, .u64 a_high, .u64 a_low, .s a_text, .s a_more, .i .i64 a_sub, .sl .bs a_bytes, .sl .fl a_kids], .ag [.i .i64 b_kind, .u64 b_bits, .u64 b_high, .u64 b_low, .s b_text, .s b_more, .i .i64 b_sub, .sl .bs b_bytes, .sl .fl b_kids]] : List TV).length = tree_Same.d.np ∧ tree_Same.d.run (envL noGl (tree_Same.env n)) [.ag [.i .i64 a_kind, .u64 a_bits, .u64 a_high, .u64 a_low, .s a_text, .s a_more, .i .i64 a_sub, .sl .bs a_bytes, .sl .fl a_kids], .ag [.i .i64 b_kind, .u64 b_bits, .u64 b_high, .u64 b_low, .s b_text, .s b_more, .i .i64 b_sub, .sl .bs b_bytes, .sl .fl b_kids]] = some (([(.b (Tree.same (Val.mk a_kind a_bits a_high a_low a_text a_more a_sub a_bytes a_kids) (Val.mk b_kind b_bits b_high b_low b_text b_more b_sub b_bytes b_kids)))] : List TV) ++ tree_Same.d.ps.toList.map fun q => ([.ag [.i .i64 a_kind, .u64 a_bits, .u64 a_high, .u64 a_low, .s a_text, .s a_more, .i .i64 a_sub, .sl .bs a_bytes, .sl .fl a_kids], .ag [.i .i64 b_kind, .u64 b_bits, .u64 b_high, .u64 b_low, .s b_text, .s b_more, .i .i64 b_sub, .sl .bs b_bytes, .sl .fl b_kids]] : List TV).getD q.1 .dead) :=
  ⟨by kernel_rfl, Eq.trans (b := tree_Same.F n (Val.mk a_kind a_bits a_high a_low a_text a_more a_sub a_bytes a_kids) (Val.mk b_kind b_bits b_high b_low b_text b_more b_sub b_bytes b_kids)) (by kernel_rfl) (Eq.trans (tree_Same.goal n (Val.mk a_kind a_bits a_high a_low a_text a_more a_sub a_bytes a_kids) (Val.mk b_kind b_bits b_high b_low b_text b_more b_sub b_bytes b_kids) hp) (by kernel_rfl))⟩
theorem tsame.oks : ∀ n : Nat, (SpecOK Go.Proofs.Try.prog (fun n => (noGl n).av) 19 (Ctr.fs (tree_Same.cn n, tree_Same.sg))) := by
  intro n
  induction n with
  | zero => exact spec_zero (by
      intro ti to_ h
      unfold tree_Same.cn at h
      split at h
      · obtain ⟨h, _⟩ := h; simp at h
      · exact h.elim)
  | succ n ih =>
    have ih0 := ih
    exact meets (l := tree_Same.env n) (all_cons ih0 (all_cons by_Equal.ok all_nil)) (tree_Same.chk n) (by
      intro ins outs h
      unfold tree_Same.cn at h
      split at h
      · obtain ⟨hp, rfl⟩ := h; exact tree_Same.fit n _ _ _ _ _ _ _ _ _ _ _ _ _ _ _ _ _ _ hp
      · exact h.elim)
theorem tree_Same.ok : SpecOK Go.Proofs.Try.prog (fun n => (noGl n).av) 19 (Ctr.fs (tree_Same.c, tree_Same.sg)) := spec_sub fun ti to_ h => by
  unfold tree_Same.c at h
  split at h
  · obtain ⟨hp, rfl⟩ := h; exact ⟨tree_Same.cn (_ + 1), (tsame.oks _), Bool.and_eq_true_iff.2 ⟨hp, decide_eq_true (Nat.lt_succ_self _)⟩, rfl⟩
  · exact h.elim
theorem tree_Depth.fit (n : Nat) (v_kind : Int) (v_bits : UInt64) (v_high : UInt64) (v_low : UInt64) (v_text : Str) (v_more : Str) (v_sub : Int) (v_bytes : List UInt8) (v_kids : List Fld) (hp : ((decide (Fld.bulk (Fld.of [] (Val.mk v_kind v_bits v_high v_low v_text v_more v_sub v_bytes v_kids)) ≤ 1099511627776)) && decide ((Fld.bulk (Fld.of [] (Val.mk v_kind v_bits v_high v_low v_text v_more v_sub v_bytes v_kids))) < n + 1)) = true) : ([.ag [.i .i64 v_kind, .u64 v_bits, .u64 v_high, .u64 v_low, .s v_text, .s v_more, .i .i64 v_sub, .sl .bs v_bytes, .sl .fl v_kids]] : List TV).length = tree_Depth.d.np ∧ tree_Depth.d.run (envL noGl (tree_Depth.env n)) [.ag [.i .i64 v_kind, .u64 v_bits, .u64 v_high, .u64 v_low, .s v_text, .s v_more, .i .i64 v_sub, .sl .bs v_bytes, .sl .fl v_kids]] = some (([(.i .i64 ((Tree.depth (Fld.of [] (Val.mk v_kind v_bits v_high v_low v_text v_more v_sub v_bytes v_kids)) : Int)))] : List TV) ++ tree_Depth.d.ps.toList.map fun q => ([.ag [.i .i64 v_kind, .u64 v_bits, .u64 v_high, .u64 v_low, .s v_text, .s v_more, .i .i64 v_sub, .sl .bs v_bytes, .sl .fl v_kids]] : List TV).getD q.1 .dead) :=
  ⟨by kernel_rfl, Eq.trans (b := tree_Depth.F n (Val.mk v_kind v_bits v_high v_low v_text v_more v_sub v_bytes v_kids)) (by kernel_rfl) (Eq.trans (tree_Depth.goal n (Val.mk v_kind v_bits v_high v_low v_text v_more v_sub v_bytes v_kids) hp) (by kernel_rfl))⟩
theorem tdepth.oks : ∀ n : Nat, (SpecOK Go.Proofs.Try.prog (fun n => (noGl n).av) 21 (Ctr.fs (tree_Depth.cn n, tree_Depth.sg))) := by
  intro n
  induction n with
  | zero => exact spec_zero (by
      intro ti to_ h
      unfold tree_Depth.cn at h
      split at h
      · obtain ⟨h, _⟩ := h; simp at h
      · exact h.elim)
  | succ n ih =>
    have ih0 := ih
    exact meets (l := tree_Depth.env n) (all_cons ih0 all_nil) (tree_Depth.chk n) (by
      intro ins outs h
      unfold tree_Depth.cn at h
      split at h
      · obtain ⟨hp, rfl⟩ := h; exact tree_Depth.fit n _ _ _ _ _ _ _ _ _ hp
      · exact h.elim)
theorem tree_Depth.ok : SpecOK Go.Proofs.Try.prog (fun n => (noGl n).av) 21 (Ctr.fs (tree_Depth.c, tree_Depth.sg)) := spec_sub fun ti to_ h => by
  unfold tree_Depth.c at h
  split at h
  · obtain ⟨hp, rfl⟩ := h; exact ⟨tree_Depth.cn (_ + 1), (tdepth.oks _), Bool.and_eq_true_iff.2 ⟨hp, decide_eq_true (Nat.lt_succ_self _)⟩, rfl⟩
  · exact h.elim
theorem ref17_kinds.fit : ([] : List TV).length = ref17_kinds.d.np ∧ ref17_kinds.d.run (envL noGl ref17_kinds.env) [] = some (([(.sl .is (Tree.kinds))] : List TV) ++ ref17_kinds.d.ps.toList.map fun q => ([] : List TV).getD q.1 .dead) :=
  ⟨by kernel_rfl, Eq.trans (b := ref17_kinds.F ) (by kernel_rfl) (Eq.trans (ref17_kinds.goal ) (by kernel_rfl))⟩
theorem ref17_kinds.ok : SpecOK Go.Proofs.Try.prog (fun n => (noGl n).av) 26 (Ctr.fs (ref17_kinds.c, ref17_kinds.sg)) :=
  meets (l := ref17_kinds.env) all_nil ref17_kinds.chk (by
      intro ins outs h
      unfold ref17_kinds.c at h
      split at h
      · cases h; exact ref17_kinds.fit
      · exact h.elim)
theorem ref17_Name.fit (k : Int) : ([.i .i64 k] : List TV).length = ref17_Name.d.np ∧ ref17_Name.d.run (envL noGl ref17_Name.env) [.i .i64 k] = some (([(.s (Tree.name k))] : List TV) ++ ref17_Name.d.ps.toList.map fun q => ([.i .i64 k] : List TV).getD q.1 .dead) :=
  ⟨by kernel_rfl, Eq.trans (b := ref17_Name.F k) (by kernel_rfl) (Eq.trans (ref17_Name.goal k) (by kernel_rfl))⟩
theorem ref17_Name.ok : SpecOK Go.Proofs.Try.prog (fun n => (noGl n).av) 18 (Ctr.fs (ref17_Name.c, ref17_Name.sg)) :=
  meets (l := ref17_Name.env) (all_cons ref17_kinds.ok all_nil) ref17_Name.chk (by
      intro ins outs h
      unfold ref17_Name.c at h
      split at h
      · cases h; exact ref17_Name.fit _
      · exact h.elim)
theorem ref17_Kind.fit (s : Str) : ([.s s] : List TV).length = ref17_Kind.d.np ∧ ref17_Kind.d.run (envL noGl ref17_Kind.env) [.s s] = some (([(.i .i64 ((Tree.kind s).1)), (.b ((Tree.kind s).2))] : List TV) ++ ref17_Kind.d.ps.toList.map fun q => ([.s s] : List TV).getD q.1 .dead) :=
  ⟨by kernel_rfl, Eq.trans (b := ref17_Kind.F s) (by kernel_rfl) (Eq.trans (ref17_Kind.goal s) (by kernel_rfl))⟩
theorem ref17_Kind.ok : SpecOK Go.Proofs.Try.prog (fun n => (noGl n).av) 16 (Ctr.fs (ref17_Kind.c, ref17_Kind.sg)) :=
  meets (l := ref17_Kind.env) (all_cons ref17_Name.ok (all_cons ref17_kinds.ok all_nil)) ref17_Kind.chk (by
      intro ins outs h
      unfold ref17_Kind.c at h
      split at h
      · cases h; exact ref17_Kind.fit _
      · exact h.elim)
theorem ref17_has.fit (k : Int) : ([.i .i64 k] : List TV).length = ref17_has.d.np ∧ ref17_has.d.run (envL noGl ref17_has.env) [.i .i64 k] = some (([(.b (Tree.hasN 0 k)), (.b (Tree.hasN 1 k)), (.b (Tree.hasN 2 k)), (.b (Tree.hasN 3 k)), (.b (Tree.hasN 4 k)), (.b (Tree.hasN 5 k)), (.b (Tree.hasN 6 k))] : List TV) ++ ref17_has.d.ps.toList.map fun q => ([.i .i64 k] : List TV).getD q.1 .dead) :=
  ⟨by kernel_rfl, Eq.trans (b := ref17_has.F k) (by kernel_rfl) (Eq.trans (ref17_has.goal k) (by kernel_rfl))⟩
theorem ref17_has.ok : SpecOK Go.Proofs.Try.prog (fun n => (noGl n).av) 38 (Ctr.fs (ref17_has.c, ref17_has.sg)) :=
  meets (l := ref17_has.env) all_nil ref17_has.chk (by
      intro ins outs h
      unfold ref17_has.c at h
      split at h
      · cases h; exact ref17_has.fit _
      · exact h.elim)
theorem ref17_own.fit (v_kind : Int) (v_bits : UInt64) (v_high : UInt64) (v_low : UInt64) (v_text : Str) (v_more : Str) (v_sub : Int) (v_bytes : List UInt8) (v_kids : List Fld) (hp : (decide (Fld.bulk (Fld.of [] (Val.mk v_kind v_bits v_high v_low v_text v_more v_sub v_bytes v_kids)) ≤ 1099511627776)) = true) : ([.ag [.i .i64 v_kind, .u64 v_bits, .u64 v_high, .u64 v_low, .s v_text, .s v_more, .i .i64 v_sub, .sl .bs v_bytes, .sl .fl v_kids]] : List TV).length = ref17_own.d.np ∧ ref17_own.d.run (envL noGl ref17_own.env) [.ag [.i .i64 v_kind, .u64 v_bits, .u64 v_high, .u64 v_low, .s v_text, .s v_more, .i .i64 v_sub, .sl .bs v_bytes, .sl .fl v_kids]] = some (([(.i .i64 (Tree.own (Val.mk v_kind v_bits v_high v_low v_text v_more v_sub v_bytes v_kids)))] : List TV) ++ ref17_own.d.ps.toList.map fun q => ([.ag [.i .i64 v_kind, .u64 v_bits, .u64 v_high, .u64 v_low, .s v_text, .s v_more, .i .i64 v_sub, .sl .bs v_bytes, .sl .fl v_kids]] : List TV).getD q.1 .dead) :=
  ⟨by kernel_rfl, Eq.trans (b := ref17_own.F (Val.mk v_kind v_bits v_high v_low v_text v_more v_sub v_bytes v_kids)) (by kernel_rfl) (Eq.trans (ref17_own.goal (Val.mk v_kind v_bits v_high v_low v_text v_more v_sub v_bytes v_kids) hp) (by kernel_rfl))⟩
theorem ref17_own.ok : SpecOK Go.Proofs.Try.prog (fun n => (noGl n).av) 33 (Ctr.fs (ref17_own.c, ref17_own.sg)) :=
  meets (l := ref17_own.env) (all_cons ref17_Name.ok (all_cons ref17_has.ok (all_cons ref2_Whole.ok (all_cons ref2_Zero.ok all_nil)))) ref17_own.chk (by
      intro ins outs h
      unfold ref17_own.c at h
      split at h
      · obtain ⟨hp, rfl⟩ := h; exact ref17_own.fit _ _ _ _ _ _ _ _ _ hp
      · exact h.elim)
theorem ref17_Named.fit (s : Str) (hp : (decide (s.length ≤ 1099511627776)) = true) : ([.s s] : List TV).length = ref17_Named.d.np ∧ ref17_Named.d.run (envL noGl ref17_Named.env) [.s s] = some (([(.b (Tree.wholeT s true))] : List TV) ++ ref17_Named.d.ps.toList.map fun q => ([.s s] : List TV).getD q.1 .dead) :=
  ⟨by kernel_rfl, Eq.trans (b := ref17_Named.F s) (by kernel_rfl) (Eq.trans (ref17_Named.goal s hp) (by kernel_rfl))⟩
theorem ref17_Named.ok : SpecOK Go.Proofs.Try.prog (fun n => (noGl n).av) 34 (Ctr.fs (ref17_Named.c, ref17_Named.sg)) :=
  meets (l := ref17_Named.env) (all_cons ref2_Whole.ok (all_cons ref2_Zero.ok all_nil)) ref17_Named.chk (by
      intro ins outs h
      unfold ref17_Named.c at h
      split at h
      · obtain ⟨hp, rfl⟩ := h; exact ref17_Named.fit _ hp
      · exact h.elim)
theorem ref17_longer.fit (p : List Int) (k : Int) (hp : (decide (p.length ≤ 1099511627776)) = true) : ([.sl .is p, .i .i64 k] : List TV).length = ref17_longer.d.np ∧ ref17_longer.d.run (envL noGl ref17_longer.env) [.sl .is p, .i .i64 k] = some (([(.sl .is ((p ++ [k])))] : List TV) ++ ref17_longer.d.ps.toList.map fun q => ([.sl .is p, .i .i64 k] : List TV).getD q.1 .dead) :=
  ⟨by kernel_rfl, Eq.trans (b := ref17_longer.F p k) (by kernel_rfl) (Eq.trans (ref17_longer.goal p k hp) (by kernel_rfl))⟩
theorem ref17_longer.ok : SpecOK Go.Proofs.Try.prog (fun n => (noGl n).av) 35 (Ctr.fs (ref17_longer.c, ref17_longer.sg)) :=
  meets (l := ref17_longer.env) all_nil ref17_longer.chk (by
      intro ins outs h
      unfold ref17_longer.c at h
      split at h
      · obtain ⟨hp, rfl⟩ := h; exact ref17_longer.fit _ _ hp
      · exact h.elim)
theorem ref17_check.fit (n : Nat) (v_kind : Int) (v_bits : UInt64) (v_high : UInt64) (v_low : UInt64) (v_text : Str) (v_more : Str) (v_sub : Int) (v_bytes : List UInt8) (v_kids : List Fld) (name : Str) (p : List Int) (hp : ((decide (Fld.bulk (Fld.of name (Val.mk v_kind v_bits v_high v_low v_text v_more v_sub v_bytes v_kids)) + p.length ≤ 1099511627776)) && decide ((Fld.bulk (Fld.of name (Val.mk v_kind v_bits v_high v_low v_text v_more v_sub v_bytes v_kids))) < n + 1)) = true) : ([.ag [.i .i64 v_kind, .u64 v_bits, .u64 v_high, .u64 v_low, .s v_text, .s v_more, .i .i64 v_sub, .sl .bs v_bytes, .sl .fl v_kids], .s name, .sl .is p] : List TV).length = ref17_check.d.np ∧ ref17_check.d.run (envL noGl (ref17_check.env n)) [.ag [.i .i64 v_kind, .u64 v_bits, .u64 v_high, .u64 v_low, .s v_text, .s v_more, .i .i64 v_sub, .sl .bs v_bytes, .sl .fl v_kids], .s name, .sl .is p] = some (([(.sl .is ((Tree.chkF (Fld.of name (Val.mk v_kind v_bits v_high v_low v_text v_more v_sub v_bytes v_kids)) p).1)), (.i .i64 ((Tree.chkF (Fld.of name (Val.mk v_kind v_bits v_high v_low v_text v_more v_sub v_bytes v_kids)) p).2))] : List TV) ++ ref17_check.d.ps.toList.map fun q => ([.ag [.i .i64 v_kind, .u64 v_bits, .u64 v_high, .u64 v_low, .s v_text, .s v_more, .i .i64 v_sub, .sl .bs v_bytes, .sl .fl v_kids], .s name, .sl .is p] : List TV).getD q.1 .dead) :=
  ⟨by kernel_rfl, Eq.trans (b := ref17_check.F n (Val.mk v_kind v_bits v_high v_low v_text v_more v_sub v_bytes v_kids) name p) (by kernel_rfl) (Eq.trans (ref17_check.goal n (Val.mk v_kind v_bits v_high v_low v_text v_more v_sub v_bytes v_kids) name p hp) (by kernel_rfl))⟩
theorem rcheck.oks : ∀ n : Nat, (SpecOK Go.Proofs.Try.prog (fun n => (noGl n).av) 24 (Ctr.fs (ref17_check.cn n, ref17_check.sg))) := by
  intro n
  induction n with
  | zero => exact spec_zero (by
      intro ti to_ h
      unfold ref17_check.cn at h
      split at h
      · obtain ⟨h, _⟩ := h; simp at h
      · exact h.elim)
  | succ n ih =>
    have ih0 := ih
    exact meets (l := ref17_check.env n) (all_cons ih0 (all_cons ref17_own.ok (all_cons ref17_Named.ok (all_cons ref17_longer.ok all_nil)))) (ref17_check.chk n) (by
      intro ins outs h
      unfold ref17_check.cn at h
      split at h
      · obtain ⟨hp, rfl⟩ := h; exact ref17_check.fit n _ _ _ _ _ _ _ _ _ _ _ hp
      · exact h.elim)
theorem ref17_check.ok : SpecOK Go.Proofs.Try.prog (fun n => (noGl n).av) 24 (Ctr.fs (ref17_check.c, ref17_check.sg)) := spec_sub fun ti to_ h => by
  unfold ref17_check.c at h
  split at h
  · obtain ⟨hp, rfl⟩ := h; exact ⟨ref17_check.cn (_ + 1), (rcheck.oks _), Bool.and_eq_true_iff.2 ⟨hp, decide_eq_true (Nat.lt_succ_self _)⟩, rfl⟩
  · exact h.elim
theorem ref17_Check.fit (v_kind : Int) (v_bits : UInt64) (v_high : UInt64) (v_low : UInt64) (v_text : Str) (v_more : Str) (v_sub : Int) (v_bytes : List UInt8) (v_kids : List Fld) (hp : (decide (Fld.bulk (Fld.of [] (Val.mk v_kind v_bits v_high v_low v_text v_more v_sub v_bytes v_kids)) ≤ 1099511627776)) = true) : ([.ag [.i .i64 v_kind, .u64 v_bits, .u64 v_high, .u64 v_low, .s v_text, .s v_more, .i .i64 v_sub, .sl .bs v_bytes, .sl .fl v_kids]] : List TV).length = ref17_Check.d.np ∧ ref17_Check.d.run (envL noGl ref17_Check.env) [.ag [.i .i64 v_kind, .u64 v_bits, .u64 v_high, .u64 v_low, .s v_text, .s v_more, .i .i64 v_sub, .sl .bs v_bytes, .sl .fl v_kids]] = some (([(.sl .is ((Tree.chkF (Fld.of [] (Val.mk v_kind v_bits v_high v_low v_text v_more v_sub v_bytes v_kids)) []).1)), (.i .i64 ((Tree.chkF (Fld.of [] (Val.mk v_kind v_bits v_high v_low v_text v_more v_sub v_bytes v_kids)) []).2))] : List TV) ++ ref17_Check.d.ps.toList.map fun q => ([.ag [.i .i64 v_kind, .u64 v_bits, .u64 v_high, .u64 v_low, .s v_text, .s v_more, .i .i64 v_sub, .sl .bs v_bytes, .sl .fl v_kids]] : List TV).getD q.1 .dead) :=
  ⟨by kernel_rfl, Eq.trans (b := ref17_Check.F (Val.mk v_kind v_bits v_high v_low v_text v_more v_sub v_bytes v_kids)) (by kernel_rfl) (Eq.trans (ref17_Check.goal (Val.mk v_kind v_bits v_high v_low v_text v_more v_sub v_bytes v_kids) hp) (by kernel_rfl))⟩
theorem ref17_Check.ok : SpecOK Go.Proofs.Try.prog (fun n => (noGl n).av) 10 (Ctr.fs (ref17_Check.c, ref17_Check.sg)) :=
  meets (l := ref17_Check.env) (all_cons ref17_check.ok all_nil) ref17_Check.chk (by
      intro ins outs h
      unfold ref17_Check.c at h
      split at h
      · obtain ⟨hp, rfl⟩ := h; exact ref17_Check.fit _ _ _ _ _ _ _ _ _ hp
      · exact h.elim)
theorem ref17_Own.fit (a_kind : Int) (a_bits : UInt64) (a_high : UInt64) (a_low : UInt64) (a_text : Str) (a_more : Str) (a_sub : Int) (a_bytes : List UInt8) (a_kids : List Fld) (b_kind : Int) (b_bits : UInt64) (b_high : UInt64) (b_low : UInt64) (b_text : Str) (b_more : Str) (b_sub : Int) (b_bytes : List UInt8) (b_kids : List Fld) : ([.ag [.i .i64 a_kind, .u64 a_bits, .u64 a_high, .u64 a_low, .s a_text, .s a_more, .i .i64 a_sub, .sl .bs a_bytes, .sl .fl a_kids], .ag [.i .i64 b_kind, .u64 b_bits, .u64 b_high, .u64 b_low, .s b_text, .s b_more, .i .i64 b_sub, .sl .bs b_bytes, .sl .fl b_kids]] : List TV).length = ref17_Own.d.np ∧ ref17_Own.d.run (envL noGl ref17_Own.env) [.ag [.i .i64 a_kind, .u64 a_bits, .u64 a_high, .u64 a_low, .s a_text, .s a_more, .i .i64 a_sub, .sl .bs a_bytes, .sl .fl a_kids], .ag [.i .i64 b_kind, .u64 b_bits, .u64 b_high, .u64 b_low, .s b_text, .s b_more, .i .i64 b_sub, .sl .bs b_bytes, .sl .fl b_kids]] = some (([(.b (Tree.ownSame (Val.mk a_kind a_bits a_high a_low a_text a_more a_sub a_bytes a_kids) (Val.mk b_kind b_bits b_high b_low b_text b_more b_sub b_bytes b_kids)))] : List TV) ++ ref17_Own.d.ps.toList.map fun q => ([.ag [.i .i64 a_kind, .u64 a_bits, .u64 a_high, .u64 a_low, .s a_text, .s a_more, .i .i64 a_sub, .sl .bs a_bytes, .sl .fl a_kids], .ag [.i .i64 b_kind, .u64 b_bits, .u64 b_high, .u64 b_low, .s b_text, .s b_more, .i .i64 b_sub, .sl .bs b_bytes, .sl .fl b_kids]] : List TV).getD q.1 .dead) :=
  ⟨by kernel_rfl, Eq.trans (b := ref17_Own.F (Val.mk a_kind a_bits a_high a_low a_text a_more a_sub a_bytes a_kids) (Val.mk b_kind b_bits b_high b_low b_text b_more b_sub b_bytes b_kids)) (by kernel_rfl) (Eq.trans (ref17_Own.goal (Val.mk a_kind a_bits a_high a_low a_text a_more a_sub a_bytes a_kids) (Val.mk b_kind b_bits b_high b_low b_text b_more b_sub b_bytes b_kids)) (by kernel_rfl))⟩
theorem ref17_Own.ok : SpecOK Go.Proofs.Try.prog (fun n => (noGl n).av) 28 (Ctr.fs (ref17_Own.c, ref17_Own.sg)) :=
  meets (l := ref17_Own.env) all_nil ref17_Own.chk (by
      intro ins outs h
      unfold ref17_Own.c at h
      split at h
      · cases h; exact ref17_Own.fit _ _ _ _ _ _ _ _ _ _ _ _ _ _ _ _ _ _
      · exact h.elim)
theorem ref17_Same.fit (n : Nat) (a_kind : Int) (a_bits : UInt64) (a_high : UInt64) (a_low : UInt64) (a_text : Str) (a_more : Str) (a_sub : Int) (a_bytes : List UInt8) (a_kids : List Fld) (b_kind : Int) (b_bits : UInt64) (b_high : UInt64) (b_low : UInt64) (b_text : Str) (b_more : Str) (b_sub : Int) (b_bytes : List UInt8) (b_kids : List Fld) (hp : ((decide (Fld.bulk (Fld.of [] (Val.mk a_kind a_bits a_high a_low a_text a_more a_sub a_bytes a_kids)) ≤ 1099511627776)) && decide ((Fld.bulk (Fld.of [] (Val.mk a_kind a_bits a_high a_low a_text a_more a_sub a_bytes a_kids))) < n + 1)) = true) : ([.ag [.i .i64 a_kind, .u64 a_bits, .u64 a_high, .u64 a_low, .s a_text, .s a_more, .i .i64 a_sub, .sl .bs a_bytes, .sl .fl a_kids], .ag [.i .i64 b_kind, .u64 b_bits, .u64 b_high, .u64 b_low, .s b_text, .s b_more, .i .i64 b_sub, .sl .bs b_bytes, .sl .fl b_kids]] : List TV).length = ref17_Same.d.np ∧ ref17_Same.d.run (envL noGl (ref17_Same.env n)) [.ag [.i .i64 a_kind, .u64 a_bits, .u64 a_high, .u64 a_low, .s a_text, .s a_more, .i .i64 a_sub, .sl .bs a_bytes, .sl .fl a_kids], .ag [.i .i64 b_kind, .u64 b_bits, .u64 b_high, .u64 b_low, .s b_text, .s b_more, .i .i64 b_sub, .sl .bs b_bytes, .sl .fl b_kids]] = some (([(.b (Tree.same (Val.mk a_kind a_bits a_high a_low a_text a_more a_sub a_bytes a_kids) (Val.mk b_kind b_bits b_high b_low b_text b_more b_sub b_bytes b_kids)))] : List TV) ++ ref17_Same.d.ps.toList.map fun q => ([.ag [.i .i64 a_kind, .u64 a_bits, .u64 a_high, .u64 a_low, .s a_text, .s a_more, .i .i64 a_sub, .sl .bs a_bytes, .sl .fl a_kids], .ag [.i .i64 b_kind, .u64 b_bits, .u64 b_high, .u64 b_low, .s b_text, .s b_more, .i .i64 b_sub, .sl .bs b_bytes, .sl .fl b_kids]] : List TV).getD q.1 .dead) :=
  ⟨by kernel_rfl, Eq.trans (b := ref17_Same.F n (Val.mk a_kind a_bits a_high a_low a_text a_more a_sub a_bytes a_kids) (Val.mk b_kind b_bits b_high b_low b_text b_more b_sub b_bytes b_kids)) (by kernel_rfl) (Eq.trans (ref17_Same.goal n (Val.mk a_kind a_bits a_high a_low a_text a_more a_sub a_bytes a_kids) (Val.mk b_kind b_bits b_high b_low b_text b_more b_sub b_bytes b_kids) hp) (by kernel_rfl))⟩
theorem rsame.oks : ∀ n : Nat, (SpecOK Go.Proofs.Try.prog (fun n => (noGl n).av) 20 (Ctr.fs (ref17_Same.cn n, ref17_Same.sg))) := by
  intro n
  induction n with
  | zero => exact spec_zero (by
      intro ti to_ h
      unfold ref17_Same.cn at h
      split at h
      · obtain ⟨h, _⟩ := h; simp at h
      · exact h.elim)
  | succ n ih =>
    have ih0 := ih
    exact meets (l := ref17_Same.env n) (all_cons ih0 (all_cons ref17_Own.ok all_nil)) (ref17_Same.chk n) (by
      intro ins outs h
      unfold ref17_Same.cn at h
      split at h
      · obtain ⟨hp, rfl⟩ := h; exact ref17_Same.fit n _ _ _ _ _ _ _ _ _ _ _ _ _ _ _ _ _ _ hp
      · exact h.elim)
theorem ref17_Same.ok : SpecOK Go.Proofs.Try.prog (fun n => (noGl n).av) 20 (Ctr.fs (ref17_Same.c, ref17_Same.sg)) := spec_sub fun ti to_ h => by
  unfold ref17_Same.c at h
  split at h
  · obtain ⟨hp, rfl⟩ := h; exact ⟨ref17_Same.cn (_ + 1), (rsame.oks _), Bool.and_eq_true_iff.2 ⟨hp, decide_eq_true (Nat.lt_succ_self _)⟩, rfl⟩
  · exact h.elim
theorem ref1_SameInts.fit (a : List Int) (b : List Int) (hp : (decide (a.length ≤ 1099511627776)) = true) : ([.sl .is a, .sl .is b] : List TV).length = ref1_SameInts.d.np ∧ ref1_SameInts.d.run (envL noGl ref1_SameInts.env) [.sl .is a, .sl .is b] = some (([(.b (decide (a = b)))] : List TV) ++ ref1_SameInts.d.ps.toList.map fun q => ([.sl .is a, .sl .is b] : List TV).getD q.1 .dead) :=
  ⟨by kernel_rfl, Eq.trans (b := ref1_SameInts.F a b) (by kernel_rfl) (Eq.trans (ref1_SameInts.goal a b hp) (by kernel_rfl))⟩
theorem ref1_SameInts.ok : SpecOK Go.Proofs.Try.prog (fun n => (noGl n).av) 11 (Ctr.fs (ref1_SameInts.c, ref1_SameInts.sg)) :=
  meets (l := ref1_SameInts.env) all_nil ref1_SameInts.chk (by
      intro ins outs h
      unfold ref1_SameInts.c at h
      split at h
      · obtain ⟨hp, rfl⟩ := h; exact ref1_SameInts.fit _ _ hp
      · exact h.elim)
theorem book_Room.fit (left : Int) (sizes : List Int) (hp : (decide (left ≤ 1200 ∧ sizes.length ≤ 10) && sizes.all (fun s => decide (0 ≤ s))) = true) : ([.i .i64 left, .sl .is sizes] : List TV).length = book_Room.d.np ∧ book_Room.d.run (envL noGl book_Room.env) [.i .i64 left, .sl .is sizes] = some (([(.i .i64 (Book.room left sizes))] : List TV) ++ book_Room.d.ps.toList.map fun q => ([.i .i64 left, .sl .is sizes] : List TV).getD q.1 .dead) :=
  ⟨by kernel_rfl, Eq.trans (b := book_Room.F left sizes) (by kernel_rfl) (Eq.trans (book_Room.goal left sizes hp) (by kernel_rfl))⟩
theorem book_Room.ok : SpecOK Go.Proofs.Try.prog (fun n => (noGl n).av) 29 (Ctr.fs (book_Room.c, book_Room.sg)) :=
  meets (l := book_Room.env) all_nil book_Room.chk (by
      intro ins outs h
      unfold book_Room.c at h
      split at h
      · obtain ⟨hp, rfl⟩ := h; exact book_Room.fit _ _ hp
      · exact h.elim)
theorem book_Value.fit (n : Nat) (left : Int) (v_kind : Int) (v_bits : UInt64) (v_high : UInt64) (v_low : UInt64) (v_text : Str) (v_more : Str) (v_sub : Int) (v_bytes : List UInt8) (v_kids : List Fld) (hp : ((decide (left ≤ 1200)) && decide ((Fld.bulk (Fld.of [] (Val.mk v_kind v_bits v_high v_low v_text v_more v_sub v_bytes v_kids))) < n + 1)) = true) : ([.i .i64 left, .ag [.i .i64 v_kind, .u64 v_bits, .u64 v_high, .u64 v_low, .s v_text, .s v_more, .i .i64 v_sub, .sl .bs v_bytes, .sl .fl v_kids]] : List TV).length = book_Value.d.np ∧ book_Value.d.run (envL noGl (book_Value.env n)) [.i .i64 left, .ag [.i .i64 v_kind, .u64 v_bits, .u64 v_high, .u64 v_low, .s v_text, .s v_more, .i .i64 v_sub, .sl .bs v_bytes, .sl .fl v_kids]] = some (([(.i .i64 (Book.value left (Fld.of [] (Val.mk v_kind v_bits v_high v_low v_text v_more v_sub v_bytes v_kids))))] : List TV) ++ book_Value.d.ps.toList.map fun q => ([.i .i64 left, .ag [.i .i64 v_kind, .u64 v_bits, .u64 v_high, .u64 v_low, .s v_text, .s v_more, .i .i64 v_sub, .sl .bs v_bytes, .sl .fl v_kids]] : List TV).getD q.1 .dead) :=
  ⟨by kernel_rfl, Eq.trans (b := book_Value.F n left (Val.mk v_kind v_bits v_high v_low v_text v_more v_sub v_bytes v_kids)) (by kernel_rfl) (Eq.trans (book_Value.goal n left (Val.mk v_kind v_bits v_high v_low v_text v_more v_sub v_bytes v_kids) hp) (by kernel_rfl))⟩
theorem bvalue.oks : ∀ n : Nat, (SpecOK Go.Proofs.Try.prog (fun n => (noGl n).av) 22 (Ctr.fs (book_Value.cn n, book_Value.sg))) := by
  intro n
  induction n with
  | zero => exact spec_zero (by
      intro ti to_ h
      unfold book_Value.cn at h
      split at h
      · obtain ⟨h, _⟩ := h; simp at h
      · exact h.elim)
  | succ n ih =>
    have ih0 := ih
    exact meets (l := book_Value.env n) (all_cons ih0 (all_cons book_Room.ok all_nil)) (book_Value.chk n) (by
      intro ins outs h
      unfold book_Value.cn at h
      split at h
      · obtain ⟨hp, rfl⟩ := h; exact book_Value.fit n _ _ _ _ _ _ _ _ _ _ hp
      · exact h.elim)
theorem book_Value.ok : SpecOK Go.Proofs.Try.prog (fun n => (noGl n).av) 22 (Ctr.fs (book_Value.c, book_Value.sg)) := spec_sub fun ti to_ h => by
  unfold book_Value.c at h
  split at h
  · obtain ⟨hp, rfl⟩ := h; exact ⟨book_Value.cn (_ + 1), (bvalue.oks _), Bool.and_eq_true_iff.2 ⟨hp, decide_eq_true (Nat.lt_succ_self _)⟩, rfl⟩
  · exact h.elim
theorem book_Small.fit (v_kind : Int) (v_bits : UInt64) (v_high : UInt64) (v_low : UInt64) (v_text : Str) (v_more : Str) (v_sub : Int) (v_bytes : List UInt8) (v_kids : List Fld) : ([.ag [.i .i64 v_kind, .u64 v_bits, .u64 v_high, .u64 v_low, .s v_text, .s v_more, .i .i64 v_sub, .sl .bs v_bytes, .sl .fl v_kids]] : List TV).length = book_Small.d.np ∧ book_Small.d.run (envL noGl book_Small.env) [.ag [.i .i64 v_kind, .u64 v_bits, .u64 v_high, .u64 v_low, .s v_text, .s v_more, .i .i64 v_sub, .sl .bs v_bytes, .sl .fl v_kids]] = some (([(.b (decide (0 ≤ Book.value 1200 (Fld.of [] (Val.mk v_kind v_bits v_high v_low v_text v_more v_sub v_bytes v_kids)))))] : List TV) ++ book_Small.d.ps.toList.map fun q => ([.ag [.i .i64 v_kind, .u64 v_bits, .u64 v_high, .u64 v_low, .s v_text, .s v_more, .i .i64 v_sub, .sl .bs v_bytes, .sl .fl v_kids]] : List TV).getD q.1 .dead) :=
  ⟨by kernel_rfl, Eq.trans (b := book_Small.F (Val.mk v_kind v_bits v_high v_low v_text v_more v_sub v_bytes v_kids)) (by kernel_rfl) (Eq.trans (book_Small.goal (Val.mk v_kind v_bits v_high v_low v_text v_more v_sub v_bytes v_kids)) (by kernel_rfl))⟩
theorem book_Small.ok : SpecOK Go.Proofs.Try.prog (fun n => (noGl n).av) 8 (Ctr.fs (book_Small.c, book_Small.sg)) :=
  meets (l := book_Small.env) (all_cons book_Value.ok all_nil) book_Small.chk (by
      intro ins outs h
      unfold book_Small.c at h
      split at h
      · cases h; exact book_Small.fit _ _ _ _ _ _ _ _ _
      · exact h.elim)
theorem law17_awake.fit : ([] : List TV).length = law17_awake.d.np ∧ law17_awake.d.run (envL noGl law17_awake.env) [] = some (([(.b (true))] : List TV) ++ law17_awake.d.ps.toList.map fun q => ([] : List TV).getD q.1 .dead) :=
  ⟨by kernel_rfl, Eq.trans (b := law17_awake.F ) (by kernel_rfl) (Eq.trans (law17_awake.goal ) (by kernel_rfl))⟩
theorem law17_awake.ok : SpecOK Go.Proofs.Try.prog (fun n => (noGl n).av) 7 (Ctr.fs (law17_awake.c, law17_awake.sg)) :=
  meets (l := law17_awake.env) (all_cons tree_Check.ok (all_cons ref1_SameInts.ok (all_cons tree_Depth.ok all_nil))) law17_awake.chk (by
      intro ins outs h
      unfold law17_awake.c at h
      split at h
      · cases h; exact law17_awake.fit
      · exact h.elim)
theorem TreeChecks.fit (v_kind : Int) (v_bits : UInt64) (v_high : UInt64) (v_low : UInt64) (v_text : Str) (v_more : Str) (v_sub : Int) (v_bytes : List UInt8) (v_kids : List Fld) : ([.ag [.i .i64 v_kind, .u64 v_bits, .u64 v_high, .u64 v_low, .s v_text, .s v_more, .i .i64 v_sub, .sl .bs v_bytes, .sl .fl v_kids]] : List TV).length = TreeChecks.d.np ∧ TreeChecks.d.run (envL noGl TreeChecks.env) [.ag [.i .i64 v_kind, .u64 v_bits, .u64 v_high, .u64 v_low, .s v_text, .s v_more, .i .i64 v_sub, .sl .bs v_bytes, .sl .fl v_kids]] = some (([(.b (true))] : List TV) ++ TreeChecks.d.ps.toList.map fun q => ([.ag [.i .i64 v_kind, .u64 v_bits, .u64 v_high, .u64 v_low, .s v_text, .s v_more, .i .i64 v_sub, .sl .bs v_bytes, .sl .fl v_kids]] : List TV).getD q.1 .dead) :=
  ⟨by kernel_rfl, Eq.trans (b := TreeChecks.F (Val.mk v_kind v_bits v_high v_low v_text v_more v_sub v_bytes v_kids)) (by kernel_rfl) (Eq.trans (TreeChecks.goal (Val.mk v_kind v_bits v_high v_low v_text v_more v_sub v_bytes v_kids)) (by kernel_rfl))⟩
theorem TreeChecks.ok : SpecOK Go.Proofs.Try.prog (fun n => (noGl n).av) 3 (Ctr.fs (TreeChecks.c, TreeChecks.sg)) :=
  meets (l := TreeChecks.env) (all_cons law17_awake.ok (all_cons book_Small.ok (all_cons tree_Check.ok (all_cons ref17_Check.ok (all_cons ref1_SameInts.ok all_nil))))) TreeChecks.chk (by
      intro ins outs h
      unfold TreeChecks.c at h
      split at h
      · cases h; exact TreeChecks.fit _ _ _ _ _ _ _ _ _
      · exact h.elim)
theorem TreeNames.fit (k : Int) (s : Str) : ([.i .i64 k, .s s] : List TV).length = TreeNames.d.np ∧ TreeNames.d.run (envL noGl TreeNames.env) [.i .i64 k, .s s] = some (([(.b (true))] : List TV) ++ TreeNames.d.ps.toList.map fun q => ([.i .i64 k, .s s] : List TV).getD q.1 .dead) :=
  ⟨by kernel_rfl, Eq.trans (b := TreeNames.F k s) (by kernel_rfl) (Eq.trans (TreeNames.goal k s) (by kernel_rfl))⟩
theorem TreeNames.ok : SpecOK Go.Proofs.Try.prog (fun n => (noGl n).av) 5 (Ctr.fs (TreeNames.c, TreeNames.sg)) :=
  meets (l := TreeNames.env) (all_cons law17_awake.ok (all_cons tree_Kind.ok (all_cons ref17_Kind.ok (all_cons tree_Name.ok (all_cons ref17_Name.ok all_nil))))) TreeNames.chk (by
      intro ins outs h
      unfold TreeNames.c at h
      split at h
      · cases h; exact TreeNames.fit _ _
      · exact h.elim)
theorem TreeSames.fit (a_kind : Int) (a_bits : UInt64) (a_high : UInt64) (a_low : UInt64) (a_text : Str) (a_more : Str) (a_sub : Int) (a_bytes : List UInt8) (a_kids : List Fld) (b_kind : Int) (b_bits : UInt64) (b_high : UInt64) (b_low : UInt64) (b_text : Str) (b_more : Str) (b_sub : Int) (b_bytes : List UInt8) (b_kids : List Fld) : ([.ag [.i .i64 a_kind, .u64 a_bits, .u64 a_high, .u64 a_low, .s a_text, .s a_more, .i .i64 a_sub, .sl .bs a_bytes, .sl .fl a_kids], .ag [.i .i64 b_kind, .u64 b_bits, .u64 b_high, .u64 b_low, .s b_text, .s b_more, .i .i64 b_sub, .sl .bs b_bytes, .sl .fl b_kids]] : List TV).length = TreeSames.d.np ∧ TreeSames.d.run (envL noGl TreeSames.env) [.ag [.i .i64 a_kind, .u64 a_bits, .u64 a_high, .u64 a_low, .s a_text, .s a_more, .i .i64 a_sub, .sl .bs a_bytes, .sl .fl a_kids], .ag [.i .i64 b_kind, .u64 b_bits, .u64 b_high, .u64 b_low, .s b_text, .s b_more, .i .i64 b_sub, .sl .bs b_bytes, .sl .fl b_kids]] = some (([(.b (true))] : List TV) ++ TreeSames.d.ps.toList.map fun q => ([.ag [.i .i64 a_kind, .u64 a_bits, .u64 a_high, .u64 a_low, .s a_text, .s a_more, .i .i64 a_sub, .sl .bs a_bytes, .sl .fl a_kids], .ag [.i .i64 b_kind, .u64 b_bits, .u64 b_high, .u64 b_low, .s b_text, .s b_more, .i .i64 b_sub, .sl .bs b_bytes, .sl .fl b_kids]] : List TV).getD q.1 .dead) :=
  ⟨by kernel_rfl, Eq.trans (b := TreeSames.F (Val.mk a_kind a_bits a_high a_low a_text a_more a_sub a_bytes a_kids) (Val.mk b_kind b_bits b_high b_low b_text b_more b_sub b_bytes b_kids)) (by kernel_rfl) (Eq.trans (TreeSames.goal (Val.mk a_kind a_bits a_high a_low a_text a_more a_sub a_bytes a_kids) (Val.mk b_kind b_bits b_high b_low b_text b_more b_sub b_bytes b_kids)) (by kernel_rfl))⟩
theorem TreeSames.ok : SpecOK Go.Proofs.Try.prog (fun n => (noGl n).av) 6 (Ctr.fs (TreeSames.c, TreeSames.sg)) :=
  meets (l := TreeSames.env) (all_cons law17_awake.ok (all_cons book_Small.ok (all_cons tree_Same.ok (all_cons ref17_Same.ok all_nil)))) TreeSames.chk (by
      intro ins outs h
      unfold TreeSames.c at h
      split at h
      · cases h; exact TreeSames.fit _ _ _ _ _ _ _ _ _ _ _ _ _ _ _ _ _ _
      · exact h.elim)
end Go.Eng
