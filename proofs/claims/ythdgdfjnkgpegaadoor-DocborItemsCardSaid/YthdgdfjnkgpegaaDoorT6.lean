/- Texts of my own, one behind the other: DbBookP, DbMpA, DbP1, DbP2, DbP3, DbP4, DbP5, DbP6, DbP7, DbP8, DbP9, DbP, DbOK, DbR1, DbLItems, DbQItems, DbOKItems. -/
import Derived.Test.YthdgdfjnkgpegaaDoorT5
set_option linter.unusedVariables false
set_option linter.unusedSimpArgs false
namespace Go.Eng
open Go.IntWalk
theorem book_Room.l1_ok (sizes : List Int) (hl : sizes.length ≤ 10) (hs : ∀ s ∈ sizes, 0 ≤ s) : ∀ (m i : Nat) (left : Int), i + m = sizes.length → left ≤ 10000 → book_Room.l1 left sizes i = some [.i .i64 (Book.room left (sizes.drop i))] := by
  intro m
  induction m with
  | zero =>
    intro i left hi hle
    refine book_Room.l1_in _ _ _ ?_
    intro v1 h1 v2 h2 v3 h3
    rw [decide_eq_false (by omega), cond_false, List.drop_of_length_le (by omega)]; rfl
  | succ m ih =>
    intro i left hi hle
    refine book_Room.l1_in _ _ _ ?_
    intro v1 h1 v2 h2 v3 h3
    rw [Int.toNat_natCast] at h1
    have h0 : 0 ≤ v1 := hs v1 (by rw [h1, List.getD_eq_getElem?_getD, List.getElem?_eq_getElem (show i < sizes.length by omega)]; simp)
    rw [decide_eq_true (by omega), cond_true, show idxOK (i : Int) sizes.length = true from idx_ok (by omega) (by omega), drop_cons (l := sizes) (i := i) (by omega) 0, ← h1, Book.room]
    simp only [Bool.and_self, Bool.and_true, Bool.not_or_self, Bool.or_not_self, ck_true]
    by_cases a : left < 0 ∨ left < v1
    · rw [if_pos a, show v2 = true by rw [h2]; by_cases b : left < 0 <;> simp [b]; omega]; rfl
    · rw [if_neg a, show v2 = false by rw [h2]; by_cases b : left < 0 <;> simp [b] <;> omega, cond_false, show v3 = ((i + 1 : Nat) : Int) by rw [h3, i64_in _ (by omega)]; omega, i64_in _ (by omega), ih _ _ (by omega) (by omega)]
theorem book_Room.goal (left : Int) (sizes : List Int) (hp : (decide (left ≤ 10000 ∧ sizes.length ≤ 10) && sizes.all (fun s => decide (0 ≤ s))) = true) : book_Room.F left sizes = some [.i .i64 (Book.room left sizes)] := by
  simp only [Bool.and_eq_true, decide_eq_true_eq, List.all_eq_true] at hp
  rw [book_Room.F_eq]
  exact book_Room.l1_ok sizes hp.1.2 hp.2 sizes.length 0 left (by omega) hp.1.1
theorem Book.room1 (left a : Int) (ha : 0 ≤ a) (hl : left ≤ 10000) : Book.room left [a] ≤ 10000 ∧ (Book.room left [a] = -1 ∨ (Book.room left [a] = left - a ∧ 0 ≤ left - a)) := by
  simp only [Book.room]; split <;> omega
theorem Book.room4 (left a b c d : Int) (ha : 0 ≤ a) (hb : 0 ≤ b) (hc : 0 ≤ c) (hd : 0 ≤ d) (hl : left ≤ 10000) :
    Book.room left [a, b, c, d] ≤ 10000 ∧ (Book.room left [a, b, c, d] = -1 ∨ (Book.room left [a, b, c, d] = left - a - b - c - d ∧ 0 ≤ left - a - b - c - d)) := by
  simp only [Book.room]
  split
  · omega
  · split
    · omega
    · split
      · omega
      · split <;> omega
mutual
theorem Book.value_le : ∀ (f : Fld) (left : Int), left ≤ 10000 → Book.value left f ≤ 10000 ∧ (0 ≤ Book.value left f → (Fld.bulk f : Int) - f.name.length ≤ left - Book.value left f)
  | .mk n k b h l t m s y ks, left, hl => by
    have h1 := Book.room4 left 2 t.length m.length y.length (by omega) (by omega) (by omega) (by omega) hl
    have h2 := Book.values_le ks (Book.room left [2, (t.length : Int), (m.length : Int), (y.length : Int)]) h1.1
    simp only [Book.value, Fld.bulk, Fld.name]
    refine ⟨h2.1, fun h0 => ?_⟩
    rcases h1.2 with e | ⟨e, e0⟩
    · have := h2.2.2 (by omega); omega
    · have := h2.2.1 h0; omega
theorem Book.values_le : ∀ (ks : List Fld) (left : Int), left ≤ 10000 → Book.values left ks ≤ 10000 ∧ (0 ≤ Book.values left ks → (Fld.bulks ks : Int) ≤ left - Book.values left ks) ∧ (left < 0 → Book.values left ks < 0)
  | [], left, hl => by simp only [Book.values, Fld.bulks]; omega
  | f :: r, left, hl => by
    simp only [Book.values, Fld.bulks]
    by_cases h : left < 0
    · rw [if_pos h]; omega
    · rw [if_neg h]
      have h1 := Book.room1 left f.name.length (by omega) hl
      have h2 := Book.value_le f (Book.room left [(f.name.length : Int)]) h1.1
      have h3 := Book.values_le r (Book.value (Book.room left [(f.name.length : Int)]) f) h2.1
      refine ⟨h3.1, fun h0 => ?_, fun h0 => by omega⟩
      have h4 := h3.2.1 h0
      have h5 : 0 ≤ Book.value (Book.room left [(f.name.length : Int)]) f := by
        by_cases h6 : Book.value (Book.room left [(f.name.length : Int)]) f < 0
        · have := h3.2.2 h6; omega
        · omega
      have h7 := h2.2 h5
      have hb : (f.name.length : Int) ≤ Fld.bulk f := by cases f; simp only [Fld.name, Fld.bulk]; omega
      rcases h1.2 with e | ⟨e, e0⟩
      · omega
      · omega
end
theorem Book.small_bulk (v : Val) (h : 0 ≤ Book.value 1200 (Fld.of [] v)) : Fld.bulk (Fld.of [] v) ≤ 10000 := by
  have := (Book.value_le (Fld.of [] v) 1200 (by omega)).2 h
  have hn : (Fld.of [] v).name = [] := rfl
  rw [hn] at this
  simp at this; omega
theorem Book.value_val (left : Int) (f : Fld) : Book.value left (Fld.of [] f.val) = Book.value left f := by cases f; rfl
theorem Book.value_lt (f : Fld) (left : Int) (hl : left ≤ 10000) (h0 : 0 ≤ Book.value left f) : Book.value left f + 1 ≤ left := by
  have := (Book.value_le f left hl).2 h0
  have hb : (f.name.length : Int) + 1 ≤ Fld.bulk f := by cases f; simp only [Fld.name, Fld.bulk]; omega
  omega
theorem book_Value.l1_ok (n : Nat) (v : Val) (hn : Fld.bulks v.kids < n) : ∀ (m i : Nat) (left : Int), i + m = v.kids.length → (i : Int) + left ≤ 10000 →
    book_Value.l1 n left i v = some [.i .i64 (Book.values left (v.kids.drop i))] := by
  intro m
  induction m with
  | zero =>
    intro i left hi hle
    refine book_Value.l1_in _ _ _ _ ?_
    intro v1 h1 v2 h2 v3 h3 v4 h4 v5 h5 v6 h6 v7 h7
    simp only [Bool.not_or_self, ck_true]
    rw [show v2 = false by rw [h2, decide_eq_false (by omega)]; rfl, cond_false, List.drop_of_length_le (by omega)]; rfl
  | succ m ih =>
    intro i left hi hle
    refine book_Value.l1_in _ _ _ _ ?_
    intro v1 h1 v2 h2 v3 h3 v4 h4 v5 h5 v6 h6 v7 h7
    rw [Int.toNat_natCast] at h3
    have hg := Fld.bulks_get v.kids i (STy.dflt .fl) (by omega)
    rw [← h3] at hg
    have hv := Fld.bulk_val v3
    have r1 := Book.room1 left v4 (by omega) (by omega)
    rw [← h5] at r1
    have r2 := Book.value_lt v3 v5 r1.1
    rw [Book.value_val] at h6
    simp only [Bool.not_or_self, ck_true]
    rw [drop_cons (l := v.kids) (i := i) (by omega) (STy.dflt .fl), ← h3, Book.values]
    by_cases h : left < 0
    · rw [if_pos h, show v2 = false by rw [h2, decide_eq_false (show ¬ 0 ≤ left by omega)]; simp]; rfl
    · have r3 : (i : Int) + 1 + v6 ≤ 10000 := by
        rw [h6]
        by_cases hx : 0 ≤ Book.value v5 v3
        · have := r2 hx; omega
        · omega
      rw [if_neg h, show v2 = true by rw [h2, decide_eq_true (by omega), decide_eq_true (by omega)]; rfl, cond_true, ck_of (idx_ok (by omega) (by omega)), ck_of (by simp; omega), ck_of (idx_ok (by omega) (by omega)), decide_eq_true r1.1, decide_eq_true (by omega), Bool.and_self, ck_true,
        show v7 = ((i + 1 : Nat) : Int) by rw [h7, i64_in _ (by omega)]; omega, ih _ _ (by omega) (by omega), h6, h5, h4]
theorem book_Value.goal (n : Nat) (left : Int) (v : Val) (hp : ((decide (left ≤ 10000)) && decide ((Fld.bulk (Fld.of [] v)) < n + 1)) = true) : book_Value.F n left v = some [.i .i64 (Book.value left (Fld.of [] v))] := by
  simp only [Bool.and_eq_true, decide_eq_true_eq] at hp
  obtain ⟨hl, hn⟩ := hp
  have hks : Fld.bulks v.kids < Fld.bulk (Fld.of [] v) := by simp only [Fld.of, Fld.bulk]; omega
  refine book_Value.F_in n left v ?_
  intro v1 h1 v2 h2 v3 h3 v4 h4
  have r := Book.room4 left 2 v1 v2 v3 (by omega) (by omega) (by omega) (by omega) hl
  rw [← h4] at r
  rw [ck_of (by rw [h4]; simp; omega)]
  have key := book_Value.l1_ok n v (by omega) v.kids.length 0 (Book.room left v4) (by omega) (by omega)
  rw [List.drop_zero] at key
  refine key.trans ?_
  rw [h4, h1, h2, h3]
  rfl
theorem book_Small.goal (v : Val) : book_Small.F v = some [.b (decide (0 ≤ Book.value 1200 (Fld.of [] v)))] := by
  refine book_Small.F_in v ?_
  intro v1 h1
  rw [ck_of (by decide), h1]
end Go.Eng
namespace Go.Eng
open Go.IntWalk
theorem be_step (x : UInt64) (c : UInt8) : shl64 x 8 ||| UInt64.ofInt (c.toNat : Int) = x * 256 + c.toUInt64 := by
  apply UInt64.toNat_inj.1
  have hc := c.toNat_lt
  have hx := x.toNat_lt
  rw [UInt64.toNat_or, u64_nat, shl64, UInt64.toNat_add, UInt64.toNat_mul, UInt64.toNat_ofNat', UInt8.toNat_toUInt64]
  rw [Nat.mod_eq_of_lt (show c.toNat < 18446744073709551616 by omega)]
  have e : x.toNat * 2 ^ 8 % 2 ^ 64 = (x.toNat % 2 ^ 56) * 2 ^ 8 := by omega
  rw [e, or_add (k := 8) (by omega), show (256 : UInt64).toNat = 256 from rfl]
  omega
theorem shr_div (v : UInt64) (n : Nat) : shr64 (v / 256) (8 * n) = shr64 v (8 * (n + 1)) := by
  rw [shr64, shr64, UInt64.toNat_div, show (256 : UInt64).toNat = 2 ^ 8 from rfl, Nat.div_div_eq_div_mul, ← Nat.pow_add, show 8 + 8 * n = 8 * (n + 1) by omega]
theorem Cur.putLow_last : ∀ (n : Nat) (v : UInt64), Cur.putLow v (n + 1) = Cur.putLow v n ++ [(shr64 v (8 * n)).toUInt8]
  | 0, v => by
    have : shr64 v (8 * 0) = v := by rw [shr64]; simp
    rw [this]; rfl
  | n + 1, v => by
    rw [Cur.putLow, Cur.putLow_last n, Cur.putLow, shr_div]; rfl
theorem Cur.putHigh_succ (v : UInt64) (n : Nat) : Cur.putHigh v (n + 1) = (shr64 v (8 * n)).toUInt8 :: Cur.putHigh v n := by
  rw [Cur.putHigh, Cur.putLow_last, List.reverse_append]; rfl
theorem Cur.putLow_len : ∀ (n : Nat) (v : UInt64), (Cur.putLow v n).length = n
  | 0, _ => rfl
  | n + 1, v => by rw [Cur.putLow, List.length_cons, Cur.putLow_len n]
theorem Cur.putHigh_len (v : UInt64) (n : Nat) : (Cur.putHigh v n).length = n := by rw [Cur.putHigh, List.length_reverse, Cur.putLow_len]
theorem u8_of (v : UInt64) : UInt8.ofInt (v.toNat : Int) = v.toUInt8 := by
  apply UInt8.toNat_inj.1
  rw [u8_nat, UInt64.toNat_toUInt8]
mutual
theorem Itm.bulk_kids : ∀ (ks : List Itm), ks.length ≤ Itm.bulks ks
  | [] => Nat.le_refl _
  | k :: r => by
    have h1 := Itm.bulk_pos k
    have h2 := Itm.bulk_kids r
    simp only [Itm.bulks, List.length_cons]; omega
theorem Itm.bulk_pos : ∀ (k : Itm), 1 ≤ Itm.bulk k
  | .mk _ _ b t ks => by simp only [Itm.bulk]; omega
end
theorem Itm.bulks_at : ∀ (ks : List Itm) (i : Nat), i < ks.length → Itm.bulk (ks.getD i (STy.dflt .il)) ≤ Itm.bulks ks
  | [], _, h => by simp at h
  | k :: r, 0, _ => by simp only [List.getD_cons_zero, Itm.bulks]; omega
  | k :: r, i + 1, h => by
    have := Itm.bulks_at r i (by simpa using h)
    simp only [List.getD_cons_succ, Itm.bulks]; omega
theorem Itm.bulk_of (it : Itv) : Itm.bulk (Itm.of it) = 1 + it.bytes.length + it.text.length + Itm.bulks it.kids := by simp only [Itm.of, Itm.bulk]
theorem not_u64 (v : UInt64) : (~~~ v).toNat = 18446744073709551615 - v.toNat := by
  have := v.toNat_lt
  have h : UInt64.size = 18446744073709551616 := rfl
  rw [UInt64.toNat_not]; omega
section
variable {n : Nat} {depth p c k long q : Int} {u t : UInt64} {b : Str}
end
theorem ref1_PutLow.l1_ok (N : Int) (hN : 0 ≤ N ∧ N ≤ 8) : ∀ (m : Nat) (i : Int) (x : UInt64) (acc : Str), 0 ≤ i → i + m = N → acc.length ≤ 100 + i → ref1_PutLow.l1 x N acc i = some [.sl .bs (acc ++ Cur.putLow x m)] := by
  intro m
  induction m with
  | zero =>
    intro i x acc h0 hi ha
    refine ref1_PutLow.l1_in _ _ _ _ ?_
    intro v1 e1 v2 e2 v3 e3
    simp only [Bool.not_or_self, ck_true]
    rw [e1, decide_eq_false (by omega), cond_false, cond_false, Cur.putLow, List.append_nil]
  | succ m ih =>
    intro i x acc h0 hi ha
    refine ref1_PutLow.l1_in _ _ _ _ ?_
    intro v1 e1 v2 e2 v3 e3
    simp only [Bool.not_or_self, ck_true]
    rw [e1, decide_eq_true (by omega), cond_true, decide_eq_true (by omega), cond_true, ck_of (big_ap (by simp only [List.length_singleton]; omega) (by simp only [List.length_singleton]; omega)), show (!decide ((256 : UInt64) = 0)) = true from rfl, ck_true, show v3 = i + 1 by rw [e3, i64_in _ (by omega)], ih _ _ _ (by omega) (by omega) (by rw [List.length_append, List.length_singleton]; omega), e2, u8_of, Cur.putLow, List.append_assoc]
    rfl
theorem ref1_PutLow.goal (v : UInt64) (n : Int) (hp : decide (0 ≤ n ∧ n ≤ 8) = true) : ref1_PutLow.F v n = some [.sl .bs (Cur.putLow v n.toNat)] := by
  have h := of_decide_eq_true hp
  rw [ref1_PutLow.F_eq]
  exact ref1_PutLow.l1_ok n h n.toNat 0 v [] (by omega) (by omega) (by simp)
theorem ref1_PutHigh.l1_ok (l : Str) (hl : l.length ≤ 8) : ∀ (k : Nat) (acc : Str), k ≤ l.length → acc.length + k ≤ 100 → ref1_PutHigh.l1 l acc ((k : Int) - 1) = some [.sl .bs (acc ++ (l.take k).reverse)] := by
  intro k
  induction k with
  | zero =>
    intro acc _ _
    refine ref1_PutHigh.l1_in _ _ _ ?_
    intro v1 e1 v2 e2
    rw [decide_eq_false (by omega), cond_false]; simp
  | succ k ih =>
    intro acc hk ha
    refine ref1_PutHigh.l1_in _ _ _ ?_
    intro v1 e1 v2 e2
    rw [show ((k + 1 : Nat) : Int) - 1 = (k : Int) by omega] at *
    rw [Int.toNat_natCast] at e1
    rw [decide_eq_true (by omega), cond_true, ck_of (idx_ok (by omega) (by omega)), ck_of (big_ap (by simp only [List.length_singleton]; omega) (by simp only [List.length_singleton]; omega)), show v2 = (k : Int) - 1 by rw [e2, i64_in _ (by omega)], ih _ (by omega) (by rw [List.length_append, List.length_singleton]; omega), List.take_succ_eq_append_getElem (by omega), List.reverse_append, e1, List.getD_eq_getElem?_getD, List.getElem?_eq_getElem (by omega)]
    simp
theorem ref1_PutHigh.goal (v : UInt64) (n : Int) (hp : decide (0 ≤ n ∧ n ≤ 8) = true) : ref1_PutHigh.F v n = some [.sl .bs (Cur.putHigh v n.toNat)] := by
  have h := of_decide_eq_true hp
  refine ref1_PutHigh.F_in _ _ ?_
  intro v1 e1 v2 e2
  rw [Cur.putLow_len] at e1
  rw [ck_of hp, show v2 = ((n.toNat : Nat) : Int) - 1 by rw [e2, e1, i64_in _ (by omega)], ref1_PutHigh.l1_ok _ (by rw [Cur.putLow_len]; omega) _ _ (by rw [Cur.putLow_len]; omega) (by simp; omega), List.take_of_length_le (by rw [Cur.putLow_len]; omega)]
  rfl
theorem Cur.be_snoc (l : Str) (y : UInt8) : Cur.be (l ++ [y]) = Cur.be l * 256 + y.toUInt64 := by
  rw [Cur.be, List.foldl_append]; rfl
theorem ref5_Same.goal (f g : Flt) (hp : decide (f.path.length ≤ 1099511627776) = true) : ref5_Same.F f g = some [.b (decide (f.err = g.err ∧ f.at_ = g.at_ ∧ f.path = g.path))] := by
  refine ref5_Same.F_in _ _ ?_
  intro v1 e1 v2 e2
  simp only [hp, Bool.and_true, Bool.and_self, Bool.not_or_self, ck_true]
  rw [e2, e1]
  by_cases a : f.err = g.err <;> by_cases b : f.at_ = g.at_ <;> by_cases c : f.path = g.path <;> simp [a, b, c]
mutual
theorem Itm.same_refl : ∀ (a : Itm), Itm.same a a = true
  | .mk k n b t ks => by rw [Itm.same]; simp [Itm.sames_refl ks]
theorem Itm.sames_refl : ∀ (l : List Itm), Itm.sames l l = true
  | [] => by rw [Itm.sames]
  | k :: r => by rw [Itm.sames, Itm.same_refl k, Itm.sames_refl r]; rfl
end
theorem Itm.sames_len : ∀ (a b : List Itm), a.length ≠ b.length → Itm.sames a b = false
  | [], [], h => (h rfl).elim
  | [], _ :: _, _ => by rw [Itm.sames]
  | _ :: _, [], _ => by rw [Itm.sames]
  | k :: r, k' :: r', h => by rw [Itm.sames, Itm.sames_len r r' (fun e => h (by simp [e])), Bool.and_false]
theorem ref28_Same.l1_ok (n : Nat) (a b : Itv) (hb : Itm.bulks a.kids ≤ 1099511627776) (hn : Itm.bulks a.kids < n) (hl : a.kids.length = b.kids.length) : ∀ (m i : Nat), i + m = a.kids.length → ref28_Same.l1 n i a b = some [.b (Itm.sames (a.kids.drop i) (b.kids.drop i))] := by
  have hk := Itm.bulk_kids a.kids
  intro m
  induction m with
  | zero =>
    intro i hi
    refine ref28_Same.l1_in _ _ _ _ ?_
    intro v1 e1 v2 e2 v3 e3
    rw [decide_eq_false (by omega), cond_false, List.drop_of_length_le (by omega), List.drop_of_length_le (by omega), Itm.sames]
  | succ m ih =>
    intro i hi
    refine ref28_Same.l1_in _ _ _ _ ?_
    intro v1 e1 v2 e2 v3 e3
    have hi' : i < a.kids.length := by omega
    have hi2 : i < b.kids.length := by omega
    have hb' := Itm.bulks_at a.kids i hi'
    rw [Int.toNat_natCast, Itm.of_val, Itm.of_val] at e2
    rw [decide_eq_true (by omega), cond_true, ck_of (idx_ok (by omega) (by omega)), ck_of (idx_ok (by omega) (by omega)), Int.toNat_natCast, Itm.of_val, ck_of (by rw [decide_eq_true (by omega), decide_eq_true (by omega)]; rfl), drop_cons hi' (STy.dflt .il), drop_cons hi2 (STy.dflt .il), Itm.sames, ← e2]
    cases v2 with
    | false => rfl
    | true => rw [Bool.not_true, cond_false, Bool.true_and, show v3 = ((i + 1 : Nat) : Int) by rw [e3, i64_in _ (by omega)]; omega, ih _ (by omega)]
theorem ref28_Same.goal (n : Nat) (a b : Itv) (hp : ((decide (Itm.bulk (Itm.of a) ≤ 1099511627776)) && decide ((Itm.bulk (Itm.of a)) < n + 1)) = true) : ref28_Same.F n a b = some [.b (Itm.same (Itm.of a) (Itm.of b))] := by
  simp only [Bool.and_eq_true, decide_eq_true_eq] at hp
  obtain ⟨h, hn⟩ := hp
  rw [Itm.bulk_of] at h hn
  refine ref28_Same.F_in _ _ _ ?_
  intro v1 e1 v2 e2 v3 e3 v4 e4 v5 e5 v6 e6 v7 e7
  have c1 : ((!decide (a.kind = b.kind)) || v1) = true := by rw [e1]; cases decide (a.kind = b.kind) <;> rfl
  simp only [Bool.not_or_self, Bool.or_not_self, Bool.and_self, ck_true, c1]
  rw [e7, e4, e3, e2, e5, e6]
  simp only [Itm.of, Itm.same]
  by_cases a1 : a.kind = b.kind
  · by_cases a2 : a.n = b.n
    · by_cases a3 : a.text = b.text
      · by_cases a4 : a.bytes = b.bytes
        · by_cases a5 : a.kids.length = b.kids.length
          · have hl := ref28_Same.l1_ok n a b (by omega) (by omega) a5 a.kids.length 0 (by omega)
            rw [decide_eq_true a1, decide_eq_true a2, decide_eq_true a3, decide_eq_true a4, decide_eq_true (show (a.kids.length : Int) = b.kids.length by omega)]
            simpa using hl
          · rw [decide_eq_false (show ¬ (a.kids.length : Int) = b.kids.length by omega), Itm.sames_len _ _ a5]
            simp [a1, a2, a3, a4]
        · simp [a4]
      · simp [a3]
    · simp [a2]
  · simp [a1]
end Go.Eng
namespace Go.Eng
open Go.IntWalk
theorem u64_ofInt_wrap (x : Int) : UInt64.ofInt (IntKind.i64.wrap x) = UInt64.ofInt x := by
  apply UInt64.toNat_inj.1
  have h1 := u64_ofInt (IntKind.i64.wrap x)
  have h2 := u64_ofInt x
  rw [wrap_u64'] at h1 h2
  have h3 : IntKind.i64.wrap x % 18446744073709551616 = x % 18446744073709551616 := by
    simp only [IntKind.wrap, IntKind.bits, IntKind.signed]
    simp
    omega
  omega
theorem u64_add_ofInt (m : Nat) (hm : m < 1000000) (k : Int) : UInt64.ofNat m + UInt64.ofInt k = UInt64.ofInt ((m : Int) + k) := by
  apply UInt64.toNat_inj.1
  have h1 := u64_ofInt ((m : Int) + k)
  have h2 := u64_ofInt k
  rw [wrap_u64'] at h1 h2
  rw [UInt64.toNat_add, UInt64.toNat_ofNat']
  omega
theorem not_ofInt (v : Int) (h : v < 0) (h2 : -9223372036854775808 ≤ v) : ~~~(UInt64.ofInt v) = UInt64.ofInt (-(v + 1)) := by
  apply UInt64.toNat_inj.1
  have h1 := u64_ofInt (-(v + 1))
  have h3 := u64_ofInt v
  rw [wrap_u64'] at h1 h3
  rw [not_u64]
  omega
theorem i64_rng (x : Int) : -9223372036854775808 ≤ IntKind.i64.wrap x ∧ IntKind.i64.wrap x ≤ 9223372036854775807 := by
  simp only [IntKind.wrap, IntKind.bits, IntKind.signed]
  simp
  omega
theorem i32_rng (x : Int) : -2147483648 ≤ IntKind.i32.wrap x ∧ IntKind.i32.wrap x ≤ 2147483647 := by
  simp only [IntKind.wrap, IntKind.bits, IntKind.signed]
  simp
  omega
theorem i64_i32 (x : Int) : IntKind.i64.wrap (IntKind.i32.wrap x) = IntKind.i32.wrap x := by
  have := i32_rng x
  exact i64_in _ (by omega)
theorem i32_u32 (n : UInt64) : IntKind.i32.wrap ((UInt32.ofInt (n.toNat : Int)).toNat : Int) = IntKind.i32.wrap (n.toNat : Int) := by
  have h := u32_ofInt (n.toNat : Int)
  rw [wrap_u32'] at h
  rw [h]
  simp only [IntKind.wrap, IntKind.bits, IntKind.signed]
  simp
theorem Db.item_of (n : Str) (v : Val) : Db.item (Fld.of n v) = Db.itemOf v (Db.mapped v.kids) (Db.items v.kids) := by cases v; rfl
theorem Db.item_val (n : Str) (f : Fld) : Db.item (Fld.of n f.val) = Db.item f := by cases f; rfl
theorem db_text.goal (s : Str) : db_text.F s = some [.ag (Itv.cells (Itm.val (Db.text s)))] := db_text.F_eq s
theorem db_raw.goal (b : Str) (hp : decide (b.length ≤ 1099511627776) = true) : db_raw.F b = some [.ag (Itv.cells (Itm.val (Db.raw b)))] := by
  rw [db_raw.F_eq, ck_of (big_ap (by have := of_decide_eq_true hp; omega) (by have := of_decide_eq_true hp; omega))]; rfl
theorem db_plus.goal (n : UInt64) : db_plus.F n = some [.ag (Itv.cells (Itm.val (Db.plus n)))] := db_plus.F_eq n
theorem db_simple.goal (n : UInt64) : db_simple.F n = some [.ag (Itv.cells (Itm.val (Db.simple n)))] := db_simple.F_eq n
theorem db_list.goal (l : List Itm) : db_list.F l = some [.ag (Itv.cells (Itm.val (Db.list l)))] := db_list.F_eq l
theorem ref28_text.goal (s : Str) : ref28_text.F s = some [.ag (Itv.cells (Itm.val (Db.text s)))] := ref28_text.F_eq s
theorem ref28_list.goal (l : List Itm) : ref28_list.F l = some [.ag (Itv.cells (Itm.val (Db.list l)))] := ref28_list.F_eq l
theorem ref28_data.goal (b : Str) : ref28_data.F b = some [.ag (Itv.cells (Itm.val (Db.raw b)))] := ref28_data.F_eq b
theorem ref28_tag.goal (k : Int) (it : Itv) : ref28_tag.F k it = some [.ag (Itv.cells (Itm.val (Itm.mk 7 (UInt64.ofInt (IntKind.i64.wrap (1000 + k))) [] [] [Itm.of it])))] := by
  refine ref28_tag.F_in _ _ ?_
  intro v1 h1; rw [h1]; rfl
theorem db_integer.goal (v : Int) (hp : decide (-9223372036854775808 ≤ v ∧ v ≤ 9223372036854775807) = true) : db_integer.F v = some [.ag (Itv.cells (Itm.val (Db.integer v)))] := by
  have h := of_decide_eq_true hp
  rw [db_integer.F_eq, Db.integer]
  by_cases a : v < 0
  · rw [decide_eq_true a, cond_true, if_pos a, not_ofInt v a h.1]; rfl
  · rw [decide_eq_false a, cond_false, if_neg a]; rfl
theorem ref28_Integer.goal (v : Int) (hp : decide (-9223372036854775808 ≤ v ∧ v ≤ 9223372036854775807) = true) : ref28_Integer.F v = some [.ag (Itv.cells (Itm.val (Db.integer v)))] := by
  have h := of_decide_eq_true hp
  refine ref28_Integer.F_in _ ?_
  intro v1 h1 v2 h2
  rw [Db.integer]
  by_cases a : v < 0
  · have e1 : v1 = v + 1 := by rw [h1, i64_in _ (by omega)]
    rw [decide_eq_true a, cond_true, if_pos a, h2, e1, i64_in _ (by omega), Int.zero_sub]; rfl
  · rw [decide_eq_false a, cond_false, if_neg a]; rfl
theorem db_words.j2_ok (v : Val) (x4 : Itv) (acc : Str) (m : Nat) (hm : m < 8) (u : UInt64) (q : Nat) (hq : q = 0 ∨ q = 64) (ha : acc.length ≤ 100) : db_words.j2 acc ((8 * m + q : Nat) : Int) u v x4 = db_words.l1 (acc ++ [(shr64 u (8 * m)).toUInt8]) (((8 * m + q : Nat) : Int) - 8) v x4 := by
  refine db_words.j2_in _ _ _ _ _ ?_
  intro v1 h1 v2 h2 v3 h3
  have e : Int.tmod ((8 * m + q : Nat) : Int) 64 = ((8 * m : Nat) : Int) := by
    rw [Int.tmod_eq_emod_of_nonneg (by omega)]
    rcases hq with rfl | rfl <;> omega
  rw [e, Int.toNat_natCast] at h1
  rw [ck_of (by decide), e, ck_of (decide_eq_true (by omega)), ck_of (big_ap (by simp only [List.length_singleton]; omega) (by simp only [List.length_singleton]; omega)), h3, i64_in _ (by omega), h2, h1, u8_of]
theorem db_words.low_ok (v : Val) (x4 : Itv) : ∀ (m : Nat) (acc : Str), m ≤ 8 → acc.length + m ≤ 50 → db_words.l1 acc (((8 * m : Nat) : Int) - 8) v x4 = some [.ag (Itv.cells (Itm.val (Db.raw (acc ++ Cur.putHigh v.low m))))]
  | 0, acc, _, ha => by
    rw [db_words.l1_eq, decide_eq_false (by omega), cond_false, ck_of (decide_eq_true (by omega)), show Cur.putHigh v.low 0 = [] from rfl, List.append_nil]
  | m + 1, acc, hm, ha => by
    rw [db_words.l1_eq, decide_eq_true (by omega), cond_true, decide_eq_true (by omega), cond_true, show ((8 * (m + 1) : Nat) : Int) - 8 = ((8 * m + 0 : Nat) : Int) by omega, db_words.j2_ok v x4 acc m (by omega) v.low 0 (.inl rfl) (by omega), Nat.add_zero]
    rw [db_words.low_ok v x4 m (acc ++ [(shr64 v.low (8 * m)).toUInt8]) (by omega) (by rw [List.length_append, List.length_singleton]; omega), Cur.putHigh_succ, List.append_assoc]; rfl
theorem db_words.high_ok (v : Val) (x4 : Itv) : ∀ (m : Nat) (acc : Str), m ≤ 8 → acc.length + m ≤ 42 → db_words.l1 acc (((8 * m + 64 : Nat) : Int) - 8) v x4 = some [.ag (Itv.cells (Itm.val (Db.raw (acc ++ Cur.putHigh v.high m ++ Cur.putHigh v.low 8))))]
  | 0, acc, _, ha => by
    rw [show Cur.putHigh v.high 0 = [] from rfl, List.append_nil]
    exact db_words.low_ok v x4 8 acc (by omega) (by omega)
  | m + 1, acc, hm, ha => by
    rw [db_words.l1_eq, decide_eq_true (by omega), cond_true, decide_eq_false (by omega), cond_false, show ((8 * (m + 1) + 64 : Nat) : Int) - 8 = ((8 * m + 64 : Nat) : Int) by omega, db_words.j2_ok v x4 acc m (by omega) v.high 64 (.inr rfl) (by omega)]
    rw [db_words.high_ok v x4 m (acc ++ [(shr64 v.high (8 * m)).toUInt8]) (by omega) (by rw [List.length_append, List.length_singleton]; omega), Cur.putHigh_succ v.high m, List.append_assoc acc]; rfl
theorem db_words.goal (v : Val) : db_words.F v = some [.ag (Itv.cells (Itm.val (Db.raw (Db.words v.high v.low))))] := by
  rw [db_words.F_eq]
  exact db_words.high_ok v _ 8 [] (by omega) (by simp)
theorem db_mapped.l1_ok (n : Nat) (l : List Fld) (hb : Fld.bulks l ≤ 1073741824) (hn : 3 * Fld.bulks l + 2 < n) (x3 : Itv) (x4 : Int) (x5 : UInt64) (x6 : Str) : ∀ (m i : Nat) (acc : List Itm), i + m = l.length → acc.length + 2 * m ≤ 2147483648 →
    db_mapped.l1 n l (l.length : Int) i x3 x4 x5 x6 acc = some [.ag [.i .i64 x4, .u64 x5, .sl .bs [], .s x6, .sl .il (acc ++ Db.mapped (l.drop i))]] := by
  have hlen := Fld.bulks_len l
  intro m
  induction m with
  | zero =>
    intro i acc hi ha
    refine db_mapped.l1_in _ _ _ _ _ _ _ _ _ ?_
    intro v1 h1 v2 h2 v3 h3
    rw [decide_eq_false (by omega), cond_false, List.drop_of_length_le (by omega), Db.mapped, List.append_nil]
  | succ m ih =>
    intro i acc hi ha
    refine db_mapped.l1_in _ _ _ _ _ _ _ _ _ ?_
    intro v1 h1 v2 h2 v3 h3
    rw [Int.toNat_natCast] at h1
    have hg := Fld.bulks_get l i (STy.dflt .fl) (by omega)
    rw [← h1] at hg
    have hv := Fld.bulk_val v1
    have h2' : v2 = [Db.text v1.name, Db.item v1] := by rw [h2, Itm.of_val, Itm.of_val, Db.item_val]
    rw [decide_eq_true (by omega), cond_true, ck_of (idx_ok (by omega) (by omega)), decide_eq_true (show 3 * Fld.bulk (Fld.of [] v1.val) + 2 < n by omega), decide_eq_true (show Fld.bulk (Fld.of [] v1.val) ≤ 1073741824 by omega), Bool.and_self, ck_true,
      ck_of (big_ap (by rw [h2']; simp only [List.length_cons, List.length_nil]; omega) (by rw [h2']; simp only [List.length_cons, List.length_nil]; omega)), show v3 = ((i + 1 : Nat) : Int) by rw [h3, i64_in _ (by omega)]; omega, h2', ih _ _ (by omega) (by simp only [List.length_append, List.length_cons, List.length_nil]; omega), drop_cons (l := l) (i := i) (by omega) (STy.dflt .fl), ← h1, Db.mapped, List.append_assoc]; rfl
theorem db_mapped.goal (n : Nat) (l : List Fld) (hp : ((decide (Fld.bulks l ≤ 1073741824)) && decide ((3 * Fld.bulks l + 3) < n + 1)) = true) : db_mapped.F n l = some [.ag (Itv.cells (Itm.val (Db.map (Db.mapped l))))] := by
  simp only [Bool.and_eq_true, decide_eq_true_eq] at hp
  have hlen := Fld.bulks_len l
  rw [db_mapped.F_eq]
  have := db_mapped.l1_ok n l hp.1 (by omega) (Itv.mk 0 0 [] [] []) 6 0 [] l.length 0 [] (by omega) (by simp; omega)
  rw [List.drop_zero, List.nil_append] at this
  exact this
theorem ref28_mapped.l1_ok (n : Nat) (l : List Fld) (hb : Fld.bulks l ≤ 1073741824) (hn : 2 * Fld.bulks l + 1 < n) (x3 : Itv) (x4 : Int) (x5 : UInt64) (x6 : Str) : ∀ (m i : Nat) (acc : List Itm), i + m = l.length → acc.length + 2 * m ≤ 2147483648 →
    ref28_mapped.l1 n l i x3 x4 x5 x6 acc = some [.ag [.i .i64 x4, .u64 x5, .sl .bs [], .s x6, .sl .il (acc ++ Db.mapped (l.drop i))]] := by
  have hlen := Fld.bulks_len l
  intro m
  induction m with
  | zero =>
    intro i acc hi ha
    refine ref28_mapped.l1_in _ _ _ _ _ _ _ _ ?_
    intro v1 h1 v2 h2 v3 h3
    rw [decide_eq_false (by omega), cond_false, List.drop_of_length_le (by omega), Db.mapped, List.append_nil]
  | succ m ih =>
    intro i acc hi ha
    refine ref28_mapped.l1_in _ _ _ _ _ _ _ _ ?_
    intro v1 h1 v2 h2 v3 h3
    rw [Int.toNat_natCast] at h1
    have hg := Fld.bulks_get l i (STy.dflt .fl) (by omega)
    rw [← h1] at hg
    have hv := Fld.bulk_val v1
    have h2' : v2 = [Db.text v1.name, Db.item v1] := by rw [h2, Itm.of_val, Itm.of_val, Db.item_val]
    rw [decide_eq_true (by omega), cond_true, ck_of (idx_ok (by omega) (by omega)), ck_of (idx_ok (by omega) (by omega)), decide_eq_true (show 2 * Fld.bulk (Fld.of [] v1.val) + 1 < n by omega), decide_eq_true (show Fld.bulk (Fld.of [] v1.val) ≤ 1073741824 by omega), Bool.and_self, ck_true,
      ck_of (big_ap (by rw [h2']; simp only [List.length_cons, List.length_nil]; omega) (by rw [h2']; simp only [List.length_cons, List.length_nil]; omega)), show v3 = ((i + 1 : Nat) : Int) by rw [h3, i64_in _ (by omega)]; omega, h2', ih _ _ (by omega) (by simp only [List.length_append, List.length_cons, List.length_nil]; omega), drop_cons (l := l) (i := i) (by omega) (STy.dflt .fl), ← h1, Db.mapped, List.append_assoc]; rfl
theorem ref28_mapped.goal (n : Nat) (l : List Fld) (hp : ((decide (Fld.bulks l ≤ 1073741824)) && decide ((2 * Fld.bulks l + 2) < n + 1)) = true) : ref28_mapped.F n l = some [.ag (Itv.cells (Itm.val (Db.map (Db.mapped l))))] := by
  simp only [Bool.and_eq_true, decide_eq_true_eq] at hp
  have hlen := Fld.bulks_len l
  rw [ref28_mapped.F_eq]
  have := ref28_mapped.l1_ok n l hp.1 (by omega) (Itv.mk 0 0 [] [] []) 6 0 [] l.length 0 [] (by omega) (by simp; omega)
  rw [List.drop_zero, List.nil_append] at this
  exact this
theorem db_item.l1_ok (n : Nat) (l : List Fld) (hb : Fld.bulks l ≤ 1073741824) (hn : 3 * Fld.bulks l + 2 < n) (x3 : Itv) : ∀ (m i : Nat) (x4 : Itv), i + m = l.length → x4.kids.length + m ≤ 2147483648 →
    db_item.l1 n l (l.length : Int) i x3 x4 = some [.ag (Itv.cells ⟨x4.kind, x4.n, x4.bytes, x4.text, x4.kids ++ Db.items (l.drop i)⟩)] := by
  have hlen := Fld.bulks_len l
  intro m
  induction m with
  | zero =>
    intro i x4 hi ha
    refine db_item.l1_in _ _ _ _ _ _ ?_
    intro v1 h1 v2 h2 v3 h3
    rw [decide_eq_false (by omega), cond_false, List.drop_of_length_le (by omega), Db.items, List.append_nil]
  | succ m ih =>
    intro i x4 hi ha
    refine db_item.l1_in _ _ _ _ _ _ ?_
    intro v1 h1 v2 h2 v3 h3
    rw [Int.toNat_natCast] at h1
    have hg := Fld.bulks_get l i (STy.dflt .fl) (by omega)
    rw [← h1] at hg
    have hv := Fld.bulk_val v1
    have h2' : v2 = [Db.item v1] := by rw [h2, Itm.of_val, Db.item_val]
    rw [decide_eq_true (by omega), cond_true, ck_of (idx_ok (by omega) (by omega)), decide_eq_true (show 3 * Fld.bulk (Fld.of [] v1.val) + 2 < n by omega), decide_eq_true (show Fld.bulk (Fld.of [] v1.val) ≤ 1073741824 by omega), Bool.and_self, ck_true,
      ck_of (big_ap (by rw [h2']; simp only [List.length_cons, List.length_nil]; omega) (by rw [h2']; simp only [List.length_cons, List.length_nil]; omega)), show v3 = ((i + 1 : Nat) : Int) by rw [h3, i64_in _ (by omega)]; omega, h2', ih _ _ (by omega) (by simp only [List.length_append, List.length_cons, List.length_nil]; omega), drop_cons (l := l) (i := i) (by omega) (STy.dflt .fl), ← h1, Db.items, List.append_assoc]; rfl
theorem ref28_item.l1_ok (n : Nat) (v : Val) (hb : Fld.bulks v.kids ≤ 1073741824) (hn : 2 * Fld.bulks v.kids + 1 < n) (x3 : Itv) : ∀ (m i : Nat) (acc : List Itm), i + m = v.kids.length → acc.length + m ≤ 2147483648 →
    ref28_item.l1 n acc i v x3 = some [.ag (Itv.cells (Itm.val (Db.list (acc ++ Db.items (v.kids.drop i)))))] := by
  have hlen := Fld.bulks_len v.kids
  intro m
  induction m with
  | zero =>
    intro i acc hi ha
    refine ref28_item.l1_in _ _ _ _ _ ?_
    intro v1 h1 v2 h2 v3 h3 v4 h4
    rw [decide_eq_false (by omega), cond_false, List.drop_of_length_le (by omega), Db.items, List.append_nil]
  | succ m ih =>
    intro i acc hi ha
    refine ref28_item.l1_in _ _ _ _ _ ?_
    intro v1 h1 v2 h2 v3 h3 v4 h4
    rw [Int.toNat_natCast] at h2
    have hg := Fld.bulks_get v.kids i (STy.dflt .fl) (by omega)
    rw [← h2] at hg
    have hv := Fld.bulk_val v2
    have h3' : v3 = [Db.item v2] := by rw [h3, Itm.of_val, Db.item_val]
    rw [decide_eq_true (by omega), cond_true, ck_of (idx_ok (by omega) (by omega)), decide_eq_true (show 2 * Fld.bulk (Fld.of [] v2.val) + 1 < n by omega), decide_eq_true (show Fld.bulk (Fld.of [] v2.val) ≤ 1073741824 by omega), Bool.and_self, ck_true,
      ck_of (big_ap (by rw [h3']; simp only [List.length_cons, List.length_nil]; omega) (by rw [h3']; simp only [List.length_cons, List.length_nil]; omega)), show v4 = ((i + 1 : Nat) : Int) by rw [h4, i64_in _ (by omega)]; omega, h3', ih _ _ (by omega) (by simp only [List.length_append, List.length_cons, List.length_nil]; omega), drop_cons (l := v.kids) (i := i) (by omega) (STy.dflt .fl), ← h2, Db.items, List.append_assoc]; rfl
theorem Val.lens (v : Val) (m : Nat) (h : Fld.bulk (Fld.of [] v) ≤ m) : v.bytes.length < m ∧ Fld.bulks v.kids < m ∧ v.kids.length < m := by
  have := Fld.bulks_len v.kids
  simp only [Fld.of, Fld.bulk] at h; omega
theorem db_tagged.j2_ok (n : Nat) (x0 : Int) (x1 : Bool) (v : Val) (x3 : Itv) (hx : x0 = v.kind) (hb : Fld.bulks v.kids ≤ 1073741824) (hn : 3 * Fld.bulks v.kids + 3 < n) (h1 : x1 = decide (v.kind = 13 ∨ v.kind = 14)) (hk : v.kind ≠ 4 ∧ v.kind ≠ 5 ∧ v.kind ≠ 7 ∧ ¬ (v.kind = 9 ∨ v.kind = 18) ∧ v.kind ≠ 11 ∧ v.kind ≠ 12) :
    db_tagged.j2 n x0 x1 v x3 = some [.ag (Itv.cells (Itm.val (Db.tagged v (Db.mapped v.kids))))] := by
  obtain ⟨a4, a5, a7, a9, a11, a12⟩ := hk
  refine db_tagged.j2_in _ _ _ _ _ ?_
  intro v1 e1
  rw [h1, hx, Db.tagged, if_neg a4, if_neg a5, if_neg a7, if_neg a9, if_neg a11, if_neg a12]
  by_cases a : v.kind = 13 ∨ v.kind = 14
  · rw [decide_eq_true a, cond_true, if_pos a]
  rw [decide_eq_false a, cond_false, if_neg a]
  by_cases a : v.kind = 15
  · rw [decide_eq_true a, cond_true, if_pos a, ck_of (by rw [decide_eq_true hb, decide_eq_true hn]; rfl), e1, Itm.of_val, Itm.of_val]
  rw [decide_eq_false a, cond_false, if_neg a]
  by_cases a : v.kind = 17
  · rw [decide_eq_true a, cond_true, if_pos a]
  rw [decide_eq_false a, cond_false, if_neg a]
  by_cases a : v.kind = 19
  · rw [decide_eq_true a, cond_true, if_pos a]
  rw [decide_eq_false a, cond_false, if_neg a]
theorem db_tagged.j1_ok (n : Nat) (x0 : Int) (x1 : Bool) (v : Val) (x3 : Itv) (hx : x0 = v.kind) (hb : Fld.bulks v.kids ≤ 1073741824) (hy : v.bytes.length ≤ 1099511627776) (hn : 3 * Fld.bulks v.kids + 3 < n) (h1 : x1 = decide (v.kind = 9 ∨ v.kind = 18)) (hk : v.kind ≠ 4 ∧ v.kind ≠ 5 ∧ v.kind ≠ 7) :
    db_tagged.j1 n x0 x1 v x3 = some [.ag (Itv.cells (Itm.val (Db.tagged v (Db.mapped v.kids))))] := by
  obtain ⟨a4, a5, a7⟩ := hk
  refine db_tagged.j1_in _ _ _ _ _ ?_
  intro v1 e1 v2 e2 v3 e3
  by_cases a : v.kind = 9 ∨ v.kind = 18
  · rw [h1, decide_eq_true a, cond_true, Db.tagged, if_neg a4, if_neg a5, if_neg a7, if_pos a, e1, ck_of (decide_eq_true (i64_rng _))]; rfl
  rw [h1, decide_eq_false a, cond_false, hx]
  by_cases a11 : v.kind = 11
  · rw [decide_eq_true a11, cond_true, Db.tagged, if_neg a4, if_neg a5, if_neg a7, if_neg a, if_pos a11, e2, Itm.of_val, Itm.of_val]
  rw [decide_eq_false a11, cond_false]
  by_cases a12 : v.kind = 12
  · rw [decide_eq_true a12, cond_true, Db.tagged, if_neg a4, if_neg a5, if_neg a7, if_neg a, if_neg a11, if_pos a12, ck_of (decide_eq_true hy), e3, Itm.of_val, Itm.of_val]
  rw [decide_eq_false a12, cond_false]
  have J := fun b hb' => db_tagged.j2_ok n v.kind b v x3 rfl hb hn hb' ⟨a4, a5, a7, a, a11, a12⟩
  by_cases a13 : v.kind = 13
  · rw [decide_eq_true a13, cond_true]; exact J _ (by rw [decide_eq_true (.inl a13)])
  · rw [decide_eq_false a13, cond_false]; exact J _ (by simp [a13])
theorem db_tagged.goal (n : Nat) (v : Val) (hp : ((decide (Fld.bulk (Fld.of [] v) ≤ 1073741824)) && decide ((3 * Fld.bulk (Fld.of [] v) + 1) < n + 1)) = true) : db_tagged.F n v = some [.ag (Itv.cells (Itm.val (Db.tagged v (Db.mapped v.kids))))] := by
  simp only [Bool.and_eq_true, decide_eq_true_eq] at hp
  obtain ⟨hb, hn⟩ := hp
  obtain ⟨l1, l2, l3⟩ := Val.lens v _ hb
  have hk : Fld.bulks v.kids < Fld.bulk (Fld.of [] v) := by simp only [Fld.of, Fld.bulk]; omega
  refine db_tagged.F_in _ _ ?_
  intro v1 e1
  by_cases a4 : v.kind = 4
  · rw [decide_eq_true a4, cond_true, ck_of (by rw [decide_eq_true (show Fld.bulks v.kids ≤ 1073741824 by omega), decide_eq_true (show 3 * Fld.bulks v.kids + 3 < n by omega)]; rfl), Db.tagged, if_pos a4]
  rw [decide_eq_false a4, cond_false]
  by_cases a5 : v.kind = 5
  · rw [decide_eq_true a5, cond_true, ck_of (decide_eq_true (by omega)), Db.tagged, if_neg a4, if_pos a5, e1, Itm.of_val, Itm.of_val]
  rw [decide_eq_false a5, cond_false]
  by_cases a7 : v.kind = 7
  · rw [decide_eq_true a7, cond_true, ck_of (decide_eq_true (by omega)), Db.tagged, if_neg a4, if_neg a5, if_pos a7]
  rw [decide_eq_false a7, cond_false]
  have J := fun b hb' => db_tagged.j1_ok n v.kind b v (Itv.mk 0 0 [] [] []) rfl (by omega) (by omega) (by omega) hb' ⟨a4, a5, a7⟩
  by_cases a9 : v.kind = 9
  · rw [decide_eq_true a9, cond_true]; exact J _ (by rw [decide_eq_true (.inl a9)])
  · rw [decide_eq_false a9, cond_false]; exact J _ (by simp [a9])
theorem db_item.j2_ok (n : Nat) (v : Val) (x1 : Itv) (hb : Fld.bulk (Fld.of [] v) ≤ 1073741824) (hn : 3 * Fld.bulk (Fld.of [] v) + 1 < n) : db_item.j2 n v x1 = some [.ag (Itv.cells (Itm.val (.mk 7 (UInt64.ofInt (1000 + v.kind)) [] [] [Db.tagged v (Db.mapped v.kids)])))] := by
  refine db_item.j2_in _ _ _ ?_
  intro v1 e1 v2 e2
  have h1 : v1 = UInt64.ofInt (1000 + v.kind) := by rw [e1]; exact u64_add_ofInt 1000 (by omega) v.kind
  rw [ck_of (by rw [decide_eq_true hb, decide_eq_true hn]; rfl), h1, e2, Itm.of_val]; rfl
theorem db_item.goal (n : Nat) (v : Val) (hp : ((decide (Fld.bulk (Fld.of [] v) ≤ 1073741824)) && decide ((3 * Fld.bulk (Fld.of [] v) + 2) < n + 1)) = true) : db_item.F n v = some [.ag (Itv.cells (Itm.val (Db.item (Fld.of [] v))))] := by
  simp only [Bool.and_eq_true, decide_eq_true_eq] at hp
  obtain ⟨hb, hn⟩ := hp
  obtain ⟨l1, l2, l3⟩ := Val.lens v _ hb
  have hk : Fld.bulks v.kids < Fld.bulk (Fld.of [] v) := by simp only [Fld.of, Fld.bulk]; omega
  have J := db_item.j2_ok n v (Itv.mk 0 0 [] [] []) hb (by omega)
  refine db_item.F_in _ _ ?_
  intro v1 e1 v2 e2 v3 e3 v4 e4
  rw [Db.item_of, Db.itemOf]
  by_cases a : v.kind = 1
  · rw [decide_eq_true a, cond_true, if_pos a]; rfl
  rw [decide_eq_false a, cond_false, if_neg a]
  by_cases a : v.kind = 2
  · rw [decide_eq_true a, cond_true, if_pos a]
  rw [decide_eq_false a, cond_false, if_neg a]
  by_cases a : v.kind = 3
  · rw [decide_eq_true a, cond_true, if_pos a, ck_of (by rw [decide_eq_true (show Fld.bulks v.kids ≤ 1073741824 by omega), decide_eq_true (show 3 * Fld.bulks v.kids + 3 < n by omega)]; rfl)]
  rw [decide_eq_false a, cond_false, if_neg a]
  by_cases a : v.kind = 4
  · rw [decide_eq_true a, cond_true, ck_of (decide_eq_true (by omega)), e1]
    by_cases r : Tree.regular v.kids = true
    · rw [r, cond_true, if_pos ⟨a, rfl⟩, e2]
      have := db_item.l1_ok n v.kids (by omega) (by omega) (Itv.mk 0 0 [] [] []) v.kids.length 0 ⟨5, 0, [], [], []⟩ (by omega) (by simp only [List.length_nil]; omega)
      rw [List.drop_zero, List.nil_append] at this
      exact this
    · rw [Bool.eq_false_iff.2 r, cond_false, if_neg (fun h => absurd h.2 (by simp)), if_neg (by omega), if_neg (by omega), if_neg (by omega), if_neg (by omega), if_neg (by omega)]
      exact J
  rw [decide_eq_false a, cond_false, if_neg (fun h => a h.1)]
  by_cases a : v.kind = 5
  · rw [decide_eq_true a, cond_true]
    by_cases r : v.sub = 0
    · rw [decide_eq_true r, cond_true, if_pos ⟨a, r⟩, ck_of (decide_eq_true (by omega))]
    · rw [decide_eq_false r, cond_false, if_neg (fun h => r h.2), if_neg (by omega), if_neg (by omega), if_neg (by omega), if_neg (by omega)]
      exact J
  rw [decide_eq_false a, cond_false, if_neg (fun h => a h.1)]
  by_cases a : v.kind = 6
  · rw [decide_eq_true a, cond_true, if_pos a]
  rw [decide_eq_false a, cond_false, if_neg a]
  by_cases a : v.kind = 10
  · rw [decide_eq_true a, cond_true, if_pos a]
  rw [decide_eq_false a, cond_false, if_neg a]
  by_cases a : v.kind = 8
  · rw [decide_eq_true a, cond_true, if_pos a, e3]
  rw [decide_eq_false a, cond_false, if_neg a]
  by_cases a : v.kind = 16
  · rw [decide_eq_true a, cond_true, if_pos a, ck_of (decide_eq_true (i64_rng _)), e4, i64_i32]; rfl
  rw [decide_eq_false a, cond_false, if_neg a]
  exact J
theorem db_Item.goal (v : Val) (hp : decide (Fld.bulk (Fld.of [] v) ≤ 1073741824) = true) : db_Item.F v = some [.ag (Itv.cells (Itm.val (Db.enc v).1)), .ag (Flt.cells (Db.enc v).2)] := by
  have hb := of_decide_eq_true hp
  obtain ⟨l1, l2, l3⟩ := Val.lens v _ hb
  refine db_Item.F_in _ ?_
  intro v1 e1 v2 e2
  rw [ck_of (decide_eq_true (by omega)), Db.enc, ← e1, ← e2]
  by_cases a : v2 = 0
  · rw [decide_eq_true a, Bool.not_true, cond_false, if_neg (fun h => h a)]
    by_cases b : v.kind = 3
    · rw [decide_eq_true b, Bool.not_true, cond_false, if_neg (fun h => h b), ck_of (decide_eq_true (by omega))]; rfl
    · rw [decide_eq_false b, Bool.not_false, cond_true, if_pos b]; rfl
  · rw [decide_eq_false a, Bool.not_false, cond_true, if_pos a]; rfl
theorem ref28_Item.goal (v : Val) (hp : decide (Fld.bulk (Fld.of [] v) ≤ 1073741824) = true) : ref28_Item.F v = some [.ag (Itv.cells (Itm.val (Db.enc v).1)), .ag (Flt.cells (Db.enc v).2)] := by
  have hb := of_decide_eq_true hp
  obtain ⟨l1, l2, l3⟩ := Val.lens v _ hb
  refine ref28_Item.F_in _ ?_
  intro v1 e1 v2 e2
  rw [ck_of (decide_eq_true (by omega)), Db.enc, ← e1, ← e2]
  by_cases a : v2 = 0
  · rw [decide_eq_true a, Bool.not_true, cond_false, if_neg (fun h => h a)]
    by_cases b : v.kind = 3
    · rw [decide_eq_true b, Bool.not_true, cond_false, if_neg (fun h => h b), ck_of (decide_eq_true (by omega))]; rfl
    · rw [decide_eq_false b, Bool.not_false, cond_true, if_pos b]; rfl
  · rw [decide_eq_false a, Bool.not_false, cond_true, if_pos a]; rfl
end Go.Eng
namespace Go.Eng
open Go.IntWalk
theorem tag_ofInt (k : Int) : UInt64.ofInt (IntKind.i64.wrap (1000 + k)) = UInt64.ofInt (1000 + k) := u64_ofInt_wrap _
theorem Db.itemOf_tag (v : Val) (m l : List Itm) (h1 : v.kind ≠ 1 ∧ v.kind ≠ 2 ∧ v.kind ≠ 3 ∧ v.kind ≠ 6 ∧ v.kind ≠ 10 ∧ v.kind ≠ 8 ∧ v.kind ≠ 16) (h4 : ¬ (v.kind = 4 ∧ Tree.regular v.kids = true)) (h5 : ¬ (v.kind = 5 ∧ v.sub = 0)) : Db.itemOf v m l = .mk 7 (UInt64.ofInt (1000 + v.kind)) [] [] [Db.tagged v m] := by
  obtain ⟨a1, a2, a3, a6, a10, a8, a16⟩ := h1
  rw [Db.itemOf, if_neg a1, if_neg a2, if_neg a3, if_neg h4, if_neg h5, if_neg a6, if_neg a10, if_neg a8, if_neg a16]
theorem ref28_item.j3_ok (n : Nat) (x0 : Int) (x1 : Bool) (v : Val) (x3 : Itv) (hx : x0 = v.kind) (hb : Fld.bulks v.kids ≤ 1073741824) (hn : 2 * Fld.bulks v.kids + 2 < n) (h1 : x1 = decide (v.kind = 13 ∨ v.kind = 14))
    (hk : v.kind ≠ 1 ∧ v.kind ≠ 2 ∧ v.kind ≠ 3 ∧ v.kind ≠ 4 ∧ v.kind ≠ 5 ∧ v.kind ≠ 6 ∧ v.kind ≠ 10 ∧ v.kind ≠ 8 ∧ v.kind ≠ 7 ∧ ¬ (v.kind = 9 ∨ v.kind = 18) ∧ v.kind ≠ 11 ∧ v.kind ≠ 12) :
    ref28_item.j3 n x0 x1 v x3 = some [.ag (Itv.cells (Itm.val (Db.itemOf v (Db.mapped v.kids) (Db.items v.kids))))] := by
  obtain ⟨a1, a2, a3, a4, a5, a6, a10, a8, a7, a9, a11, a12⟩ := hk
  refine ref28_item.j3_in _ _ _ _ _ ?_
  intro v1 e1 v2 e2 v3 e3 v4 e4 v5 e5
  have T : v.kind ≠ 16 → Db.itemOf v (Db.mapped v.kids) (Db.items v.kids) = .mk 7 (UInt64.ofInt (1000 + v.kind)) [] [] [Db.tagged v (Db.mapped v.kids)] := fun a16 => Db.itemOf_tag v _ _ ⟨a1, a2, a3, a6, a10, a8, a16⟩ (fun h => a4 h.1) (fun h => a5 h.1)
  rw [h1, hx, tag_ofInt]
  by_cases a : v.kind = 13 ∨ v.kind = 14
  · rw [decide_eq_true a, cond_true, T (by omega), Db.tagged, if_neg a4, if_neg a5, if_neg a7, if_neg a9, if_neg a11, if_neg a12, if_pos a, Itm.of_val]
  rw [decide_eq_false a, cond_false]
  by_cases a15 : v.kind = 15
  · rw [decide_eq_true a15, cond_true, T (by omega), Db.tagged, if_neg a4, if_neg a5, if_neg a7, if_neg a9, if_neg a11, if_neg a12, if_neg a, if_pos a15, ck_of (by rw [decide_eq_true hb, decide_eq_true hn]; rfl), e1, Itm.of_val, Itm.of_val, Itm.of_val]
  rw [decide_eq_false a15, cond_false]
  by_cases a16 : v.kind = 16
  · rw [decide_eq_true a16, cond_true, Db.itemOf, if_neg a1, if_neg a2, if_neg a3, if_neg (fun h => a4 h.1), if_neg (fun h => a5 h.1), if_neg a6, if_neg a10, if_neg a8, if_pos a16, ck_of (decide_eq_true (i64_rng _)), e3, e2, i64_i32, i32_u32]; rfl
  rw [decide_eq_false a16, cond_false, T a16, Db.tagged, if_neg a4, if_neg a5, if_neg a7, if_neg a9, if_neg a11, if_neg a12, if_neg a, if_neg a15]
  by_cases a17 : v.kind = 17
  · rw [decide_eq_true a17, cond_true, if_pos a17]; rfl
  rw [decide_eq_false a17, cond_false, if_neg a17]
  by_cases a19 : v.kind = 19
  · rw [decide_eq_true a19, cond_true, if_pos a19, ck_of (by decide), ck_of (by decide), ck_of (big_ap (by rw [e4, e5, Cur.putHigh_len, Cur.putHigh_len]; decide) (by rw [e4, e5, Cur.putHigh_len, Cur.putHigh_len]; decide)), e4, e5, Itm.of_val]; rfl
  rw [decide_eq_false a19, cond_false, if_neg a19]; rfl
theorem ref28_item.j2_ok (n : Nat) (x0 : Int) (x1 : Bool) (v : Val) (x3 : Itv) (hx : x0 = v.kind) (hb : Fld.bulks v.kids ≤ 1073741824) (hn : 2 * Fld.bulks v.kids + 2 < n) (h1 : x1 = decide (v.kind = 9 ∨ v.kind = 18))
    (hk : v.kind ≠ 1 ∧ v.kind ≠ 2 ∧ v.kind ≠ 3 ∧ v.kind ≠ 4 ∧ v.kind ≠ 5 ∧ v.kind ≠ 6 ∧ v.kind ≠ 10 ∧ v.kind ≠ 8 ∧ v.kind ≠ 7) :
    ref28_item.j2 n x0 x1 v x3 = some [.ag (Itv.cells (Itm.val (Db.itemOf v (Db.mapped v.kids) (Db.items v.kids))))] := by
  obtain ⟨a1, a2, a3, a4, a5, a6, a10, a8, a7⟩ := hk
  refine ref28_item.j2_in _ _ _ _ _ ?_
  intro v1 e1 v2 e2 v3 e3
  have T : v.kind ≠ 16 → Db.itemOf v (Db.mapped v.kids) (Db.items v.kids) = .mk 7 (UInt64.ofInt (1000 + v.kind)) [] [] [Db.tagged v (Db.mapped v.kids)] := fun a16 => Db.itemOf_tag v _ _ ⟨a1, a2, a3, a6, a10, a8, a16⟩ (fun h => a4 h.1) (fun h => a5 h.1)
  rw [tag_ofInt]
  by_cases a : v.kind = 9 ∨ v.kind = 18
  · rw [h1, decide_eq_true a, cond_true, T (by omega), Db.tagged, if_neg a4, if_neg a5, if_neg a7, if_pos a, e1, ck_of (decide_eq_true (i64_rng _)), Itm.of_val]; rfl
  rw [h1, decide_eq_false a, cond_false, hx]
  by_cases a11 : v.kind = 11
  · rw [decide_eq_true a11, cond_true, T (by omega), Db.tagged, if_neg a4, if_neg a5, if_neg a7, if_neg a, if_pos a11, e2, Itm.of_val, Itm.of_val, Itm.of_val]
  rw [decide_eq_false a11, cond_false]
  by_cases a12 : v.kind = 12
  · rw [decide_eq_true a12, cond_true, T (by omega), Db.tagged, if_neg a4, if_neg a5, if_neg a7, if_neg a, if_neg a11, if_pos a12, e3, Itm.of_val, Itm.of_val, Itm.of_val]
  rw [decide_eq_false a12, cond_false]
  have J := fun b hb' => ref28_item.j3_ok n v.kind b v x3 rfl hb hn hb' ⟨a1, a2, a3, a4, a5, a6, a10, a8, a7, a, a11, a12⟩
  by_cases a13 : v.kind = 13
  · rw [decide_eq_true a13, cond_true]; exact J _ (by rw [decide_eq_true (.inl a13)])
  · rw [decide_eq_false a13, cond_false]; exact J _ (by simp [a13])
theorem ref28_item.goal (n : Nat) (v : Val) (hp : ((decide (Fld.bulk (Fld.of [] v) ≤ 1073741824)) && decide ((2 * Fld.bulk (Fld.of [] v) + 1) < n + 1)) = true) : ref28_item.F n v = some [.ag (Itv.cells (Itm.val (Db.item (Fld.of [] v))))] := by
  simp only [Bool.and_eq_true, decide_eq_true_eq] at hp
  obtain ⟨hb, hn⟩ := hp
  obtain ⟨l1, l2, l3⟩ := Val.lens v _ hb
  have hk : Fld.bulks v.kids < Fld.bulk (Fld.of [] v) := by simp only [Fld.of, Fld.bulk]; omega
  refine ref28_item.F_in _ _ ?_
  intro v1 e1 v2 e2 v3 e3
  rw [Db.item_of, tag_ofInt]
  by_cases a1 : v.kind = 1
  · rw [decide_eq_true a1, cond_true, Db.itemOf, if_pos a1]; rfl
  rw [decide_eq_false a1, cond_false]
  by_cases a2 : v.kind = 2
  · rw [decide_eq_true a2, cond_true, Db.itemOf, if_neg a1, if_pos a2]
  rw [decide_eq_false a2, cond_false]
  by_cases a3 : v.kind = 3
  · rw [decide_eq_true a3, cond_true, Db.itemOf, if_neg a1, if_neg a2, if_pos a3, ck_of (by rw [decide_eq_true (show Fld.bulks v.kids ≤ 1073741824 by omega), decide_eq_true (show 2 * Fld.bulks v.kids + 2 < n by omega)]; rfl)]
  rw [decide_eq_false a3, cond_false]
  by_cases a4 : v.kind = 4
  · rw [decide_eq_true a4, cond_true, ck_of (decide_eq_true (by omega)), e1]
    by_cases r : Tree.regular v.kids = true
    · rw [r, Bool.not_true, cond_false, Db.itemOf, if_neg a1, if_neg a2, if_neg a3, if_pos ⟨a4, r⟩]
      have := ref28_item.l1_ok n v (by omega) (by omega) (Itv.mk 0 0 [] [] []) v.kids.length 0 [] (by omega) (by simp only [List.length_nil]; omega)
      rw [List.drop_zero, List.nil_append] at this
      exact this
    · rw [Bool.eq_false_iff.2 r, Bool.not_false, cond_true, ck_of (by rw [decide_eq_true (show Fld.bulks v.kids ≤ 1073741824 by omega), decide_eq_true (show 2 * Fld.bulks v.kids + 2 < n by omega)]; rfl), Db.itemOf_tag v _ _ ⟨a1, a2, a3, by omega, by omega, by omega, by omega⟩ (fun h => r h.2) (by omega), Db.tagged, if_pos a4, Itm.of_val]
  rw [decide_eq_false a4, cond_false]
  by_cases a5 : v.kind = 5
  · rw [decide_eq_true a5, cond_true]
    by_cases r : v.sub = 0
    · rw [decide_eq_true r, cond_true, Db.itemOf, if_neg a1, if_neg a2, if_neg a3, if_neg (fun h => a4 h.1), if_pos ⟨a5, r⟩]
    · rw [decide_eq_false r, cond_false, Db.itemOf_tag v _ _ ⟨a1, a2, a3, by omega, by omega, by omega, by omega⟩ (fun h => a4 h.1) (fun h => r h.2), Db.tagged, if_neg a4, if_pos a5, e2, Itm.of_val, Itm.of_val]; rfl
  rw [decide_eq_false a5, cond_false]
  by_cases a6 : v.kind = 6
  · rw [decide_eq_true a6, cond_true, Db.itemOf, if_neg a1, if_neg a2, if_neg a3, if_neg (fun h => a4 h.1), if_neg (fun h => a5 h.1), if_pos a6]; rfl
  rw [decide_eq_false a6, cond_false]
  by_cases a10 : v.kind = 10
  · rw [decide_eq_true a10, cond_true, Db.itemOf, if_neg a1, if_neg a2, if_neg a3, if_neg (fun h => a4 h.1), if_neg (fun h => a5 h.1), if_neg a6, if_pos a10]; rfl
  rw [decide_eq_false a10, cond_false]
  by_cases a8 : v.kind = 8
  · rw [decide_eq_true a8, cond_true, Db.itemOf, if_neg a1, if_neg a2, if_neg a3, if_neg (fun h => a4 h.1), if_neg (fun h => a5 h.1), if_neg a6, if_neg a10, if_pos a8, e3]; rfl
  rw [decide_eq_false a8, cond_false]
  by_cases a7 : v.kind = 7
  · rw [decide_eq_true a7, cond_true, Db.itemOf_tag v _ _ ⟨a1, a2, a3, a6, a10, a8, by omega⟩ (fun h => a4 h.1) (fun h => a5 h.1), Db.tagged, if_neg a4, if_neg a5, if_pos a7, Itm.of_val]
  rw [decide_eq_false a7, cond_false]
  have J := fun b hb' => ref28_item.j2_ok n v.kind b v (Itv.mk 0 0 [] [] []) rfl (by omega) (by omega) hb' ⟨a1, a2, a3, a4, a5, a6, a10, a8, a7⟩
  by_cases a9 : v.kind = 9
  · rw [decide_eq_true a9, cond_true]; exact J _ (by rw [decide_eq_true (.inl a9)])
  · rw [decide_eq_false a9, cond_false]; exact J _ (by simp [a9])
end Go.Eng
namespace Go.Eng
open Go.IntWalk
theorem cb_fields.j2_ok (a : Int) (ok : Bool) (it : Itv) : cb_fields.j2 a ok it = some [.b (ok && decide (it.n = 0) && decide (it.bytes = []) && decide (it.text = []) && decide (a = 0))] := by
  refine cb_fields.j2_in _ _ _ ?_
  intro v1 e1 v2 e2 v3 e3 v4 e4 v5 e5
  simp only [Bool.not_or_self, ck_true]
  rw [e5, e4, e3, e2, e1]
  cases ok <;> simp [Bool.cond_false_right]
theorem cb_fields.goal (it : Itv) (hp : decide (Itm.bulk (Itm.of it) ≤ 1099511627776) = true) : cb_fields.F it = some [.b (Cb.fieldsOK (Itm.of it))] := by
  obtain ⟨k, n, b, t, ks⟩ := it
  refine cb_fields.F_in _ ?_
  intro v1 e1
  simp only at e1
  have hl : ((ks.length : Int) = 0) = (ks = []) := by simp
  have hmod : Int.tmod (ks.length : Int) 2 = ((ks.length % 2 : Nat) : Int) := rfl
  have key : ∀ x4 : Bool, x4 = decide (k = 1 ∨ k = 2 ∨ k = 9) → cb_fields.j1 v1 true k x4 ⟨k, n, b, t, ks⟩ = some [.b (Cb.fieldsOK (Itm.of ⟨k, n, b, t, ks⟩))] := by
    intro x4 hx
    refine cb_fields.j1_in _ _ _ _ _ ?_
    intro u1 f1
    simp only at f1
    simp only [Bool.not_or_self, ck_true]
    subst e1
    simp only [Cb.fieldsOK, Itm.of]
    by_cases k1 : k = 1 ∨ k = 2 ∨ k = 9
    · rw [hx, decide_eq_true k1, cond_true, cb_fields.j2_ok]
      rcases k1 with rfl | rfl | rfl <;> simp [hl, Bool.and_assoc]
    rw [hx, decide_eq_false k1, cond_false]
    by_cases k3 : k = 3
    · subst k3; rw [decide_eq_true rfl, cond_true, cb_fields.j2_ok]
      simp [hl, Bool.and_assoc]
    rw [decide_eq_false k3, cond_false]
    by_cases k4 : k = 4
    · subst k4; rw [decide_eq_true rfl, cond_true, cb_fields.j2_ok]
      simp [hl, Bool.and_assoc]
    rw [decide_eq_false k4, cond_false]
    by_cases k5 : k = 5
    · subst k5; rw [decide_eq_true rfl, cond_true, cb_fields.j2_ok]
      simp [hl, Bool.and_assoc]
    rw [decide_eq_false k5, cond_false]
    by_cases k6 : k = 6
    · subst k6; rw [decide_eq_true rfl, cond_true, ck_of (by decide), cb_fields.j2_ok, hmod]
      rw [show decide (((ks.length % 2 : Nat) : Int) = 0) = decide (ks.length % 2 = 0) from decide_eq_decide.2 (by omega)]
      by_cases a : ks.length % 2 = 0 <;> by_cases c : n = 0 <;> by_cases d : b = [] <;> by_cases e : t = [] <;> simp [a, c, d, e]
    rw [decide_eq_false k6, cond_false]
    by_cases k7 : k = 7
    · subst k7; rw [decide_eq_true rfl, cond_true, cb_fields.j2_ok]
      rw [show decide ((ks.length : Int) = 1) = decide (ks.length = 1) from decide_eq_decide.2 (by omega)]
      by_cases a : ks.length = 1 <;> by_cases d : b = [] <;> by_cases e : t = [] <;> simp [a, d, e]
    rw [decide_eq_false k7, cond_false]
    by_cases k8 : k = 8
    · subst k8; rw [decide_eq_true rfl, cond_true, cb_fields.j2_ok, f1]
      by_cases a : 20 ≤ n <;> by_cases c : n ≤ 23 <;> by_cases d : b = [] <;> by_cases e : t = [] <;> by_cases f : ks = [] <;> simp [a, c, d, e, f]
    rw [decide_eq_false k8, cond_false, cb_fields.j2_ok]
    simp only [not_or] at k1
    by_cases c : n = 0 <;> by_cases d : b = [] <;> by_cases e : t = [] <;> by_cases f : ks = [] <;> simp [c, d, e, f, k1.1, k1.2.1, k1.2.2, k3, k4, k5, k6, k7, k8]
  by_cases k1 : k = 1
  · rw [decide_eq_true k1, cond_true]; exact key _ (by simp [k1])
  rw [decide_eq_false k1, cond_false]
  by_cases k2 : k = 2
  · rw [decide_eq_true k2, cond_true]; exact key _ (by simp [k2])
  rw [decide_eq_false k2, cond_false]
  exact key _ (by simp [k1, k2])
theorem Cb.own_eq (it : Itv) : Cb.own (Itm.of it) = if it.kind < 1 ∨ 9 < it.kind then 5 else if Cb.fieldsOK (Itm.of it) = false then 1 else if Utf.whole it.text then 0 else 4 := by
  obtain ⟨k, n, b, t, ks⟩ := it
  simp only [Cb.own, Cb.fieldsOK, Itm.of]
  by_cases h0 : k < 1 ∨ 9 < k
  · rw [if_pos h0, if_pos h0]
  rw [if_neg h0, if_neg h0]
  have hk : k = 1 ∨ k = 2 ∨ k = 3 ∨ k = 4 ∨ k = 5 ∨ k = 6 ∨ k = 7 ∨ k = 8 ∨ k = 9 := by omega
  rcases hk with rfl | rfl | rfl | rfl | rfl | rfl | rfl | rfl | rfl <;> simp <;> grind
theorem Cb.chks_at : ∀ (ks : List Itm) (i : Nat), i < ks.length → Cb.chks (ks.drop i) = if Cb.chk (ks.getD i (STy.dflt .il)) = 0 then Cb.chks (ks.drop (i + 1)) else Cb.chk (ks.getD i (STy.dflt .il)) := by
  intro ks i h
  rw [drop_cons h (STy.dflt .il), Cb.chks]
theorem cb_Check.l1_ok (n : Nat) (ks : List Itm) (hb : Itm.bulks ks ≤ 1099511627776) (hn : Itm.bulks ks < n) : ∀ (m i : Nat), i + m = ks.length → cb_Check.l1 n ks (ks.length : Int) i = some [.i .i64 (Cb.chks (ks.drop i))] := by
  have hk := Itm.bulk_kids ks
  intro m
  induction m with
  | zero =>
    intro i hi
    refine cb_Check.l1_in _ _ _ _ ?_
    intro v1 e1 v2 e2
    rw [decide_eq_false (by omega), cond_false, List.drop_of_length_le (by omega)]; rfl
  | succ m ih =>
    intro i hi
    refine cb_Check.l1_in _ _ _ _ ?_
    intro v1 e1 v2 e2
    have hi' : i < ks.length := by omega
    have hb' := Itm.bulks_at ks i hi'
    rw [Int.toNat_natCast, Itm.of_val] at e1
    rw [decide_eq_true (by omega), cond_true, ck_of (idx_ok (by omega) (by omega)), Int.toNat_natCast, Itm.of_val, ck_of (by rw [decide_eq_true (by omega), decide_eq_true (by omega)]; rfl), Cb.chks_at ks i hi', ← e1]
    by_cases a : v1 = 0
    · rw [decide_eq_true a, Bool.not_true, cond_false, if_pos a, show v2 = ((i + 1 : Nat) : Int) by rw [e2, i64_in _ (by omega)]; omega, ih _ (by omega)]
    · rw [decide_eq_false a, Bool.not_false, cond_true, if_neg a]
theorem Cb.chk_of (it : Itv) : Cb.chk (Itm.of it) = if Cb.own (Itm.of it) = 0 then Cb.chks it.kids else Cb.own (Itm.of it) := by rw [Itm.of, Cb.chk]
theorem cb_Check.goal (n : Nat) (it : Itv) (hp : ((decide (Itm.bulk (Itm.of it) ≤ 1099511627776)) && decide ((Itm.bulk (Itm.of it)) < n + 1)) = true) : cb_Check.F n it = some [.i .i64 (Cb.chk (Itm.of it))] := by
  simp only [Bool.and_eq_true, decide_eq_true_eq] at hp
  obtain ⟨h, hn⟩ := hp
  rw [Itm.bulk_of] at h hn
  refine cb_Check.F_in _ _ ?_
  intro v1 e1 v2 e2 v3 e3 v4 e4
  simp only [Bool.not_or_self, Bool.or_not_self, ck_true]
  rw [ck_of (decide_eq_true (by rw [Itm.bulk_of]; omega)), ck_of (big_len (by omega)), ck_of (decide_eq_true (by omega)), e4, e3]
  have hl := cb_Check.l1_ok n it.kids (by omega) (by omega) it.kids.length 0 (by omega)
  rw [show cb_Check.l1 n it.kids (it.kids.length : Int) 0 = some [.i .i64 (Cb.chks it.kids)] from hl, Cb.chk_of, Cb.own_eq]
  have hv : v1 = decide (it.kind < 1 ∨ 9 < it.kind) := by
    rw [e1]
    by_cases a : it.kind < 1 <;> by_cases b : 9 < it.kind <;> simp [a, b]
  rw [hv]
  by_cases h0 : it.kind < 1 ∨ 9 < it.kind
  · rw [decide_eq_true h0, cond_true, if_pos h0]; rfl
  rw [decide_eq_false h0, cond_false, if_neg h0]
  cases hf : Cb.fieldsOK (Itm.of it) with
  | false => rfl
  | true =>
    cases hw : Utf.whole it.text <;> rfl
end Go.Eng
namespace Go.Eng
open Go.IntWalk
theorem db_none.goal (path : List Int) (hp : decide (path.length ≤ 1099511627776) = true) : db_none.F path = some [.ag (Flt.cells (Flt.mk 12 0 path)), .sl .is path] := by
  have := of_decide_eq_true hp
  rw [db_none.F_eq, ck_of (big_ap (by omega) (by omega))]; rfl
theorem n63 {n : UInt64} (h : ¬ (9223372036854775808 : UInt64) ≤ n) : n.toNat < 9223372036854775808 := UInt64.lt_iff_toNat_lt.1 (UInt64.not_le.1 h)
theorem Db.number_of (it : Itv) : Db.number (Itm.of it) = if 9223372036854775808 ≤ it.n then none else if it.kind = 1 then some (it.n.toNat : Int) else if it.kind = 2 then some (-1 - (it.n.toNat : Int)) else none := rfl
theorem db_number.goal (it : Itv) : db_number.F it = some [.i .i64 ((Db.number (Itm.of it)).getD 0), .b (Db.number (Itm.of it)).isSome] := by
  refine db_number.F_in _ ?_
  intro v1 h1 v2 h2
  rw [Db.number_of]
  by_cases a : 9223372036854775808 ≤ it.n
  · rw [decide_eq_true a, cond_true, if_pos a]; rfl
  have hn := n63 a
  have e1 : v1 = (it.n.toNat : Int) := by rw [h1, i64_in _ (by omega)]
  rw [decide_eq_false a, cond_false, if_neg a]
  by_cases b : it.kind = 1
  · rw [decide_eq_true b, cond_true, if_pos b, e1]; rfl
  rw [decide_eq_false b, cond_false, if_neg b]
  by_cases c : it.kind = 2
  · rw [decide_eq_true c, cond_true, if_pos c, h2, e1, i64_in _ (by omega)]; rfl
  rw [decide_eq_false c, cond_false, if_neg c]; rfl
theorem Db.numberI_eq (it : Itm) (h : (Db.number it).isSome = true) : Db.numberI it = (Db.number it).getD 0 := by
  unfold Db.number Db.numberI at *
  by_cases a : 9223372036854775808 ≤ it.n
  · rw [if_pos a] at h; cases h
  rw [if_neg a] at h ⊢
  rw [if_neg a]
  by_cases b : it.kind = 1
  · rw [if_pos b, if_neg (by omega)]; rfl
  rw [if_neg b] at h ⊢
  by_cases c : it.kind = 2
  · rw [if_pos c, if_pos c]; rfl
  rw [if_neg c] at h; cases h
theorem db_kinds.goal (it : Itv) (a b : Int) : db_kinds.F it a b = some [.b (Db.kinds (Itm.of it) a b)] := by
  refine db_kinds.F_in _ _ _ ?_
  intro v1 h1 v2 h2 v3 h3 v4 h4 v5 h5 v6 h6
  have e2 : v2 = decide (it.kind = 5 ∧ it.kids.length = 2) := by
    rw [h2, h1, show decide ((it.kids.length : Int) = 2) = decide (it.kids.length = 2) from decide_eq_decide.2 (by omega)]
    by_cases x : it.kind = 5 <;> simp [x]
  have ek : Db.kinds (Itm.of it) a b = decide (it.kind = 5 ∧ it.kids.length = 2 ∧ v3 = a ∧ v5 = b) := by rw [h3, h5]; rfl
  rw [ek]
  by_cases c : it.kind = 5 ∧ it.kids.length = 2
  · have i0 : idxOK (0 : Int) it.kids.length = true := idx_ok (by omega) (by omega)
    have i1 : idxOK (1 : Int) it.kids.length = true := idx_ok (by omega) (by omega)
    have hv2 : v2 = true := by rw [e2]; exact decide_eq_true c
    simp only [i0, i1, Bool.and_true, Bool.not_or_self, Bool.and_self, ck_true]
    congr 3
    rw [h6, h4, hv2]
    by_cases x : v3 = a <;> by_cases y : v5 = b <;> simp [x, y, c.1, c.2]
  · have hv2 : v2 = false := by rw [e2]; exact decide_eq_false c
    have hv4 : v4 = false := by rw [h4, hv2]; rfl
    have hv6 : v6 = false := by rw [h6, hv4]; rfl
    rw [decide_eq_false (show ¬ (it.kind = 5 ∧ it.kids.length = 2 ∧ v3 = a ∧ v5 = b) from fun h => c ⟨h.1, h.2.1⟩), hv2, hv4, hv6]
    simp only [Bool.not_or_self, Bool.not_false, Bool.true_or, ck_true]
end Go.Eng
namespace Go.Eng
open Go.IntWalk
theorem Db.regularFrom_cons (j : Nat) (k : Itm) (r : List Itm) : Db.regularFrom j (k :: r) = (decide (k.kind = 4 ∧ k.text = digs j) && Db.regularFrom (j + 1) (r.drop 1)) := by
  cases r with
  | nil => simp [Db.regularFrom]
  | cons x r => rw [Db.regularFrom]; rfl
theorem db_regular.l1_ok (l : List Itm) (hb : l.length ≤ 1099511627776) : ∀ (m j : Nat), l.length ≤ 2 * j + m → db_regular.l1 l ((2 * j : Nat) : Int) = some [.b (Db.regularFrom j (l.drop (2 * j)))] := by
  intro m
  induction m using Nat.strongRecOn with
  | _ m ih =>
  intro j hj
  refine db_regular.l1_in _ _ ?_
  intro v1 h1 v2 h2 v3 h3 v4 h4 v5 h5 v6 h6
  by_cases a : 2 * j < l.length
  · rw [Int.toNat_natCast] at h1 h3
    have e4 : v4 = (j : Int) := by
      rw [h4, show Int.tdiv ((2 * j : Nat) : Int) 2 = (j : Int) by rw [Int.tdiv_eq_ediv_of_nonneg (by omega)]; omega, i64_in _ (by omega)]
    have hi : idxOK ((2 * j : Nat) : Int) l.length = true := idx_ok (by omega) (by omega)
    have hr : decide (-9223372036854775808 ≤ v4 ∧ v4 ≤ 9223372036854775807) = true := decide_eq_true (by omega)
    have h2' : v2 = decide (v1 = 4) := by rw [h2, Bool.not_not]
    rw [drop_cons a (STy.dflt .il), Db.regularFrom_cons, ← h1, ← h3, List.drop_drop]
    simp only [hi, hr, show (!decide ((2 : Int) = 0)) = true from rfl, Bool.and_true, Bool.not_or_self, Bool.and_self, ck_true]
    rw [decide_eq_true (by omega), cond_true, ck_of (by rw [h2']; cases decide (v1 = 4) <;> rfl), h5, e4, itoa_nat]
    by_cases x : v1 = 4
    · by_cases y : v3 = digs j
      · rw [decide_eq_true x, decide_eq_true y, decide_eq_true (show v1 = 4 ∧ v3 = digs j from ⟨x, y⟩), Bool.true_and]
        simp only [Bool.not_true, cond_false]
        rw [h6, i64_in _ (by omega), show ((2 * j : Nat) : Int) + 2 = ((2 * (j + 1) : Nat) : Int) by omega, ih (m - 1) (by omega) (j + 1) (by omega), show 2 * (j + 1) = 2 * j + 1 + 1 by omega]
      · rw [decide_eq_true x, decide_eq_false y, decide_eq_false (show ¬ (v1 = 4 ∧ v3 = digs j) from fun h => y h.2)]; rfl
    · rw [decide_eq_false x, decide_eq_false (show ¬ (v1 = 4 ∧ v3 = digs j) from fun h => x h.1)]; rfl
  · rw [decide_eq_false (by omega), cond_false, List.drop_of_length_le (by omega)]; rfl
theorem db_regular.goal (l : List Itm) (hp : decide (l.length ≤ 1099511627776) = true) : db_regular.F l = some [.b (Db.regular l)] := by
  rw [db_regular.F_eq]
  exact db_regular.l1_ok l (of_decide_eq_true hp) l.length 0 (by omega)
end Go.Eng
namespace Go.Eng
open Go.IntWalk
theorem tag_kind {n : UInt64} (h : ¬ (n < 1000 ∨ 1255 < n)) : 1000 ≤ n.toNat ∧ n.toNat ≤ 1255 ∧ IntKind.i64.wrap ((n - 1000).toNat : Int) = (n.toNat : Int) - 1000 ∧ ∀ (m : Int) (u : UInt64), (u.toNat : Int) = m + 1000 → decide ((n.toNat : Int) - 1000 = m) = decide (n = u) := by
  have h1 : 1000 ≤ n.toNat := Nat.le_of_not_lt fun q => h (.inl (UInt64.lt_iff_toNat_lt.2 q))
  have h2 : n.toNat ≤ 1255 := Nat.le_of_not_lt fun q => h (.inr (UInt64.lt_iff_toNat_lt.2 q))
  have e : (n - 1000).toNat = n.toNat - 1000 := UInt64.toNat_sub_of_le _ _ (UInt64.le_iff_toNat_le.2 h1)
  refine ⟨h1, h2, by rw [e, i64_in _ (by omega)]; omega, fun m u hu => decide_eq_decide.2 ?_⟩
  rw [← UInt64.toNat_inj]; omega
theorem two_lens (it : Itv) (a b : Int) (h : Db.kinds (Itm.of it) a b = true) : idxOK (0 : Int) it.kids.length = true ∧ idxOK (1 : Int) it.kids.length = true := by
  have := of_decide_eq_true h
  have h2 : it.kids.length = 2 := this.2.1
  exact ⟨idx_ok (by omega) (by omega), idx_ok (by omega) (by omega)⟩
theorem kid_lens (it : Itv) (i : Nat) (m : Nat) (h : Itm.bulk (Itm.of it) ≤ m) (hi : i < it.kids.length) : (it.kids.getD i (STy.dflt .il)).text.length ≤ m ∧ (it.kids.getD i (STy.dflt .il)).bytes.length ≤ m := by
  rw [Itm.bulk_of] at h
  have h2 := Itm.bulks_at it.kids i hi
  generalize it.kids.getD i (STy.dflt .il) = x at h2 ⊢
  obtain ⟨k, n, b, t, ks⟩ := x
  simp only [Itm.bulk, Itm.text, Itm.bytes] at h2 ⊢; omega
theorem contains_two (a b : Str) : decide (0 ≤ Lib.indexByte (a ++ b) (([0] : Str).getD 0 0)) = (Utf.zero a || Utf.zero b) := by
  have e : decide (0 ≤ Lib.indexByte (a ++ b) (([0] : Str).getD 0 0)) = (a ++ b).contains 0 := indexByte_contains 0 _
  rw [e]
  unfold Utf.zero
  rw [Bool.eq_iff_iff]; simp
theorem be_take_succ (b : Str) (i : Nat) (h : i < b.length) : Cur.be (b.take (i + 1)) = shl64 (Cur.be (b.take i)) 8 ||| UInt64.ofInt ((b.getD i 0).toNat : Int) := by
  rw [be_step, List.take_succ_eq_append_getElem h, Cur.be_snoc, List.getD_eq_getElem?_getD, List.getElem?_eq_getElem h]; rfl
theorem db_small.l4_ok (b : Str) (hb : b.length = 16) (x4 : Val) : ∀ (m i : Nat) (v : Val), i + m = 16 → v.high = Cur.be (b.take (min i 8)) → v.low = Cur.be ((b.drop 8).take (i - 8)) →
    db_small.l4 true b 16 i x4 v = some [.ag (Val.cells { v with high := Cur.be (b.take 8), low := Cur.be (b.drop 8) }), .b true] := by
  intro m
  induction m with
  | zero =>
    intro i v hi hh hl
    refine db_small.l4_in _ _ _ _ _ _ ?_
    intro v1 h1 v2 h2 v3 h3 v4 h4
    rw [decide_eq_false (by omega), cond_false, db_small.j1_eq]
    rw [show min i 8 = 8 by omega] at hh
    rw [show i - 8 = 8 by omega, List.take_of_length_le (by rw [List.length_drop]; omega)] at hl
    rw [← hh, ← hl]
  | succ m ih =>
    intro i v hi hh hl
    refine db_small.l4_in _ _ _ _ _ _ ?_
    intro v1 h1 v2 h2 v3 h3 v4 h4
    rw [Int.toNat_natCast] at h1
    rw [decide_eq_true (by omega), cond_true, ck_of (idx_ok (by omega) (by omega))]
    have h8 : ((8 : UInt64)).toNat = 8 := rfl
    by_cases a : i < 8
    · rw [decide_eq_true (by omega), cond_true]
      refine db_small.j5_in _ _ _ _ _ _ ?_
      intro u1 f1
      have e : v2 ||| v3 = Cur.be (b.take (i + 1)) := by rw [h2, h3, h1, hh, h8, show min i 8 = i by omega, be_take_succ b i (by omega)]
      rw [f1, i64_in _ (by omega), show (i : Int) + 1 = ((i + 1 : Nat) : Int) by omega, ih (i + 1) _ (by omega) (by rw [show min (i + 1) 8 = i + 1 by omega]; exact e) (by rw [show i + 1 - 8 = i - 8 by omega]; exact hl)]
    · rw [decide_eq_false (by omega), cond_false]
      refine db_small.j5_in _ _ _ _ _ _ ?_
      intro u1 f1
      have e : v4 ||| v3 = Cur.be ((b.drop 8).take (i + 1 - 8)) := by
        rw [h4, h3, h1, hl, h8, show i + 1 - 8 = (i - 8) + 1 by omega, be_take_succ _ (i - 8) (by rw [List.length_drop]; omega)]
        rw [List.getD_eq_getElem?_getD, List.getD_eq_getElem?_getD, List.getElem?_drop, show 8 + (i - 8) = i by omega]
      rw [f1, i64_in _ (by omega), show (i : Int) + 1 = ((i + 1 : Nat) : Int) by omega, ih (i + 1) _ (by omega) (by rw [show min (i + 1) 8 = min i 8 by omega]; exact hh) e]
section
variable {n : UInt64} {it : Itv} {z : Val}
theorem db_small.j3_ok (x2 : Bool) (hn : ¬ (n < 1000 ∨ 1255 < n)) (h2 : x2 = decide (n = 1013 ∨ n = 1014)) (a5 : n ≠ 1005) (a7 : n ≠ 1007) (a9 : ¬ (n = 1009 ∨ n = 1018)) (a11 : n ≠ 1011) (a12 : n ≠ 1012) :
    db_small.j3 false ((n.toNat : Int) - 1000) x2 it z (Db.doc ((n.toNat : Int) - 1000) []) = some [.ag (Val.cells (Db.smallV n (Itm.of it)).1), .b (Db.smallV n (Itm.of it)).2] := by
  obtain ⟨_, _, _, E⟩ := tag_kind hn
  refine db_small.j3_in _ _ _ _ _ _ ?_
  intro v1 h1 v2 e2
  simp only [Bool.not_or_self, ck_true]
  rw [Db.smallV, if_neg hn, if_neg a5, if_neg a7, if_neg a9, if_neg a11, if_neg a12, h2, E 17 1017 rfl, E 19 1019 rfl, E 255 1255 rfl, E 127 1127 rfl]
  by_cases a : n = 1013 ∨ n = 1014
  · rw [decide_eq_true a, cond_true, if_pos a, db_small.j1_eq]; rfl
  rw [decide_eq_false a, cond_false, if_neg a]
  by_cases a : n = 1017
  · subst a
    rw [decide_eq_true rfl, cond_true, if_pos rfl, db_small.j1_eq]; rfl
  rw [decide_eq_false a, cond_false, if_neg a]
  by_cases a : n = 1019
  · subst a
    rw [decide_eq_true rfl, cond_true, if_pos rfl]
    have hv : v2 = decide (it.kind = 3 ∧ it.bytes.length = 16) := by
      rw [e2, h1, show decide ((it.bytes.length : Int) = 16) = decide (it.bytes.length = 16) from decide_eq_decide.2 (by omega)]
      by_cases x : it.kind = 3 <;> simp [x]
    by_cases c : it.kind = 3 ∧ it.bytes.length = 16
    · rw [hv, decide_eq_true c, cond_true, if_pos (show (Itm.of it).kind = 3 ∧ (Itm.of it).bytes.length = 16 from c), h1, c.2]
      exact db_small.l4_ok it.bytes c.2 z 16 0 _ (by omega) rfl rfl
    · rw [hv, decide_eq_false c, cond_false, if_neg (show ¬ ((Itm.of it).kind = 3 ∧ (Itm.of it).bytes.length = 16) from c), db_small.j1_eq]; rfl
  rw [decide_eq_false a, cond_false, if_neg a]
  have J : ∀ b : Bool, b = decide (n = 1127 ∨ n = 1255) → db_small.j6 false b it z (Db.doc ((n.toNat : Int) - 1000) []) = some [.ag (Val.cells (if n = 1127 ∨ n = 1255 then (Db.doc ((n.toNat : Int) - 1000) [], decide ((Itm.of it).kind = 8 ∧ (Itm.of it).n = 22)) else (Db.doc ((n.toNat : Int) - 1000) [], false)).1), .b (if n = 1127 ∨ n = 1255 then (Db.doc ((n.toNat : Int) - 1000) [], decide ((Itm.of it).kind = 8 ∧ (Itm.of it).n = 22)) else (Db.doc ((n.toNat : Int) - 1000) [], false)).2] := by
    intro b hb
    refine db_small.j6_in _ _ _ _ _ ?_
    intro u1 f1
    simp only [Bool.not_or_self, ck_true]
    by_cases c : n = 1127 ∨ n = 1255
    · rw [hb, decide_eq_true c, cond_true, if_pos c, db_small.j1_eq]
      have : u1 = decide ((Itm.of it).kind = 8 ∧ (Itm.of it).n = 22) := by
        rw [f1]
        show _ = decide (it.kind = 8 ∧ it.n = 22)
        by_cases x : it.kind = 8 <;> simp [x]
      rw [this]
    · rw [hb, decide_eq_false c, cond_false, if_neg c, db_small.j1_eq]
  by_cases c : n = 1255
  · rw [decide_eq_true c, cond_true]; exact J _ (by rw [decide_eq_true (.inr c)])
  · rw [decide_eq_false c, cond_false]; exact J _ (by simp [c])
theorem db_small.j2_ok (x2 : Bool) (hb : Itm.bulk (Itm.of it) ≤ 1099511627776) (hn : ¬ (n < 1000 ∨ 1255 < n)) (h2 : x2 = decide (n = 1009 ∨ n = 1018)) (a5 : n ≠ 1005) (a7 : n ≠ 1007) :
    db_small.j2 false ((n.toNat : Int) - 1000) x2 it z (Db.doc ((n.toNat : Int) - 1000) []) = some [.ag (Val.cells (Db.smallV n (Itm.of it)).1), .b (Db.smallV n (Itm.of it)).2] := by
  obtain ⟨_, _, _, E⟩ := tag_kind hn
  refine db_small.j2_in _ _ _ _ _ _ ?_
  intro v1 h1 v2 e2 v3 h3 v4 h4 v5 h5 v6 h6 v7 h7 v8 h8 v9 h9
  rw [E 11 1011 rfl, E 12 1012 rfl, E 13 1013 rfl, E 14 1014 rfl, h2]
  by_cases a9 : n = 1009 ∨ n = 1018
  · rw [decide_eq_true a9, cond_true, db_small.j1_eq, Db.smallV, if_neg hn, if_neg a5, if_neg a7, if_pos a9, e2, h1]; rfl
  rw [decide_eq_false a9, cond_false]
  have f0 : v4 = (Db.fst (Itm.of it)).text := h4
  have f1 : v5 = (Db.snd (Itm.of it)).text := h5
  have f8 : v8 = (Db.snd (Itm.of it)).bytes := h8
  by_cases a11 : n = 1011
  · subst a11
    rw [decide_eq_true rfl, cond_true, Db.smallV, if_neg (by decide), if_neg (by decide), if_neg (by decide), if_neg (by decide), if_pos rfl]
    have h6' : v6 = (v3 && !(Utf.zero v4 || Utf.zero v5)) := by rw [h6, contains_two]; cases v3 <;> rfl
    cases hk : v3 with
    | false =>
      rw [hk] at h3
      have : v6 = false := by rw [h6', hk]; rfl
      simp only [hk, this, Bool.not_false, Bool.true_or, ck_true]
      rw [if_neg (fun h => by rw [← h3] at h; exact absurd h.1 (by decide)), cond_false, db_small.j1_eq]; rfl
    | true =>
      rw [hk] at h3
      obtain ⟨i0, i1⟩ := two_lens it 4 4 h3.symm
      have l2 : it.kids.length = 2 := (of_decide_eq_true h3.symm).2.1
      have t0 := (kid_lens it 0 _ hb (by omega)).1
      have t1 := (kid_lens it 1 _ hb (by omega)).1
      have q0 : v4.length ≤ 1099511627776 := by rw [h4]; exact t0
      have q1 : v5.length ≤ 1099511627776 := by rw [h5]; exact t1
      simp only [i0, i1, Bool.and_true, Bool.and_self, Bool.not_or_self, ck_true, Bool.true_and, show decide ((([0] : Str)).length = 1) = true from rfl]
      rw [ck_of (by rw [decide_eq_true (show v4.length + v5.length ≤ 9223372036854775807 by omega)]; cases v3 <;> rfl)]
      have e6 : v6 = (!(Utf.zero v4 || Utf.zero v5)) := by rw [h6', hk]; rfl
      rw [← h3, ← f0, ← f1]
      cases z0 : Utf.zero v4 <;> cases z1 : Utf.zero v5 <;> rw [e6, z0, z1] <;> simp [db_small.j1_eq, Db.doc]
  rw [decide_eq_false a11, cond_false]
  by_cases a12 : n = 1012
  · subst a12
    rw [decide_eq_true rfl, cond_true, Db.smallV, if_neg (by decide), if_neg (by decide), if_neg (by decide), if_neg (by decide), if_neg (by decide), if_pos rfl]
    have h9' : v9 = (v7 && decide (v8.length = 12)) := by rw [h9, show decide ((v8.length : Int) = 12) = decide (v8.length = 12) from decide_eq_decide.2 (by omega)]; cases v7 <;> rfl
    cases hk : v7 with
    | false =>
      rw [hk] at h7
      have : v9 = false := by rw [h9', hk]; rfl
      simp only [hk, this, Bool.not_false, Bool.true_or, ck_true]
      rw [if_neg (fun h => by rw [← h7] at h; exact absurd h.1 (by decide)), cond_false, db_small.j1_eq]; rfl
    | true =>
      rw [hk] at h7
      obtain ⟨i0, i1⟩ := two_lens it 4 3 h7.symm
      have l2 : it.kids.length = 2 := (of_decide_eq_true h7.symm).2.1
      have t1 := (kid_lens it 1 _ hb (by omega)).2
      have q1 : v8.length ≤ 1099511627776 := by rw [h8]; exact t1
      simp only [i0, i1, Bool.and_true, Bool.and_self, Bool.not_or_self, ck_true, Bool.true_and]
      rw [ck_of (big_ap (n := v8.length) (b := 1) (by omega) (by omega)), ← h7, ← f0, ← f8]
      have e9 : v9 = decide (v8.length = 12) := by rw [h9', hk]; rfl
      by_cases c : v8.length = 12
      · rw [e9, decide_eq_true c, cond_true, if_pos ⟨rfl, c⟩, db_small.j1_eq]; rfl
      · rw [e9, decide_eq_false c, cond_false, if_neg (fun h => c h.2), db_small.j1_eq]; rfl
  rw [decide_eq_false a12, cond_false]
  have J := fun b hb' => db_small.j3_ok (it := it) (z := z) b hn hb' a5 a7 a9 a11 a12
  by_cases a13 : n = 1013
  · rw [decide_eq_true a13, cond_true]; exact J _ (by rw [decide_eq_true (.inl a13)])
  · rw [decide_eq_false a13, cond_false]; exact J _ (by simp [a13])
end
theorem db_small.goal (n : UInt64) (it : Itv) (hp : decide (Itm.bulk (Itm.of it) ≤ 1099511627776) = true) : db_small.F n it = some [.ag (Val.cells (Db.smallV n (Itm.of it)).1), .b (Db.smallV n (Itm.of it)).2] := by
  have hb := of_decide_eq_true hp
  refine db_small.F_in _ _ ?_
  intro v1 h1 v2 h2 v3 h3 v4 h4 v5 h5 v6 h6 v7 h7 v8 h8 v9 h9 v10 h10
  simp only [Bool.not_or_self, Bool.or_not_self, ck_true]
  by_cases hn : n < 1000 ∨ 1255 < n
  · rw [show v1 = true by rw [h1]; rcases hn with a | a <;> simp [a], cond_true, Db.smallV, if_pos hn]; rfl
  rw [show v1 = false by rw [h1]; simp only [not_or] at hn; simp [hn.1, hn.2], cond_false]
  obtain ⟨r1, r2, hw, E⟩ := tag_kind hn
  rw [hw] at h2
  subst h2
  rw [E 5 1005 rfl, E 7 1007 rfl, E 9 1009 rfl, E 18 1018 rfl]
  have f4 : v4 = (Db.fst (Itm.of it)).n := h4
  have f8 : v8 = (Db.snd (Itm.of it)).bytes := h8
  by_cases a5 : n = 1005
  · subst a5
    rw [decide_eq_true rfl, cond_true, Db.smallV, if_neg (by decide), if_pos rfl]
    have h6' : v6 = (v3 && (decide (1 ≤ v4) && decide (v4 ≤ 255))) := by rw [h6, h5]; cases v3 <;> cases decide ((1 : UInt64) ≤ v4) <;> rfl
    cases hk : v3 with
    | false =>
      rw [hk] at h3
      have e5 : v5 = false := by rw [h5, hk]; rfl
      have : v6 = false := by rw [h6', hk]; rfl
      simp only [hk, e5, this, Bool.not_false, Bool.true_or, ck_true]
      rw [if_neg (fun h => by rw [← h3] at h; exact absurd h.1 (by decide)), cond_false, db_small.j1_eq]; rfl
    | true =>
      rw [hk] at h3
      obtain ⟨i0, i1⟩ := two_lens it 1 3 h3.symm
      have l2 : it.kids.length = 2 := (of_decide_eq_true h3.symm).2.1
      have t1 := (kid_lens it 1 _ hb (by omega)).2
      have q1 : v8.length ≤ 1099511627776 := by rw [h8]; exact t1
      simp only [i0, i1, Bool.and_true, Bool.and_self, Bool.not_or_self, ck_true, Bool.true_and]
      rw [ck_of (big_ap (n := v8.length) (b := 1) (by omega) (by omega)), ← h3, ← f4, ← f8]
      have e6 : v6 = (decide (1 ≤ v4) && decide (v4 ≤ 255)) := by rw [h6', hk]; rfl
      have e7 : 1 ≤ v4 ∧ v4 ≤ 255 → v7 = (v4.toNat : Int) := fun h => by
        have := UInt64.le_iff_toNat_le.1 h.2
        simp at this
        rw [h7, i64_in _ (by omega)]
      by_cases c : 1 ≤ v4 <;> by_cases d : v4 ≤ 255
      · rw [e6, decide_eq_true c, decide_eq_true d, Bool.and_self, cond_true, if_pos ⟨rfl, c, d⟩, db_small.j1_eq, e7 ⟨c, d⟩]; rfl
      · rw [e6, decide_eq_false d, Bool.and_false, cond_false, if_neg (fun h => d h.2.2), db_small.j1_eq]; rfl
      · rw [e6, decide_eq_false c, Bool.false_and, cond_false, if_neg (fun h => c h.2.1), db_small.j1_eq]; rfl
      · rw [e6, decide_eq_false c, Bool.false_and, cond_false, if_neg (fun h => c h.2.1), db_small.j1_eq]; rfl
  rw [decide_eq_false a5, cond_false]
  by_cases a7 : n = 1007
  · subst a7
    have hl : it.bytes.length ≤ 1099511627776 := by rw [Itm.bulk_of] at hb; omega
    rw [decide_eq_true rfl, cond_true, ck_of (big_ap (n := it.bytes.length) (b := 1) (by omega) (by omega)), db_small.j1_eq, Db.smallV, if_neg (by decide), if_neg (by decide), if_pos rfl]
    have : v10 = decide (it.kind = 3 ∧ it.bytes.length = 12) := by
      rw [h10, h9, show decide ((it.bytes.length : Int) = 12) = decide (it.bytes.length = 12) from decide_eq_decide.2 (by omega)]
      by_cases x : it.kind = 3 <;> simp [x]
    rw [this]; rfl
  rw [decide_eq_false a7, cond_false]
  have J := fun b hb' => db_small.j2_ok (it := it) (z := Db.zero) b hb hn hb' a5 a7
  by_cases a9 : n = 1009
  · rw [decide_eq_true a9, cond_true]; exact J _ (by rw [decide_eq_true (.inl a9)])
  · rw [decide_eq_false a9, cond_false]; exact J _ (by simp [a9])
end Go.Eng
namespace Go.Eng
open Go.IntWalk
theorem Cb.own0 (it : Itv) (h : Cb.own (Itm.of it) = 0) : (1 ≤ it.kind ∧ it.kind ≤ 9) ∧ (it.kind = 3 ∨ it.kind = 4 ∨ it.kind = 5 ∨ it.kind = 6 → it.n = 0) ∧ (it.kind ≠ 3 → it.bytes = []) ∧ (it.kind ≠ 4 → it.text = []) ∧ (it.kind ≠ 5 → it.kind ≠ 6 → it.kind ≠ 7 → it.kids = []) ∧
    (it.kind = 8 → 20 ≤ it.n ∧ it.n ≤ 23) ∧ (it.kind = 6 → it.kids.length % 2 = 0) ∧ (it.kind = 7 → it.kids.length = 1) ∧ Utf.whole it.text = true := by
  obtain ⟨k, n, b, t, ks⟩ := it
  simp only [Cb.own, Itm.of] at h
  simp only
  by_cases h1 : k < 1 ∨ 9 < k
  · rw [if_pos h1] at h; cases h
  rw [if_neg h1] at h
  split at h
  · cases h
  rename_i h2
  split at h
  · cases h
  rename_i h3
  split at h
  · cases h
  rename_i h4
  split at h
  · rename_i h6
    refine ⟨by omega, ?_, ?_, ?_, ?_, ?_, ?_, ?_, h6⟩ <;> grind
  · cases h
theorem Cb.chk0 (it : Itv) (h : Cb.chk (Itm.of it) = 0) : Cb.own (Itm.of it) = 0 ∧ Cb.chks it.kids = 0 := by
  rw [Cb.chk_of] at h
  by_cases a : Cb.own (Itm.of it) = 0
  · rw [if_pos a] at h; exact ⟨a, h⟩
  · rw [if_neg a] at h; exact (a h).elim
theorem Cb.chks_cons {k : Itm} {r : List Itm} (h : Cb.chks (k :: r) = 0) : Cb.chk k = 0 ∧ Cb.chks r = 0 := by
  rw [Cb.chks] at h
  by_cases a : Cb.chk k = 0
  · rw [if_pos a] at h; exact ⟨a, h⟩
  · rw [if_neg a] at h; exact (a h).elim
theorem Cb.chks_drop : ∀ (l : List Itm) (i : Nat), Cb.chks l = 0 → Cb.chks (l.drop i) = 0
  | [], i, _ => by simp [Cb.chks]
  | k :: r, 0, h => by simpa using h
  | k :: r, i + 1, h => by simpa using Cb.chks_drop r i (Cb.chks_cons h).2
theorem Itm.bulks_drop : ∀ (l : List Itm) (i : Nat), Itm.bulks (l.drop i) ≤ Itm.bulks l
  | [], i => by simp
  | k :: r, 0 => by simp
  | k :: r, i + 1 => by
    have := Itm.bulks_drop r i
    simp only [List.drop_succ_cons, Itm.bulks]; omega
theorem Cb.chk_val (x : Itm) (h : Cb.chk x = 0) : Cb.own x = 0 ∧ Cb.chks x.kids = 0 := by
  have := Cb.chk0 x.val (by rw [Itm.of_val]; exact h)
  rw [Itm.of_val] at this; exact this
theorem Itm.bulk_val (x : Itm) : Itm.bulk x = 1 + x.bytes.length + x.text.length + Itm.bulks x.kids := by cases x; simp only [Itm.bulk, Itm.bytes, Itm.text, Itm.kids]
namespace Db
def Got.tvs (g : Got) (p : List Int) : List TV := [.ag (Val.cells g.val), .ag (Flt.cells g.flt), .sl .is p]
def Gots.app (acc : List Fld) : Gots → Gots
  | .ok r => .ok (acc ++ r)
  | .bad p => .bad p
theorem Gots.app_nil (g : Gots) : g.app [] = g := by cases g <;> simp [Gots.app]
theorem fields_step (k x : Itm) (r : List Itm) (i : Nat) (p : List Int) : fields (k :: x :: r) i p = if k.kind ≠ 4 ∨ Utf.zero k.text = true then .bad (p ++ [(i : Int)])
    else match value x (p ++ [((i + 1 : Nat) : Int)]) with
      | .bad q => .bad q
      | .ok v => (fields r (i + 2) p).app [Fld.of k.text v] := by
  rw [fields]
  split
  · rfl
  · split
    · rename_i q hq; rw [hq]
    · rename_i v hv
      rw [hv]
      simp only
      split
      · rename_i q hq; rw [hq]; rfl
      · rename_i l hl; rw [hl]; rfl
theorem elems_step (x : Itm) (r : List Itm) (i : Nat) (p : List Int) : elems (x :: r) i p = match value x (p ++ [(i : Int)]) with
      | .bad q => .bad q
      | .ok v => (elems r (i + 1) p).app [Fld.of (digs i) v] := by
  rw [elems]
  split
  · rename_i q hq; rw [hq]
  · rename_i v hv
    rw [hv]
    simp only
    split
    · rename_i q hq; rw [hq]; rfl
    · rename_i l hl; rw [hl]; rfl
theorem Gots.app_app (a b : List Fld) (g : Gots) : (g.app b).app a = g.app (a ++ b) := by cases g <;> simp [Gots.app]
theorem value_of (it : Itv) (p : List Int) : value (Itm.of it) p = if it.kind = 6 then (fields it.kids 0 p).got (doc 3 []) else if it.kind = 5 then (elems it.kids 0 p).got (doc 4 []) else if it.kind = 7 then tags it.n it.kids p else opt (leaf it.kind it.n it.bytes it.text) p := by
  rw [Itm.of, value]
theorem tagv_of (n : UInt64) (x : Itm) (p : List Int) : tagv n x p = if n = 1004 then (if x.kind = 6 ∧ ¬ regular x.kids = true then (fields x.kids 0 (p ++ [0])).got (doc 4 []) else .bad p)
    else if n = 1015 then (if kinds x 4 6 = true then pairv x.kids p else .bad p) else opt (small n x) p := by
  cases x; rw [tagv]; rfl
theorem pairv_of (l : List Itm) (p : List Int) (h : l.length = 2) : pairv l p = (fields (l.getD 1 Mp.zero).kids 0 (p ++ [0, 1])).got (doc 15 (l.getD 0 Mp.zero).text) := by
  match l, h with
  | [a, m], _ => rw [pairv]; cases m; rw [pairIn]; rfl
end Db
theorem db_with.l1_ok (n : Nat) (l : List Itm) (path : List Int) (x2 : Int) (x3 x4 x5 : UInt64) (x6 x7 : Str) (x8 : Int) (x10 : Val) (x11 : Flt) (hb : Itm.bulks l + path.length ≤ 1073741824) (hn : 2 * Itm.bulks l + 1 < n) (hc : Cb.chks l = 0) : ∀ (m i : Nat) (acc : List Fld), i + 2 * m = l.length → acc.length + m ≤ 2147483648 →
    db_with.l1 n l i x2 x3 x4 x5 x6 x7 x8 acc x10 x11 path = some (Db.Got.tvs (((Db.fields (l.drop i) i path).app acc).got ⟨x2, x3, x4, x5, x6, x7, x8, [], []⟩) path) := by
  have hlen := Itm.bulk_kids l
  intro m
  induction m with
  | zero =>
    intro i acc hi ha
    refine db_with.l1_in _ _ _ _ _ _ _ _ _ _ _ _ _ _ ?_
    intro v1 h1 v2 h2 v3 h3 v4 h4 v5 h5 v6 h6 v7 h7 v8 h8 v9 h9 v10 h10
    rw [decide_eq_false (by omega), cond_false, List.drop_of_length_le (by omega), Db.fields]
    simp only [Db.Gots.app, List.append_nil, Db.Gots.got]; rfl
  | succ m ih =>
    intro i acc hi ha
    refine db_with.l1_in _ _ _ _ _ _ _ _ _ _ _ _ _ _ ?_
    intro v1 h1 v2 h2 v3 h3 v4 h4 v5 h5 v6 h6 v7 h7 v8 h8 v9 h9 v10 h10
    have e6 : v6 = ((i + 1 : Nat) : Int) := by rw [h6, i64_in _ (by omega)]; omega
    rw [e6] at h7 h8
    rw [Int.toNat_natCast] at h1 h3
    rw [Int.toNat_natCast, Itm.of_val] at h7 h8
    have hd : l.drop i = l.getD i (STy.dflt .il) :: l.getD (i + 1) (STy.dflt .il) :: l.drop (i + 2) := by
      rw [drop_cons (show i < l.length by omega) (STy.dflt .il), drop_cons (show i + 1 < l.length by omega) (STy.dflt .il)]
    have hbd := Itm.bulks_drop l i
    have hcd := Cb.chks_drop l i hc
    rw [hd] at hbd hcd
    simp only [Itm.bulks] at hbd
    have hk1 := Itm.bulk_pos (l.getD i (STy.dflt .il))
    obtain ⟨_, hcd⟩ := Cb.chks_cons hcd
    obtain ⟨hcx, _⟩ := Cb.chks_cons hcd
    have hz : decide (0 ≤ Lib.indexByte v3 (([0] : Str).getD 0 0)) = Utf.zero v3 := indexByte_contains 0 v3
    have e2 : v2 = decide (v1 = 4) := by rw [h2, Bool.not_not]
    rw [hz] at h4
    have i0 : idxOK (i : Int) l.length = true := idx_ok (by omega) (by omega)
    rw [hd, Db.fields_step, ← h1, ← h3]
    rw [e6, Int.toNat_natCast, Itm.of_val]
    generalize l.getD (i + 1) (STy.dflt .il) = x at h7 h8 hbd hcx
    simp only [i0, show decide ((([0] : Str)).length = 1) = true from rfl, Bool.and_true, Bool.and_self, Bool.not_or_self, ck_true]
    rw [decide_eq_true (by omega), cond_true, ck_of (by rw [e2]; cases decide (v1 = 4) <;> rfl)]
    by_cases bad : v1 ≠ 4 ∨ Utf.zero v3 = true
    · have e4 : v4 = true := by
        rw [h4]
        by_cases x : v1 = 4
        · rw [decide_eq_true x, bad.resolve_left (fun h => h x)]; rfl
        · rw [decide_eq_false x]; rfl
      rw [e4, cond_true, if_pos bad, ck_of (big_ap (by simp only [List.length_singleton]; omega) (by simp only [List.length_singleton]; omega)), ck_of (decide_eq_true (by simp only [List.length_append, List.length_singleton]; omega)), h5]; rfl
    · have e4 : v4 = false := by
        simp only [not_or, Classical.not_not, ne_eq] at bad
        rw [h4, decide_eq_true bad.1, Bool.eq_false_iff.2 bad.2]; rfl
      rw [e4, cond_false, if_neg bad, ck_of (idx_ok (by omega) (by omega)), ck_of (big_ap (by simp only [List.length_singleton]; omega) (by simp only [List.length_singleton]; omega)), ck_of (by
        rw [decide_eq_true (show Itm.bulk x + (path ++ [((i + 1 : Nat) : Int)]).length ≤ 1073741824 by simp only [List.length_append, List.length_singleton]; omega), decide_eq_true hcx, decide_eq_true (show 2 * Itm.bulk x + 1 < n by omega)]; rfl)]
      cases hv : Db.value x (path ++ [((i + 1 : Nat) : Int)]) with
      | bad q =>
        rw [hv] at h8
        rw [h8]; rfl
      | ok v =>
        rw [hv] at h7 h8
        have h7' : v7 = v := h7
        have h8' : v8 = ⟨0, 0, []⟩ := h8
        rw [h8', show (!decide ((Flt.mk 0 0 []).err = 0)) = false from rfl, cond_false, ck_of (big_ap (by rw [h9]; simp only [List.length_singleton]; omega) (by rw [h9]; simp only [List.length_singleton]; omega)), h10, i64_in _ (by omega), show (i : Int) + 2 = ((i + 2 : Nat) : Int) by omega, ih (i + 2) _ (by omega) (by rw [h9]; simp only [List.length_append, List.length_singleton]; omega), h9, h7']
        simp only
        rw [Db.Gots.app_app]; rfl
theorem db_with.goal (n : Nat) (v : Val) (l : List Itm) (path : List Int) (hp : ((decide (Itm.bulks l + path.length ≤ 1073741824) && decide (Cb.chks l = 0 ∧ l.length % 2 = 0)) && decide ((2 * Itm.bulks l + 2) < n + 1)) = true) :
    db_with.F n v l path = some (Db.Got.tvs ((Db.fields l 0 path).got ⟨v.kind, v.bits, v.high, v.low, v.text, v.more, v.sub, [], []⟩) path) := by
  simp only [Bool.and_eq_true, decide_eq_true_eq] at hp
  obtain ⟨⟨hb, hc, he⟩, hn⟩ := hp
  have hlen := Itm.bulk_kids l
  rw [db_with.F_eq]
  have := db_with.l1_ok n l path v.kind v.bits v.high v.low v.text v.more v.sub Db.zero ⟨0, 0, []⟩ hb (by omega) hc (l.length / 2) 0 [] (by omega) (by simp only [List.length_nil]; omega)
  rw [List.drop_zero, Db.Gots.app_nil] at this
  exact this
theorem db_value.l3_ok (n : Nat) (l : List Itm) (path : List Int) (x3 : Val) (x4 : Flt) (x5 : Int) (x6 x7 x8 : UInt64) (x9 x10 : Str) (x11 : Int) (hb : Itm.bulks l + 1 + path.length ≤ 1073741824) (hn : 2 * Itm.bulks l + 1 < n) (hc : Cb.chks l = 0) : ∀ (m i : Nat) (acc : List Fld), i + m = l.length → acc.length + m ≤ 2147483648 →
    db_value.l3 n l (l.length : Int) i x3 x4 x5 x6 x7 x8 x9 x10 x11 acc path = some (Db.Got.tvs (((Db.elems (l.drop i) i path).app acc).got ⟨x5, x6, x7, x8, x9, x10, x11, [], []⟩) path) := by
  have hlen := Itm.bulk_kids l
  intro m
  induction m with
  | zero =>
    intro i acc hi ha
    refine db_value.l3_in _ _ _ _ _ _ _ _ _ _ _ _ _ _ _ ?_
    intro v1 h1 v2 h2 v3 h3 v4 h4
    rw [decide_eq_false (by omega), cond_false, List.drop_of_length_le (by omega), Db.elems]
    simp only [Db.Gots.app, List.append_nil, Db.Gots.got]; rfl
  | succ m ih =>
    intro i acc hi ha
    refine db_value.l3_in _ _ _ _ _ _ _ _ _ _ _ _ _ _ _ ?_
    intro v1 h1 v2 h2 v3 h3 v4 h4
    rw [Int.toNat_natCast, Itm.of_val] at h1 h2
    have hd : l.drop i = l.getD i (STy.dflt .il) :: l.drop (i + 1) := drop_cons (show i < l.length by omega) (STy.dflt .il)
    have hbd := Itm.bulks_at l i (by omega)
    have hcd := Cb.chks_drop l i hc
    rw [hd] at hcd
    obtain ⟨hcx, _⟩ := Cb.chks_cons hcd
    rw [hd, Db.elems_step, Int.toNat_natCast, Itm.of_val]
    generalize l.getD i (STy.dflt .il) = x at h1 h2 hbd hcx
    rw [decide_eq_true (by omega), cond_true, ck_of (idx_ok (by omega) (by omega)), ck_of (big_ap (by simp only [List.length_singleton]; omega) (by simp only [List.length_singleton]; omega)), ck_of (by
        rw [decide_eq_true (show Itm.bulk x + (path ++ [(i : Int)]).length ≤ 1073741824 by simp only [List.length_append, List.length_singleton]; omega), decide_eq_true hcx, decide_eq_true (show 2 * Itm.bulk x + 1 < n by omega)]; rfl)]
    cases hv : Db.value x (path ++ [(i : Int)]) with
    | bad q =>
      rw [hv] at h2
      rw [h2]; rfl
    | ok v =>
      rw [hv] at h1 h2
      have h1' : v1 = v := h1
      have h2' : v2 = ⟨0, 0, []⟩ := h2
      rw [h2', show (!decide ((Flt.mk 0 0 []).err = 0)) = false from rfl, cond_false, ck_of (decide_eq_true (by omega)), ck_of (big_ap (by rw [h3]; simp only [List.length_singleton]; omega) (by rw [h3]; simp only [List.length_singleton]; omega)), h4, i64_in _ (by omega), show (i : Int) + 1 = ((i + 1 : Nat) : Int) by omega, ih (i + 1) _ (by omega) (by rw [h3]; simp only [List.length_append, List.length_singleton]; omega), h3, h1', itoa_nat]
      simp only
      rw [Db.Gots.app_app]; rfl
theorem db_value.j2_ok (n : Nat) (x0 : Val) (x1 : Flt) (p : List Int) (h : p.length ≤ 1099511627776) : db_value.j2 n x0 x1 p = some (Db.Got.tvs (.bad p) p) := by
  rw [db_value.j2_eq, ck_of (decide_eq_true h)]; rfl
theorem Db.half_of (it : Itv) : Db.leaf it.kind it.n it.bytes it.text = if it.kind = 9 then some ⟨1, it.n, 0, 0, [], [], 0, [], []⟩ else if it.kind = 4 then some ⟨2, 0, 0, 0, it.text, [], 0, [], []⟩ else if it.kind = 3 then some ⟨5, 0, 0, 0, [], [], 0, it.bytes, []⟩
    else if it.kind = 8 then some (if it.n = 22 then ⟨10, 0, 0, 0, [], [], 0, [], []⟩ else if it.n = 23 then ⟨6, 0, 0, 0, [], [], 0, [], []⟩ else ⟨8, it.n - 20, 0, 0, [], [], 0, [], []⟩)
    else if (Db.half (Itm.of it)).2 then some (Db.half (Itm.of it)).1 else none := rfl
theorem i32_self (x : Int) : (x = IntKind.i64.wrap (IntKind.i32.wrap x)) ↔ (-2147483648 ≤ x ∧ x < 2147483648) := by
  rw [i64_i32]
  constructor
  · intro h
    have := i32_rng x
    omega
  · intro h
    have h1 := i32_rng x
    have h2 : (IntKind.i32.wrap x - x) % 4294967296 = 0 := by
      simp only [IntKind.wrap, IntKind.bits, IntKind.signed]
      simp
      omega
    omega
theorem db_value.j1_ok (n : Nat) (x1 : Bool) (it : Itv) (x3 : Val) (x4 : Flt) (p : List Int) (hb : Itm.bulk (Itm.of it) + p.length ≤ 1073741824) (hn : 2 * Itm.bulk (Itm.of it) < n) (hc : Cb.chk (Itm.of it) = 0) (h1 : x1 = decide (it.kind = 1 ∨ it.kind = 2)) (hk : it.kind ≠ 9 ∧ it.kind ≠ 4 ∧ it.kind ≠ 3 ∧ it.kind ≠ 8) :
    db_value.j1 n it.kind x1 it x3 x4 p = some (Db.Got.tvs (Db.value (Itm.of it) p) p) := by
  obtain ⟨k9, k4, k3, k8⟩ := hk
  obtain ⟨ho, hcs⟩ := Cb.chk0 it hc
  obtain ⟨c1, c2, c3, c4, c5, c6, c7, c8, c9⟩ := Cb.own0 it ho
  have hbo := hb
  rw [Itm.bulk_of] at hb hn
  have hlen := Itm.bulk_kids it.kids
  have J2 := db_value.j2_ok n x3 x4 p (by omega)
  refine db_value.j1_in _ _ _ _ _ _ _ ?_
  intro v1 e1 v2 e2 v3 e3 v4 e4 v5 e5 v6 e6 v7 e7 v8 e8 v9 e9 v10 e10
  simp only [Bool.not_or_self, Bool.and_self, ck_true]
  by_cases k12 : it.kind = 1 ∨ it.kind = 2
  · rw [h1, decide_eq_true k12, cond_true, Db.value_of, if_neg (by omega), if_neg (by omega), if_neg (by omega), Db.half_of, if_neg k9, if_neg k4, if_neg k3, if_neg k8]
    have e4' : v4 = (Db.half (Itm.of it)).2 := by
      rw [e4, e2]
      show _ = ((Db.number (Itm.of it)).isSome && decide (-2147483648 ≤ Db.numberI (Itm.of it) ∧ Db.numberI (Itm.of it) < 2147483648))
      cases hs : (Db.number (Itm.of it)).isSome with
      | false => rfl
      | true =>
        rw [Db.numberI_eq _ hs, ← e1, e3, cond_true, Bool.true_and]
        exact decide_eq_decide.2 (i32_self v1)
    cases hh : (Db.half (Itm.of it)).2 with
    | false => rw [e4', hh, cond_false, J2]; rfl
    | true =>
      have hs : (Db.number (Itm.of it)).isSome = true := by
        have : ((Db.number (Itm.of it)).isSome && decide (-2147483648 ≤ Db.numberI (Itm.of it) ∧ Db.numberI (Itm.of it) < 2147483648)) = true := hh
        simp only [Bool.and_eq_true] at this; exact this.1
      have e5' : v5 = UInt64.ofInt (Db.numberI (Itm.of it) % 4294967296) := by
        rw [e5, Db.numberI_eq _ hs, ← e1]
        congr 1
        have := u32_ofInt v1
        rw [wrap_u32'] at this
        exact this
      rw [e4', hh, cond_true, e5']; rfl
  rw [h1, decide_eq_false k12, cond_false]
  by_cases k6 : it.kind = 6
  · rw [decide_eq_true k6, cond_true, ck_of (by rw [decide_eq_true (show Itm.bulks it.kids + p.length ≤ 1073741824 by omega), decide_eq_true (show Cb.chks it.kids = 0 ∧ it.kids.length % 2 = 0 from ⟨hcs, c7 k6⟩), decide_eq_true (show 2 * Itm.bulks it.kids + 2 < n by omega)]; rfl), e6, e7, Db.value_of, if_pos k6]; rfl
  rw [decide_eq_false k6, cond_false]
  by_cases k5 : it.kind = 5
  · rw [decide_eq_true k5, cond_true, e8, Db.value_of, if_neg k6, if_pos k5]
    have := db_value.l3_ok n it.kids p x3 x4 4 0 0 0 [] [] 0 (by omega) (by omega) hcs it.kids.length 0 [] (by omega) (by simp only [List.length_nil]; omega)
    rw [List.drop_zero, Db.Gots.app_nil] at this
    exact this
  rw [decide_eq_false k5, cond_false]
  have k7 : it.kind = 7 := by omega
  rw [decide_eq_true k7, cond_true, ck_of (by rw [decide_eq_true hbo, decide_eq_true (show Cb.chk (Itm.of it) = 0 ∧ it.kind = 7 from ⟨hc, k7⟩), decide_eq_true (show 2 * Itm.bulk (Itm.of it) < n by rw [Itm.bulk_of]; exact hn)]; rfl), e9, e10]; rfl
theorem db_value.goal (n : Nat) (it : Itv) (path : List Int) (hp : ((decide (Itm.bulk (Itm.of it) + path.length ≤ 1073741824) && decide (Cb.chk (Itm.of it) = 0)) && decide ((2 * Itm.bulk (Itm.of it) + 1) < n + 1)) = true) : db_value.F n it path = some (Db.Got.tvs (Db.value (Itm.of it) path) path) := by
  simp only [Bool.and_eq_true, decide_eq_true_eq] at hp
  obtain ⟨⟨hb, hc⟩, hn⟩ := hp
  obtain ⟨ho, hcs⟩ := Cb.chk0 it hc
  obtain ⟨c1, c2, c3, c4, c5, c6, c7, c8, c9⟩ := Cb.own0 it ho
  refine db_value.F_in _ _ _ ?_
  intro v1 e1 v2 e2 v3 e3 v4 e4 v5 e5 v6 e6 v7 e7
  have L : ∀ g : Val, it.kind ≠ 6 → it.kind ≠ 5 → it.kind ≠ 7 → Db.leaf it.kind it.n it.bytes it.text = some g → Db.value (Itm.of it) path = .ok g := by
    intro g h6 h5 h7 hg
    rw [Db.value_of, if_neg h6, if_neg h5, if_neg h7, hg]; rfl
  by_cases k9 : it.kind = 9
  · rw [decide_eq_true k9, cond_true, L _ (by omega) (by omega) (by omega) (by rw [Db.half_of, if_pos k9])]; rfl
  rw [decide_eq_false k9, cond_false]
  by_cases k4 : it.kind = 4
  · rw [decide_eq_true k4, cond_true, L _ (by omega) (by omega) (by omega) (by rw [Db.half_of, if_neg k9, if_pos k4])]; rfl
  rw [decide_eq_false k4, cond_false]
  by_cases k3 : it.kind = 3
  · have hl : it.bytes.length ≤ 1073741824 := by rw [Itm.bulk_of] at hb; omega
    rw [decide_eq_true k3, cond_true, ck_of (big_ap (n := it.bytes.length) (b := 1) (by omega) (by omega)), L _ (by omega) (by omega) (by omega) (by rw [Db.half_of, if_neg k9, if_neg k4, if_pos k3])]; rfl
  rw [decide_eq_false k3, cond_false]
  by_cases k8 : it.kind = 8
  · have hu : it.n = 20 ∨ it.n = 21 ∨ it.n = 22 ∨ it.n = 23 := by
      have a := UInt64.le_iff_toNat_le.1 (c6 k8).1
      have b := UInt64.le_iff_toNat_le.1 (c6 k8).2
      simp at a b
      have : it.n.toNat = 20 ∨ it.n.toNat = 21 ∨ it.n.toNat = 22 ∨ it.n.toNat = 23 := by omega
      rcases this with h | h | h | h
      · exact .inl (UInt64.toNat_inj.1 h)
      · exact .inr (.inl (UInt64.toNat_inj.1 h))
      · exact .inr (.inr (.inl (UInt64.toNat_inj.1 h)))
      · exact .inr (.inr (.inr (UInt64.toNat_inj.1 h)))
    rw [decide_eq_true k8, cond_true, L _ (by omega) (by omega) (by omega) (by rw [Db.half_of, if_neg k9, if_neg k4, if_neg k3, if_pos k8])]
    subst e1 e2 e3 e4 e5 e6 e7
    rcases hu with h | h | h | h <;> rw [h] <;> rfl
  rw [decide_eq_false k8, cond_false]
  have J := fun b hb' => db_value.j1_ok n b it Db.zero ⟨0, 0, []⟩ path hb (by omega) hc hb' ⟨k9, k4, k3, k8⟩
  by_cases k1 : it.kind = 1
  · rw [decide_eq_true k1, cond_true]; exact J _ (by rw [decide_eq_true (.inl k1)])
  · rw [decide_eq_false k1, cond_false]; exact J _ (by simp [k1])
theorem db_tag.j1_ok (n : Nat) (x0 : Val) (x1 : Flt) (p : List Int) (h : p.length ≤ 1099511627776) : db_tag.j1 n x0 x1 p = some (Db.Got.tvs (.bad p) p) := by
  rw [db_tag.j1_eq, ck_of (decide_eq_true h)]; rfl
theorem db_tag.goal (n : Nat) (it : Itv) (path : List Int) (hp : ((decide (Itm.bulk (Itm.of it) + path.length ≤ 1073741824) && decide (Cb.chk (Itm.of it) = 0 ∧ it.kind = 7)) && decide ((2 * Itm.bulk (Itm.of it)) < n + 1)) = true) : db_tag.F n it path = some (Db.Got.tvs (Db.value (Itm.of it) path) path) := by
  simp only [Bool.and_eq_true, decide_eq_true_eq] at hp
  obtain ⟨⟨hb, hc, k7⟩, hn⟩ := hp
  obtain ⟨ho, hcs⟩ := Cb.chk0 it hc
  have c8 := (Cb.own0 it ho).2.2.2.2.2.2.2.1 k7
  obtain ⟨x, hx⟩ : ∃ x, it.kids = [x] := by
    match h : it.kids, c8 with
    | [x], _ => exact ⟨x, rfl⟩
  rw [Itm.bulk_of, hx] at hb hn
  simp only [Itm.bulks] at hb hn
  rw [hx] at hcs
  obtain ⟨hcx, _⟩ := Cb.chks_cons hcs
  obtain ⟨hox, hcsx⟩ := Cb.chk_val x hcx
  have ox := Cb.own0 x.val (by rw [Itm.of_val]; exact hox)
  have hbx := Itm.bulk_val x
  have hlx := Itm.bulk_kids x.kids
  have J := db_tag.j1_ok n Db.zero ⟨0, 0, []⟩ path (by omega)
  have ev : Db.value (Itm.of it) path = Db.tagv it.n x path := by
    rw [Db.value_of, if_neg (by omega), if_neg (by omega), if_pos k7, hx, Db.tags]
  rw [ev, Db.tagv_of]
  refine db_tag.F_in _ _ _ ?_
  intro v1 e1 v2 e2 v3 e3 v4 e4 v5 e5 v6 e6 v7 e7 v8 e8 v9 e9 v10 e10 v11 e11 v12 e12 v13 e13 v14 e14
  have hg : it.kids.getD (0 : Int).toNat (STy.dflt .il) = x := by rw [hx]; rfl
  rw [hg] at e1 e2
  rw [hg, Itm.of_val] at e7 e13 e14
  rw [hg, Itm.of_val]
  rw [ck_of (idx_ok (by omega) (by omega))]
  have l2 : v2.length ≤ 1099511627776 := by rw [e2]; omega
  simp only [decide_eq_true l2, Bool.and_true, Bool.not_or_self, ck_true]
  by_cases a4 : it.n = 1004
  · rw [decide_eq_true a4, cond_true, if_pos a4]
    by_cases c : x.kind = 6 ∧ ¬ Db.regular x.kids = true
    · have e3' : v3 = true := by rw [e3, e1, e2, decide_eq_true c.1, Bool.eq_false_iff.2 c.2]; rfl
      have he : x.kids.length % 2 = 0 := ox.2.2.2.2.2.2.1 c.1
      rw [e3', cond_true, if_pos c, ck_of (big_ap (by simp only [List.length_singleton]; omega) (by simp only [List.length_singleton]; omega)), e2, e4, ck_of (by
        rw [decide_eq_true (show Itm.bulks x.kids + (path ++ [(0 : Int)]).length ≤ 1073741824 by simp only [List.length_append, List.length_singleton]; omega), decide_eq_true (show Cb.chks x.kids = 0 ∧ x.kids.length % 2 = 0 from ⟨hcsx, he⟩), decide_eq_true (show 2 * Itm.bulks x.kids + 2 < n by omega)]; rfl), e5, e6, e2, e4]; rfl
    · have e3' : v3 = false := by
        rw [e3, e1, e2]
        by_cases q : x.kind = 6
        · rw [decide_eq_true q]
          have : Db.regular x.kids = true := Classical.byContradiction fun h => c ⟨q, h⟩
          rw [this]; rfl
        · rw [decide_eq_false q]; rfl
      rw [e3', cond_false, if_neg c]; exact J
  rw [decide_eq_false a4, cond_false, if_neg a4]
  by_cases a15 : it.n = 1015
  · rw [decide_eq_true a15, cond_true, if_pos a15]
    by_cases c : Db.kinds x 4 6 = true
    · have hk := of_decide_eq_true c
      have hlen2 : x.kids.length = 2 := hk.2.1
      obtain ⟨a, m, hkids⟩ : ∃ a m, x.kids = [a, m] := by
        match h : x.kids, hlen2 with
        | [a, m], _ => exact ⟨a, m, rfl⟩
      have hm6 : m.kind = 6 := by have := hk.2.2.2; rw [Db.snd, hkids] at this; exact this
      have hcm : Cb.chk m = 0 := by
        rw [hkids] at hcsx
        exact (Cb.chks_cons (Cb.chks_cons hcsx).2).1
      obtain ⟨hom, hcsm⟩ := Cb.chk_val m hcm
      have om := Cb.own0 m.val (by rw [Itm.of_val]; exact hom)
      have he : m.kids.length % 2 = 0 := om.2.2.2.2.2.2.1 hm6
      have hbm := Itm.bulk_val m
      have hb2 : Itm.bulks x.kids = Itm.bulk a + (Itm.bulk m + 0) := by rw [hkids]; rfl
      have ha1 := Itm.bulk_pos a
      have e9' : v9 = m.kids := by rw [e9, e2, hkids]; rfl
      have e8' : v8 = a.text := by rw [e8, e2, hkids]; rfl
      have i0 : idxOK (0 : Int) v2.length = true := by rw [e2]; exact idx_ok (by omega) (by omega)
      have i1 : idxOK (1 : Int) v2.length = true := by rw [e2]; exact idx_ok (by omega) (by omega)
      rw [e7, show Db.kinds x ((4 : Int)) ((6 : Int)) = true from c, cond_true, if_pos rfl, Db.pairv_of _ _ hlen2, ck_of i0, ck_of i1, ck_of (big_ap (by rw [e10]; simp only [List.length_cons, List.length_nil]; omega) (by rw [e10]; simp only [List.length_cons, List.length_nil]; omega)), e9', e10, ck_of (by
        rw [decide_eq_true (show Itm.bulks m.kids + (path ++ [(0 : Int), (1 : Int)]).length ≤ 1073741824 by simp only [List.length_append, List.length_cons, List.length_nil]; omega), decide_eq_true (show Cb.chks m.kids = 0 ∧ m.kids.length % 2 = 0 from ⟨hcsm, he⟩), decide_eq_true (show 2 * Itm.bulks m.kids + 2 < n by omega)]; rfl), e11, e12, e9', e8', e10, hkids]; rfl
    · rw [e7, show Db.kinds x ((4 : Int)) ((6 : Int)) = false from Bool.eq_false_iff.2 c, cond_false, if_neg (by decide)]; exact J
  rw [decide_eq_false a15, cond_false, if_neg a15, ck_of (decide_eq_true (by omega)), Db.small, e13, e14]
  cases (Db.smallV it.n x).2 with
  | true => rw [cond_true]; rfl
  | false => rw [cond_false]; exact J
theorem db_Value.goal (it : Itv) (hp : decide (Itm.bulk (Itm.of it) ≤ 1073741824) = true) : db_Value.F it = some [.ag (Val.cells (Db.dec (Itm.of it)).1), .ag (Flt.cells (Db.dec (Itm.of it)).2)] := by
  have hb := of_decide_eq_true hp
  refine db_Value.F_in _ ?_
  intro v1 e1 v2 e2 v3 e3
  rw [ck_of (decide_eq_true (by omega)), Db.dec]
  by_cases a : Cb.chk (Itm.of it) = 0
  · rw [decide_eq_true a, Bool.not_true, cond_false, if_neg (fun h => h a)]
    obtain ⟨ho, hcs⟩ := Cb.chk0 it a
    by_cases k6 : it.kind = 6
    · have he := (Cb.own0 it ho).2.2.2.2.2.2.1 k6
      rw [Itm.bulk_of] at hb
      rw [decide_eq_true k6, Bool.not_true, cond_false, if_neg (show ¬ (Itm.of it).kind ≠ 6 from fun h => h k6), ck_of (by rw [decide_eq_true (show Itm.bulks it.kids + ([] : List Int).length ≤ 1073741824 by simp only [List.length_nil]; omega), decide_eq_true (show Cb.chks it.kids = 0 ∧ it.kids.length % 2 = 0 from ⟨hcs, he⟩)]; rfl), e2, e3, Db.value_of, if_pos k6]; rfl
    · rw [decide_eq_false k6, Bool.not_false, cond_true, if_pos (show (Itm.of it).kind ≠ 6 from k6), e1]; rfl
  · rw [decide_eq_false a, Bool.not_false, cond_true, if_pos a]; rfl
end Go.Eng
namespace Go.Eng
open Go.IntWalk
theorem law30_awake.goal : law30_awake.F = some [.b true] := by
  refine law30_awake.F_in ?_
  intro v1 h1 v2 h2 v3 h3 v4 h4 v5 h5 v6 h6 v7 h7 v8 h8 v9 h9 v10 h10 v11 h11 v12 h12 v13 h13 v14 h14 v15 h15
  subst h1
  have e2 : v2.err = 0 := by rw [h2]; decide +kernel
  have e4 : v4.err = 12 := by rw [h4]; decide +kernel
  have e5 : v5 = 6 := by rw [h5]; decide +kernel
  have e7 : v7.length = 2 := by rw [h7]; decide +kernel
  have e9 : v9 = [97] := by rw [h9, h7]; decide +kernel
  have e11 : v11 = 7 := by rw [h11, h7]; decide +kernel
  have e13 : v13 = 1018 := by rw [h13, h7]; decide +kernel
  have t6 : v6 = true := by rw [h6, e2, e5]; rfl
  have t8 : v8 = true := by rw [h8, t6, e7]; rfl
  have t10 : v10 = true := by rw [h10, t8, e9]; rfl
  have t12 : v12 = true := by rw [h12, t10, e11]; rfl
  have t14 : v14 = true := by rw [h14, t12, e13]; rfl
  have t15 : v15 = true := by rw [h15, t14, e4]; rfl
  have i0 : idxOK (0 : Int) v7.length = true := by rw [e7]; rfl
  have i1 : idxOK (1 : Int) v7.length = true := by rw [e7]; rfl
  rw [ck_of (by decide +kernel), ck_of (by decide +kernel)]
  simp only [i0, i1, t15, Bool.and_true, Bool.not_or_self, ck_true]
end Go.Eng
namespace Go.Eng
theorem utf_is.fit (r : Int) : ([.i .i64 r] : List TV).length = utf_is.d.np ∧ utf_is.d.run (envL trydbGl utf_is.env) [.i .i64 r] = some (([(.b (Utf.isRune r))] : List TV) ++ utf_is.d.ps.toList.map fun q => ([.i .i64 r] : List TV).getD q.1 .dead) :=
  ⟨by kernel_rfl, Eq.trans (b := utf_is.F r) (by kernel_rfl) (Eq.trans (utf_is.goal r) (by kernel_rfl))⟩
theorem utf_is.ok : SpecOK Go.Proofs.Tryd.prog (fun n => (trydbGl n).av) 94 (Ctr.fs (utf_is.c, utf_is.sg)) :=
  meets (l := utf_is.env) all_nil utf_is.chk (by
      intro ins outs h
      unfold utf_is.c at h
      split at h
      · cases h; exact utf_is.fit _
      · exact h.elim)
theorem utf_Rune.fit (b : List UInt8) (at_ : Int) (hp : (decide (b.length ≤ 1099511627776)) = true) : ([.sl .bs b, .i .i64 at_] : List TV).length = utf_Rune.d.np ∧ utf_Rune.d.run (envL trydbGl utf_Rune.env) [.sl .bs b, .i .i64 at_] = some (([(.i .i64 ((Utf.runeAt b at_).1)), (.i .i64 ((Utf.runeAt b at_).2))] : List TV) ++ utf_Rune.d.ps.toList.map fun q => ([.sl .bs b, .i .i64 at_] : List TV).getD q.1 .dead) :=
  ⟨by kernel_rfl, Eq.trans (b := utf_Rune.F b at_) (by kernel_rfl) (Eq.trans (utf_Rune.goal b at_ hp) (by kernel_rfl))⟩
theorem utf_Rune.ok : SpecOK Go.Proofs.Tryd.prog (fun n => (trydbGl n).av) 84 (Ctr.fs (utf_Rune.c, utf_Rune.sg)) :=
  meets (l := utf_Rune.env) (all_cons utf_is.ok all_nil) utf_Rune.chk (by
      intro ins outs h
      unfold utf_Rune.c at h
      split at h
      · obtain ⟨hp, rfl⟩ := h; exact utf_Rune.fit _ _ hp
      · exact h.elim)
theorem utf_look.fit (b : List UInt8) (hp : (decide (b.length ≤ 1099511627776)) = true) : ([.sl .bs b] : List TV).length = utf_look.d.np ∧ utf_look.d.run (envL trydbGl utf_look.env) [.sl .bs b] = some (([(.i .i64 (((Utf.look b).1 : Int))), (.i .i64 (((Utf.look b).2 : Int)))] : List TV) ++ utf_look.d.ps.toList.map fun q => ([.sl .bs b] : List TV).getD q.1 .dead) :=
  ⟨by kernel_rfl, Eq.trans (b := utf_look.F b) (by kernel_rfl) (Eq.trans (utf_look.goal b hp) (by kernel_rfl))⟩
theorem utf_look.ok : SpecOK Go.Proofs.Tryd.prog (fun n => (trydbGl n).av) 67 (Ctr.fs (utf_look.c, utf_look.sg)) :=
  meets (l := utf_look.env) (all_cons utf_Rune.ok all_nil) utf_look.chk (by
      intro ins outs h
      unfold utf_look.c at h
      split at h
      · obtain ⟨hp, rfl⟩ := h; exact utf_look.fit _ hp
      · exact h.elim)
theorem utf_Check.fit (b : List UInt8) (hp : (decide (b.length ≤ 1099511627776)) = true) : ([.sl .bs b] : List TV).length = utf_Check.d.np ∧ utf_Check.d.run (envL trydbGl utf_Check.env) [.sl .bs b] = some (([(.i .i64 (((Utf.look b).1 : Int))), (.b (Utf.whole b))] : List TV) ++ utf_Check.d.ps.toList.map fun q => ([.sl .bs b] : List TV).getD q.1 .dead) :=
  ⟨by kernel_rfl, Eq.trans (b := utf_Check.F b) (by kernel_rfl) (Eq.trans (utf_Check.goal b hp) (by kernel_rfl))⟩
theorem utf_Check.ok : SpecOK Go.Proofs.Tryd.prog (fun n => (trydbGl n).av) 41 (Ctr.fs (utf_Check.c, utf_Check.sg)) :=
  meets (l := utf_Check.env) (all_cons utf_look.ok all_nil) utf_Check.chk (by
      intro ins outs h
      unfold utf_Check.c at h
      split at h
      · obtain ⟨hp, rfl⟩ := h; exact utf_Check.fit _ hp
      · exact h.elim)
theorem ref2_Rune.fit (b : List UInt8) (at_ : Int) (hp : (decide (b.length ≤ 1099511627776)) = true) : ([.sl .bs b, .i .i64 at_] : List TV).length = ref2_Rune.d.np ∧ ref2_Rune.d.run (envL trydbGl ref2_Rune.env) [.sl .bs b, .i .i64 at_] = some (([(.i .i64 ((Utf.runeAt b at_).1)), (.i .i64 ((Utf.runeAt b at_).2))] : List TV) ++ ref2_Rune.d.ps.toList.map fun q => ([.sl .bs b, .i .i64 at_] : List TV).getD q.1 .dead) :=
  ⟨by kernel_rfl, Eq.trans (b := ref2_Rune.F b at_) (by kernel_rfl) (Eq.trans (ref2_Rune.goal b at_ hp) (by kernel_rfl))⟩
theorem ref2_Rune.ok : SpecOK Go.Proofs.Tryd.prog (fun n => (trydbGl n).av) 92 (Ctr.fs (ref2_Rune.c, ref2_Rune.sg)) :=
  meets (l := ref2_Rune.env) all_nil ref2_Rune.chk (by
      intro ins outs h
      unfold ref2_Rune.c at h
      split at h
      · obtain ⟨hp, rfl⟩ := h; exact ref2_Rune.fit _ _ hp
      · exact h.elim)
theorem ref2_Check.fit (b : List UInt8) (hp : (decide (b.length ≤ 1099511627776)) = true) : ([.sl .bs b] : List TV).length = ref2_Check.d.np ∧ ref2_Check.d.run (envL trydbGl ref2_Check.env) [.sl .bs b] = some (([(.i .i64 (((Utf.look b).1 : Int))), (.b (Utf.whole b))] : List TV) ++ ref2_Check.d.ps.toList.map fun q => ([.sl .bs b] : List TV).getD q.1 .dead) :=
  ⟨by kernel_rfl, Eq.trans (b := ref2_Check.F b) (by kernel_rfl) (Eq.trans (ref2_Check.goal b hp) (by kernel_rfl))⟩
theorem ref2_Check.ok : SpecOK Go.Proofs.Tryd.prog (fun n => (trydbGl n).av) 78 (Ctr.fs (ref2_Check.c, ref2_Check.sg)) :=
  meets (l := ref2_Check.env) (all_cons ref2_Rune.ok all_nil) ref2_Check.chk (by
      intro ins outs h
      unfold ref2_Check.c at h
      split at h
      · obtain ⟨hp, rfl⟩ := h; exact ref2_Check.fit _ hp
      · exact h.elim)
theorem ref2_Whole.fit (s : Str) (hp : (decide (s.length ≤ 1099511627776)) = true) : ([.s s] : List TV).length = ref2_Whole.d.np ∧ ref2_Whole.d.run (envL trydbGl ref2_Whole.env) [.s s] = some (([(.b (Utf.whole s))] : List TV) ++ ref2_Whole.d.ps.toList.map fun q => ([.s s] : List TV).getD q.1 .dead) :=
  ⟨by kernel_rfl, Eq.trans (b := ref2_Whole.F s) (by kernel_rfl) (Eq.trans (ref2_Whole.goal s hp) (by kernel_rfl))⟩
theorem ref2_Whole.ok : SpecOK Go.Proofs.Tryd.prog (fun n => (trydbGl n).av) 48 (Ctr.fs (ref2_Whole.c, ref2_Whole.sg)) :=
  meets (l := ref2_Whole.env) (all_cons ref2_Check.ok all_nil) ref2_Whole.chk (by
      intro ins outs h
      unfold ref2_Whole.c at h
      split at h
      · obtain ⟨hp, rfl⟩ := h; exact ref2_Whole.fit _ hp
      · exact h.elim)
theorem ref2_Zero.fit (s : Str) (hp : (decide (s.length ≤ 1099511627776)) = true) : ([.s s] : List TV).length = ref2_Zero.d.np ∧ ref2_Zero.d.run (envL trydbGl ref2_Zero.env) [.s s] = some (([(.b (Utf.zero s))] : List TV) ++ ref2_Zero.d.ps.toList.map fun q => ([.s s] : List TV).getD q.1 .dead) :=
  ⟨by kernel_rfl, Eq.trans (b := ref2_Zero.F s) (by kernel_rfl) (Eq.trans (ref2_Zero.goal s hp) (by kernel_rfl))⟩
theorem ref2_Zero.ok : SpecOK Go.Proofs.Tryd.prog (fun n => (trydbGl n).av) 45 (Ctr.fs (ref2_Zero.c, ref2_Zero.sg)) :=
  meets (l := ref2_Zero.env) all_nil ref2_Zero.chk (by
      intro ins outs h
      unfold ref2_Zero.c at h
      split at h
      · obtain ⟨hp, rfl⟩ := h; exact ref2_Zero.fit _ hp
      · exact h.elim)
theorem sl_IndexByte.fit (s : Str) (c : UInt8) : ([.s s, .u8 c] : List TV).length = sl_IndexByte.d.np ∧ sl_IndexByte.d.run (envL trydbGl sl_IndexByte.env) [.s s, .u8 c] = some (([(.i .i64 (Lib.indexByte s c))] : List TV) ++ sl_IndexByte.d.ps.toList.map fun q => ([.s s, .u8 c] : List TV).getD q.1 .dead) :=
  ⟨by kernel_rfl, Eq.trans (b := sl_IndexByte.F s c) (by kernel_rfl) (Eq.trans (sl_IndexByte.goal s c) (by kernel_rfl))⟩
theorem sl_IndexByte.ok : SpecOK Go.Proofs.Tryd.prog (fun n => (trydbGl n).av) 95 (Ctr.fs (sl_IndexByte.c, sl_IndexByte.sg)) :=
  meets (l := sl_IndexByte.env) all_nil sl_IndexByte.chk (by
      intro ins outs h
      unfold sl_IndexByte.c at h
      split at h
      · cases h; exact sl_IndexByte.fit _ _
      · exact h.elim)
theorem sl_Index.fit (s : Str) (t : Str) (hp : (decide (t.length = 1)) = true) : ([.s s, .s t] : List TV).length = sl_Index.d.np ∧ sl_Index.d.run (envL trydbGl sl_Index.env) [.s s, .s t] = some (([(.i .i64 (Lib.indexByte s (t.getD 0 0)))] : List TV) ++ sl_Index.d.ps.toList.map fun q => ([.s s, .s t] : List TV).getD q.1 .dead) :=
  ⟨by kernel_rfl, Eq.trans (b := sl_Index.F s t) (by kernel_rfl) (Eq.trans (sl_Index.goal s t hp) (by kernel_rfl))⟩
theorem sl_Index.ok : SpecOK Go.Proofs.Tryd.prog (fun n => (trydbGl n).av) 85 (Ctr.fs (sl_Index.c, sl_Index.sg)) :=
  meets (l := sl_Index.env) (all_cons sl_IndexByte.ok all_nil) sl_Index.chk (by
      intro ins outs h
      unfold sl_Index.c at h
      split at h
      · obtain ⟨hp, rfl⟩ := h; exact sl_Index.fit _ _ hp
      · exact h.elim)
theorem st_Index.fit (s : Str) (t : Str) (hp : (decide (t.length = 1)) = true) : ([.s s, .s t] : List TV).length = st_Index.d.np ∧ st_Index.d.run (envL trydbGl st_Index.env) [.s s, .s t] = some (([(.i .i64 (Lib.indexByte s (t.getD 0 0)))] : List TV) ++ st_Index.d.ps.toList.map fun q => ([.s s, .s t] : List TV).getD q.1 .dead) :=
  ⟨by kernel_rfl, Eq.trans (b := st_Index.F s t) (by kernel_rfl) (Eq.trans (st_Index.goal s t hp) (by kernel_rfl))⟩
theorem st_Index.ok : SpecOK Go.Proofs.Tryd.prog (fun n => (trydbGl n).av) 68 (Ctr.fs (st_Index.c, st_Index.sg)) :=
  meets (l := st_Index.env) (all_cons sl_Index.ok all_nil) st_Index.chk (by
      intro ins outs h
      unfold st_Index.c at h
      split at h
      · obtain ⟨hp, rfl⟩ := h; exact st_Index.fit _ _ hp
      · exact h.elim)
theorem st_Contains.fit (s : Str) (t : Str) (hp : (decide (t.length = 1)) = true) : ([.s s, .s t] : List TV).length = st_Contains.d.np ∧ st_Contains.d.run (envL trydbGl st_Contains.env) [.s s, .s t] = some (([(.b (decide (0 ≤ Lib.indexByte s (t.getD 0 0))))] : List TV) ++ st_Contains.d.ps.toList.map fun q => ([.s s, .s t] : List TV).getD q.1 .dead) :=
  ⟨by kernel_rfl, Eq.trans (b := st_Contains.F s t) (by kernel_rfl) (Eq.trans (st_Contains.goal s t hp) (by kernel_rfl))⟩
theorem st_Contains.ok : SpecOK Go.Proofs.Tryd.prog (fun n => (trydbGl n).av) 43 (Ctr.fs (st_Contains.c, st_Contains.sg)) :=
  meets (l := st_Contains.env) (all_cons st_Index.ok all_nil) st_Contains.chk (by
      intro ins outs h
      unfold st_Contains.c at h
      split at h
      · obtain ⟨hp, rfl⟩ := h; exact st_Contains.fit _ _ hp
      · exact h.elim)
theorem tree_Name.fit (k : Int) : ([.i .i64 k] : List TV).length = tree_Name.d.np ∧ tree_Name.d.run (envL trydbGl tree_Name.env) [.i .i64 k] = some (([(.s (Tree.name k))] : List TV) ++ tree_Name.d.ps.toList.map fun q => ([.i .i64 k] : List TV).getD q.1 .dead) :=
  ⟨by kernel_rfl, Eq.trans (b := tree_Name.F k) (by kernel_rfl) (Eq.trans (tree_Name.goal k) (by kernel_rfl))⟩
theorem tree_Name.ok : SpecOK Go.Proofs.Tryd.prog (fun n => (trydbGl n).av) 52 (Ctr.fs (tree_Name.c, tree_Name.sg)) :=
  meets (l := tree_Name.env) all_nil tree_Name.chk (by
      intro ins outs h
      unfold tree_Name.c at h
      split at h
      · cases h; exact tree_Name.fit _
      · exact h.elim)
theorem tree_fields.fit (v_kind : Int) (v_bits : UInt64) (v_high : UInt64) (v_low : UInt64) (v_text : Str) (v_more : Str) (v_sub : Int) (v_bytes : List UInt8) (v_kids : List Fld) : ([.ag [.i .i64 v_kind, .u64 v_bits, .u64 v_high, .u64 v_low, .s v_text, .s v_more, .i .i64 v_sub, .sl .bs v_bytes, .sl .fl v_kids]] : List TV).length = tree_fields.d.np ∧ tree_fields.d.run (envL trydbGl tree_fields.env) [.ag [.i .i64 v_kind, .u64 v_bits, .u64 v_high, .u64 v_low, .s v_text, .s v_more, .i .i64 v_sub, .sl .bs v_bytes, .sl .fl v_kids]] = some (([(.b (Tree.fieldsOK (Val.mk v_kind v_bits v_high v_low v_text v_more v_sub v_bytes v_kids)))] : List TV) ++ tree_fields.d.ps.toList.map fun q => ([.ag [.i .i64 v_kind, .u64 v_bits, .u64 v_high, .u64 v_low, .s v_text, .s v_more, .i .i64 v_sub, .sl .bs v_bytes, .sl .fl v_kids]] : List TV).getD q.1 .dead) :=
  ⟨by kernel_rfl, Eq.trans (b := tree_fields.F (Val.mk v_kind v_bits v_high v_low v_text v_more v_sub v_bytes v_kids)) (by kernel_rfl) (Eq.trans (tree_fields.goal (Val.mk v_kind v_bits v_high v_low v_text v_more v_sub v_bytes v_kids)) (by kernel_rfl))⟩
theorem tree_fields.ok : SpecOK Go.Proofs.Tryd.prog (fun n => (trydbGl n).av) 53 (Ctr.fs (tree_fields.c, tree_fields.sg)) :=
  meets (l := tree_fields.env) all_nil tree_fields.chk (by
      intro ins outs h
      unfold tree_fields.c at h
      split at h
      · cases h; exact tree_fields.fit _ _ _ _ _ _ _ _ _
      · exact h.elim)
theorem tree_whole.fit (s : Str) (plain : Bool) (hp : (decide (s.length ≤ 1099511627776)) = true) : ([.s s, .b plain] : List TV).length = tree_whole.d.np ∧ tree_whole.d.run (envL trydbGl tree_whole.env) [.s s, .b plain] = some (([(.b (Tree.wholeT s plain))] : List TV) ++ tree_whole.d.ps.toList.map fun q => ([.s s, .b plain] : List TV).getD q.1 .dead) :=
  ⟨by kernel_rfl, Eq.trans (b := tree_whole.F s plain) (by kernel_rfl) (Eq.trans (tree_whole.goal s plain hp) (by kernel_rfl))⟩
theorem tree_whole.ok : SpecOK Go.Proofs.Tryd.prog (fun n => (trydbGl n).av) 54 (Ctr.fs (tree_whole.c, tree_whole.sg)) :=
  meets (l := tree_whole.env) (all_cons utf_Check.ok (all_cons st_Contains.ok all_nil)) tree_whole.chk (by
      intro ins outs h
      unfold tree_whole.c at h
      split at h
      · obtain ⟨hp, rfl⟩ := h; exact tree_whole.fit _ _ hp
      · exact h.elim)
theorem tree_check.fit (n : Nat) (v_kind : Int) (v_bits : UInt64) (v_high : UInt64) (v_low : UInt64) (v_text : Str) (v_more : Str) (v_sub : Int) (v_bytes : List UInt8) (v_kids : List Fld) (name : Str) (path : List Int) (hp : ((decide (Fld.bulk (Fld.of name (Val.mk v_kind v_bits v_high v_low v_text v_more v_sub v_bytes v_kids)) + path.length ≤ 1099511627776)) && decide ((Fld.bulk (Fld.of name (Val.mk v_kind v_bits v_high v_low v_text v_more v_sub v_bytes v_kids))) < n + 1)) = true) : ([.ag [.i .i64 v_kind, .u64 v_bits, .u64 v_high, .u64 v_low, .s v_text, .s v_more, .i .i64 v_sub, .sl .bs v_bytes, .sl .fl v_kids], .s name, .sl .is path] : List TV).length = tree_check.d.np ∧ tree_check.d.run (envL trydbGl (tree_check.env n)) [.ag [.i .i64 v_kind, .u64 v_bits, .u64 v_high, .u64 v_low, .s v_text, .s v_more, .i .i64 v_sub, .sl .bs v_bytes, .sl .fl v_kids], .s name, .sl .is path] = some (([(.sl .is ((Tree.chkF (Fld.of name (Val.mk v_kind v_bits v_high v_low v_text v_more v_sub v_bytes v_kids)) path).1)), (.i .i64 ((Tree.chkF (Fld.of name (Val.mk v_kind v_bits v_high v_low v_text v_more v_sub v_bytes v_kids)) path).2))] : List TV) ++ tree_check.d.ps.toList.map fun q => ([.ag [.i .i64 v_kind, .u64 v_bits, .u64 v_high, .u64 v_low, .s v_text, .s v_more, .i .i64 v_sub, .sl .bs v_bytes, .sl .fl v_kids], .s name, .sl .is path] : List TV).getD q.1 .dead) :=
  ⟨by kernel_rfl, Eq.trans (b := tree_check.F n (Val.mk v_kind v_bits v_high v_low v_text v_more v_sub v_bytes v_kids) name path) (by kernel_rfl) (Eq.trans (tree_check.goal n (Val.mk v_kind v_bits v_high v_low v_text v_more v_sub v_bytes v_kids) name path hp) (by kernel_rfl))⟩
theorem tcheck.oks : ∀ n : Nat, (SpecOK Go.Proofs.Tryd.prog (fun n => (trydbGl n).av) 35 (Ctr.fs (tree_check.cn n, tree_check.sg))) := by
  intro n
  induction n with
  | zero => exact spec_zero (by
      intro ti to_ h
      unfold tree_check.cn at h
      split at h
      · obtain ⟨h, _⟩ := h; simp at h
      · exact h.elim)
  | succ n ih =>
    have ih0 := ih
    exact meets (l := tree_check.env n) (all_cons ih0 (all_cons clone_is.ok (all_cons tree_Name.ok (all_cons tree_fields.ok (all_cons tree_whole.ok all_nil))))) (tree_check.chk n) (by
      intro ins outs h
      unfold tree_check.cn at h
      split at h
      · obtain ⟨hp, rfl⟩ := h; exact tree_check.fit n _ _ _ _ _ _ _ _ _ _ _ hp
      · exact h.elim)
theorem tree_check.ok : SpecOK Go.Proofs.Tryd.prog (fun n => (trydbGl n).av) 35 (Ctr.fs (tree_check.c, tree_check.sg)) := spec_sub fun ti to_ h => by
  unfold tree_check.c at h
  split at h
  · obtain ⟨hp, rfl⟩ := h; exact ⟨tree_check.cn (_ + 1), (tcheck.oks _), Bool.and_eq_true_iff.2 ⟨hp, decide_eq_true (Nat.lt_succ_self _)⟩, rfl⟩
  · exact h.elim
theorem tree_Check.fit (v_kind : Int) (v_bits : UInt64) (v_high : UInt64) (v_low : UInt64) (v_text : Str) (v_more : Str) (v_sub : Int) (v_bytes : List UInt8) (v_kids : List Fld) (hp : (decide (Fld.bulk (Fld.of [] (Val.mk v_kind v_bits v_high v_low v_text v_more v_sub v_bytes v_kids)) ≤ 1099511627776)) = true) : ([.ag [.i .i64 v_kind, .u64 v_bits, .u64 v_high, .u64 v_low, .s v_text, .s v_more, .i .i64 v_sub, .sl .bs v_bytes, .sl .fl v_kids]] : List TV).length = tree_Check.d.np ∧ tree_Check.d.run (envL trydbGl tree_Check.env) [.ag [.i .i64 v_kind, .u64 v_bits, .u64 v_high, .u64 v_low, .s v_text, .s v_more, .i .i64 v_sub, .sl .bs v_bytes, .sl .fl v_kids]] = some (([(.sl .is ((Tree.chkF (Fld.of [] (Val.mk v_kind v_bits v_high v_low v_text v_more v_sub v_bytes v_kids)) []).1)), (.i .i64 ((Tree.chkF (Fld.of [] (Val.mk v_kind v_bits v_high v_low v_text v_more v_sub v_bytes v_kids)) []).2))] : List TV) ++ tree_Check.d.ps.toList.map fun q => ([.ag [.i .i64 v_kind, .u64 v_bits, .u64 v_high, .u64 v_low, .s v_text, .s v_more, .i .i64 v_sub, .sl .bs v_bytes, .sl .fl v_kids]] : List TV).getD q.1 .dead) :=
  ⟨by kernel_rfl, Eq.trans (b := tree_Check.F (Val.mk v_kind v_bits v_high v_low v_text v_more v_sub v_bytes v_kids)) (by kernel_rfl) (Eq.trans (tree_Check.goal (Val.mk v_kind v_bits v_high v_low v_text v_more v_sub v_bytes v_kids) hp) (by kernel_rfl))⟩
theorem tree_Check.ok : SpecOK Go.Proofs.Tryd.prog (fun n => (trydbGl n).av) 21 (Ctr.fs (tree_Check.c, tree_Check.sg)) :=
  meets (l := tree_Check.env) (all_cons tree_check.ok all_nil) tree_Check.chk (by
      intro ins outs h
      unfold tree_Check.c at h
      split at h
      · obtain ⟨hp, rfl⟩ := h; exact tree_Check.fit _ _ _ _ _ _ _ _ _ hp
      · exact h.elim)
theorem ref17_kinds.fit : ([] : List TV).length = ref17_kinds.d.np ∧ ref17_kinds.d.run (envL trydbGl ref17_kinds.env) [] = some (([(.sl .is (Tree.kinds))] : List TV) ++ ref17_kinds.d.ps.toList.map fun q => ([] : List TV).getD q.1 .dead) :=
  ⟨by kernel_rfl, Eq.trans (b := ref17_kinds.F ) (by kernel_rfl) (Eq.trans (ref17_kinds.goal ) (by kernel_rfl))⟩
theorem ref17_kinds.ok : SpecOK Go.Proofs.Tryd.prog (fun n => (trydbGl n).av) 93 (Ctr.fs (ref17_kinds.c, ref17_kinds.sg)) :=
  meets (l := ref17_kinds.env) all_nil ref17_kinds.chk (by
      intro ins outs h
      unfold ref17_kinds.c at h
      split at h
      · cases h; exact ref17_kinds.fit
      · exact h.elim)
theorem ref17_Name.fit (k : Int) : ([.i .i64 k] : List TV).length = ref17_Name.d.np ∧ ref17_Name.d.run (envL trydbGl ref17_Name.env) [.i .i64 k] = some (([(.s (Tree.name k))] : List TV) ++ ref17_Name.d.ps.toList.map fun q => ([.i .i64 k] : List TV).getD q.1 .dead) :=
  ⟨by kernel_rfl, Eq.trans (b := ref17_Name.F k) (by kernel_rfl) (Eq.trans (ref17_Name.goal k) (by kernel_rfl))⟩
theorem ref17_Name.ok : SpecOK Go.Proofs.Tryd.prog (fun n => (trydbGl n).av) 79 (Ctr.fs (ref17_Name.c, ref17_Name.sg)) :=
  meets (l := ref17_Name.env) (all_cons ref17_kinds.ok all_nil) ref17_Name.chk (by
      intro ins outs h
      unfold ref17_Name.c at h
      split at h
      · cases h; exact ref17_Name.fit _
      · exact h.elim)
theorem ref17_has.fit (k : Int) : ([.i .i64 k] : List TV).length = ref17_has.d.np ∧ ref17_has.d.run (envL trydbGl ref17_has.env) [.i .i64 k] = some (([(.b (Tree.hasN 0 k)), (.b (Tree.hasN 1 k)), (.b (Tree.hasN 2 k)), (.b (Tree.hasN 3 k)), (.b (Tree.hasN 4 k)), (.b (Tree.hasN 5 k)), (.b (Tree.hasN 6 k))] : List TV) ++ ref17_has.d.ps.toList.map fun q => ([.i .i64 k] : List TV).getD q.1 .dead) :=
  ⟨by kernel_rfl, Eq.trans (b := ref17_has.F k) (by kernel_rfl) (Eq.trans (ref17_has.goal k) (by kernel_rfl))⟩
theorem ref17_has.ok : SpecOK Go.Proofs.Tryd.prog (fun n => (trydbGl n).av) 80 (Ctr.fs (ref17_has.c, ref17_has.sg)) :=
  meets (l := ref17_has.env) all_nil ref17_has.chk (by
      intro ins outs h
      unfold ref17_has.c at h
      split at h
      · cases h; exact ref17_has.fit _
      · exact h.elim)
theorem ref17_own.fit (v_kind : Int) (v_bits : UInt64) (v_high : UInt64) (v_low : UInt64) (v_text : Str) (v_more : Str) (v_sub : Int) (v_bytes : List UInt8) (v_kids : List Fld) (hp : (decide (Fld.bulk (Fld.of [] (Val.mk v_kind v_bits v_high v_low v_text v_more v_sub v_bytes v_kids)) ≤ 1099511627776)) = true) : ([.ag [.i .i64 v_kind, .u64 v_bits, .u64 v_high, .u64 v_low, .s v_text, .s v_more, .i .i64 v_sub, .sl .bs v_bytes, .sl .fl v_kids]] : List TV).length = ref17_own.d.np ∧ ref17_own.d.run (envL trydbGl ref17_own.env) [.ag [.i .i64 v_kind, .u64 v_bits, .u64 v_high, .u64 v_low, .s v_text, .s v_more, .i .i64 v_sub, .sl .bs v_bytes, .sl .fl v_kids]] = some (([(.i .i64 (Tree.own (Val.mk v_kind v_bits v_high v_low v_text v_more v_sub v_bytes v_kids)))] : List TV) ++ ref17_own.d.ps.toList.map fun q => ([.ag [.i .i64 v_kind, .u64 v_bits, .u64 v_high, .u64 v_low, .s v_text, .s v_more, .i .i64 v_sub, .sl .bs v_bytes, .sl .fl v_kids]] : List TV).getD q.1 .dead) :=
  ⟨by kernel_rfl, Eq.trans (b := ref17_own.F (Val.mk v_kind v_bits v_high v_low v_text v_more v_sub v_bytes v_kids)) (by kernel_rfl) (Eq.trans (ref17_own.goal (Val.mk v_kind v_bits v_high v_low v_text v_more v_sub v_bytes v_kids) hp) (by kernel_rfl))⟩
theorem ref17_own.ok : SpecOK Go.Proofs.Tryd.prog (fun n => (trydbGl n).av) 49 (Ctr.fs (ref17_own.c, ref17_own.sg)) :=
  meets (l := ref17_own.env) (all_cons ref2_Zero.ok (all_cons ref2_Whole.ok (all_cons ref17_Name.ok (all_cons ref17_has.ok all_nil)))) ref17_own.chk (by
      intro ins outs h
      unfold ref17_own.c at h
      split at h
      · obtain ⟨hp, rfl⟩ := h; exact ref17_own.fit _ _ _ _ _ _ _ _ _ hp
      · exact h.elim)
theorem ref17_Named.fit (s : Str) (hp : (decide (s.length ≤ 1099511627776)) = true) : ([.s s] : List TV).length = ref17_Named.d.np ∧ ref17_Named.d.run (envL trydbGl ref17_Named.env) [.s s] = some (([(.b (Tree.wholeT s true))] : List TV) ++ ref17_Named.d.ps.toList.map fun q => ([.s s] : List TV).getD q.1 .dead) :=
  ⟨by kernel_rfl, Eq.trans (b := ref17_Named.F s) (by kernel_rfl) (Eq.trans (ref17_Named.goal s hp) (by kernel_rfl))⟩
theorem ref17_Named.ok : SpecOK Go.Proofs.Tryd.prog (fun n => (trydbGl n).av) 50 (Ctr.fs (ref17_Named.c, ref17_Named.sg)) :=
  meets (l := ref17_Named.env) (all_cons ref2_Zero.ok (all_cons ref2_Whole.ok all_nil)) ref17_Named.chk (by
      intro ins outs h
      unfold ref17_Named.c at h
      split at h
      · obtain ⟨hp, rfl⟩ := h; exact ref17_Named.fit _ hp
      · exact h.elim)
theorem ref17_longer.fit (p : List Int) (k : Int) (hp : (decide (p.length ≤ 1099511627776)) = true) : ([.sl .is p, .i .i64 k] : List TV).length = ref17_longer.d.np ∧ ref17_longer.d.run (envL trydbGl ref17_longer.env) [.sl .is p, .i .i64 k] = some (([(.sl .is ((p ++ [k])))] : List TV) ++ ref17_longer.d.ps.toList.map fun q => ([.sl .is p, .i .i64 k] : List TV).getD q.1 .dead) :=
  ⟨by kernel_rfl, Eq.trans (b := ref17_longer.F p k) (by kernel_rfl) (Eq.trans (ref17_longer.goal p k hp) (by kernel_rfl))⟩
theorem ref17_longer.ok : SpecOK Go.Proofs.Tryd.prog (fun n => (trydbGl n).av) 51 (Ctr.fs (ref17_longer.c, ref17_longer.sg)) :=
  meets (l := ref17_longer.env) all_nil ref17_longer.chk (by
      intro ins outs h
      unfold ref17_longer.c at h
      split at h
      · obtain ⟨hp, rfl⟩ := h; exact ref17_longer.fit _ _ hp
      · exact h.elim)
theorem ref17_check.fit (n : Nat) (v_kind : Int) (v_bits : UInt64) (v_high : UInt64) (v_low : UInt64) (v_text : Str) (v_more : Str) (v_sub : Int) (v_bytes : List UInt8) (v_kids : List Fld) (name : Str) (p : List Int) (hp : ((decide (Fld.bulk (Fld.of name (Val.mk v_kind v_bits v_high v_low v_text v_more v_sub v_bytes v_kids)) + p.length ≤ 1099511627776)) && decide ((Fld.bulk (Fld.of name (Val.mk v_kind v_bits v_high v_low v_text v_more v_sub v_bytes v_kids))) < n + 1)) = true) : ([.ag [.i .i64 v_kind, .u64 v_bits, .u64 v_high, .u64 v_low, .s v_text, .s v_more, .i .i64 v_sub, .sl .bs v_bytes, .sl .fl v_kids], .s name, .sl .is p] : List TV).length = ref17_check.d.np ∧ ref17_check.d.run (envL trydbGl (ref17_check.env n)) [.ag [.i .i64 v_kind, .u64 v_bits, .u64 v_high, .u64 v_low, .s v_text, .s v_more, .i .i64 v_sub, .sl .bs v_bytes, .sl .fl v_kids], .s name, .sl .is p] = some (([(.sl .is ((Tree.chkF (Fld.of name (Val.mk v_kind v_bits v_high v_low v_text v_more v_sub v_bytes v_kids)) p).1)), (.i .i64 ((Tree.chkF (Fld.of name (Val.mk v_kind v_bits v_high v_low v_text v_more v_sub v_bytes v_kids)) p).2))] : List TV) ++ ref17_check.d.ps.toList.map fun q => ([.ag [.i .i64 v_kind, .u64 v_bits, .u64 v_high, .u64 v_low, .s v_text, .s v_more, .i .i64 v_sub, .sl .bs v_bytes, .sl .fl v_kids], .s name, .sl .is p] : List TV).getD q.1 .dead) :=
  ⟨by kernel_rfl, Eq.trans (b := ref17_check.F n (Val.mk v_kind v_bits v_high v_low v_text v_more v_sub v_bytes v_kids) name p) (by kernel_rfl) (Eq.trans (ref17_check.goal n (Val.mk v_kind v_bits v_high v_low v_text v_more v_sub v_bytes v_kids) name p hp) (by kernel_rfl))⟩
theorem rcheck.oks : ∀ n : Nat, (SpecOK Go.Proofs.Tryd.prog (fun n => (trydbGl n).av) 33 (Ctr.fs (ref17_check.cn n, ref17_check.sg))) := by
  intro n
  induction n with
  | zero => exact spec_zero (by
      intro ti to_ h
      unfold ref17_check.cn at h
      split at h
      · obtain ⟨h, _⟩ := h; simp at h
      · exact h.elim)
  | succ n ih =>
    have ih0 := ih
    exact meets (l := ref17_check.env n) (all_cons ih0 (all_cons ref17_own.ok (all_cons ref17_Named.ok (all_cons ref17_longer.ok all_nil)))) (ref17_check.chk n) (by
      intro ins outs h
      unfold ref17_check.cn at h
      split at h
      · obtain ⟨hp, rfl⟩ := h; exact ref17_check.fit n _ _ _ _ _ _ _ _ _ _ _ hp
      · exact h.elim)
theorem ref17_check.ok : SpecOK Go.Proofs.Tryd.prog (fun n => (trydbGl n).av) 33 (Ctr.fs (ref17_check.c, ref17_check.sg)) := spec_sub fun ti to_ h => by
  unfold ref17_check.c at h
  split at h
  · obtain ⟨hp, rfl⟩ := h; exact ⟨ref17_check.cn (_ + 1), (rcheck.oks _), Bool.and_eq_true_iff.2 ⟨hp, decide_eq_true (Nat.lt_succ_self _)⟩, rfl⟩
  · exact h.elim
theorem ref17_Check.fit (v_kind : Int) (v_bits : UInt64) (v_high : UInt64) (v_low : UInt64) (v_text : Str) (v_more : Str) (v_sub : Int) (v_bytes : List UInt8) (v_kids : List Fld) (hp : (decide (Fld.bulk (Fld.of [] (Val.mk v_kind v_bits v_high v_low v_text v_more v_sub v_bytes v_kids)) ≤ 1099511627776)) = true) : ([.ag [.i .i64 v_kind, .u64 v_bits, .u64 v_high, .u64 v_low, .s v_text, .s v_more, .i .i64 v_sub, .sl .bs v_bytes, .sl .fl v_kids]] : List TV).length = ref17_Check.d.np ∧ ref17_Check.d.run (envL trydbGl ref17_Check.env) [.ag [.i .i64 v_kind, .u64 v_bits, .u64 v_high, .u64 v_low, .s v_text, .s v_more, .i .i64 v_sub, .sl .bs v_bytes, .sl .fl v_kids]] = some (([(.sl .is ((Tree.chkF (Fld.of [] (Val.mk v_kind v_bits v_high v_low v_text v_more v_sub v_bytes v_kids)) []).1)), (.i .i64 ((Tree.chkF (Fld.of [] (Val.mk v_kind v_bits v_high v_low v_text v_more v_sub v_bytes v_kids)) []).2))] : List TV) ++ ref17_Check.d.ps.toList.map fun q => ([.ag [.i .i64 v_kind, .u64 v_bits, .u64 v_high, .u64 v_low, .s v_text, .s v_more, .i .i64 v_sub, .sl .bs v_bytes, .sl .fl v_kids]] : List TV).getD q.1 .dead) :=
  ⟨by kernel_rfl, Eq.trans (b := ref17_Check.F (Val.mk v_kind v_bits v_high v_low v_text v_more v_sub v_bytes v_kids)) (by kernel_rfl) (Eq.trans (ref17_Check.goal (Val.mk v_kind v_bits v_high v_low v_text v_more v_sub v_bytes v_kids) hp) (by kernel_rfl))⟩
theorem ref17_Check.ok : SpecOK Go.Proofs.Tryd.prog (fun n => (trydbGl n).av) 19 (Ctr.fs (ref17_Check.c, ref17_Check.sg)) :=
  meets (l := ref17_Check.env) (all_cons ref17_check.ok all_nil) ref17_Check.chk (by
      intro ins outs h
      unfold ref17_Check.c at h
      split at h
      · obtain ⟨hp, rfl⟩ := h; exact ref17_Check.fit _ _ _ _ _ _ _ _ _ hp
      · exact h.elim)
theorem ref1_SameInts.fit (a : List Int) (b : List Int) (hp : (decide (a.length ≤ 1099511627776)) = true) : ([.sl .is a, .sl .is b] : List TV).length = ref1_SameInts.d.np ∧ ref1_SameInts.d.run (envL trydbGl ref1_SameInts.env) [.sl .is a, .sl .is b] = some (([(.b (decide (a = b)))] : List TV) ++ ref1_SameInts.d.ps.toList.map fun q => ([.sl .is a, .sl .is b] : List TV).getD q.1 .dead) :=
  ⟨by kernel_rfl, Eq.trans (b := ref1_SameInts.F a b) (by kernel_rfl) (Eq.trans (ref1_SameInts.goal a b hp) (by kernel_rfl))⟩
theorem ref1_SameInts.ok : SpecOK Go.Proofs.Tryd.prog (fun n => (trydbGl n).av) 24 (Ctr.fs (ref1_SameInts.c, ref1_SameInts.sg)) :=
  meets (l := ref1_SameInts.env) all_nil ref1_SameInts.chk (by
      intro ins outs h
      unfold ref1_SameInts.c at h
      split at h
      · obtain ⟨hp, rfl⟩ := h; exact ref1_SameInts.fit _ _ hp
      · exact h.elim)
theorem book_Room.fit (left : Int) (sizes : List Int) (hp : (decide (left ≤ 10000 ∧ sizes.length ≤ 10) && sizes.all (fun s => decide (0 ≤ s))) = true) : ([.i .i64 left, .sl .is sizes] : List TV).length = book_Room.d.np ∧ book_Room.d.run (envL trydbGl book_Room.env) [.i .i64 left, .sl .is sizes] = some (([(.i .i64 (Book.room left sizes))] : List TV) ++ book_Room.d.ps.toList.map fun q => ([.i .i64 left, .sl .is sizes] : List TV).getD q.1 .dead) :=
  ⟨by kernel_rfl, Eq.trans (b := book_Room.F left sizes) (by kernel_rfl) (Eq.trans (book_Room.goal left sizes hp) (by kernel_rfl))⟩
theorem book_Room.ok : SpecOK Go.Proofs.Tryd.prog (fun n => (trydbGl n).av) 34 (Ctr.fs (book_Room.c, book_Room.sg)) :=
  meets (l := book_Room.env) all_nil book_Room.chk (by
      intro ins outs h
      unfold book_Room.c at h
      split at h
      · obtain ⟨hp, rfl⟩ := h; exact book_Room.fit _ _ hp
      · exact h.elim)
theorem book_Value.fit (n : Nat) (left : Int) (v_kind : Int) (v_bits : UInt64) (v_high : UInt64) (v_low : UInt64) (v_text : Str) (v_more : Str) (v_sub : Int) (v_bytes : List UInt8) (v_kids : List Fld) (hp : ((decide (left ≤ 10000)) && decide ((Fld.bulk (Fld.of [] (Val.mk v_kind v_bits v_high v_low v_text v_more v_sub v_bytes v_kids))) < n + 1)) = true) : ([.i .i64 left, .ag [.i .i64 v_kind, .u64 v_bits, .u64 v_high, .u64 v_low, .s v_text, .s v_more, .i .i64 v_sub, .sl .bs v_bytes, .sl .fl v_kids]] : List TV).length = book_Value.d.np ∧ book_Value.d.run (envL trydbGl (book_Value.env n)) [.i .i64 left, .ag [.i .i64 v_kind, .u64 v_bits, .u64 v_high, .u64 v_low, .s v_text, .s v_more, .i .i64 v_sub, .sl .bs v_bytes, .sl .fl v_kids]] = some (([(.i .i64 (Book.value left (Fld.of [] (Val.mk v_kind v_bits v_high v_low v_text v_more v_sub v_bytes v_kids))))] : List TV) ++ book_Value.d.ps.toList.map fun q => ([.i .i64 left, .ag [.i .i64 v_kind, .u64 v_bits, .u64 v_high, .u64 v_low, .s v_text, .s v_more, .i .i64 v_sub, .sl .bs v_bytes, .sl .fl v_kids]] : List TV).getD q.1 .dead) :=
  ⟨by kernel_rfl, Eq.trans (b := book_Value.F n left (Val.mk v_kind v_bits v_high v_low v_text v_more v_sub v_bytes v_kids)) (by kernel_rfl) (Eq.trans (book_Value.goal n left (Val.mk v_kind v_bits v_high v_low v_text v_more v_sub v_bytes v_kids) hp) (by kernel_rfl))⟩
theorem bvalue.oks : ∀ n : Nat, (SpecOK Go.Proofs.Tryd.prog (fun n => (trydbGl n).av) 20 (Ctr.fs (book_Value.cn n, book_Value.sg))) := by
  intro n
  induction n with
  | zero => exact spec_zero (by
      intro ti to_ h
      unfold book_Value.cn at h
      split at h
      · obtain ⟨h, _⟩ := h; simp at h
      · exact h.elim)
  | succ n ih =>
    have ih0 := ih
    exact meets (l := book_Value.env n) (all_cons ih0 (all_cons book_Room.ok all_nil)) (book_Value.chk n) (by
      intro ins outs h
      unfold book_Value.cn at h
      split at h
      · obtain ⟨hp, rfl⟩ := h; exact book_Value.fit n _ _ _ _ _ _ _ _ _ _ hp
      · exact h.elim)
theorem book_Value.ok : SpecOK Go.Proofs.Tryd.prog (fun n => (trydbGl n).av) 20 (Ctr.fs (book_Value.c, book_Value.sg)) := spec_sub fun ti to_ h => by
  unfold book_Value.c at h
  split at h
  · obtain ⟨hp, rfl⟩ := h; exact ⟨book_Value.cn (_ + 1), (bvalue.oks _), Bool.and_eq_true_iff.2 ⟨hp, decide_eq_true (Nat.lt_succ_self _)⟩, rfl⟩
  · exact h.elim
theorem book_Small.fit (v_kind : Int) (v_bits : UInt64) (v_high : UInt64) (v_low : UInt64) (v_text : Str) (v_more : Str) (v_sub : Int) (v_bytes : List UInt8) (v_kids : List Fld) : ([.ag [.i .i64 v_kind, .u64 v_bits, .u64 v_high, .u64 v_low, .s v_text, .s v_more, .i .i64 v_sub, .sl .bs v_bytes, .sl .fl v_kids]] : List TV).length = book_Small.d.np ∧ book_Small.d.run (envL trydbGl book_Small.env) [.ag [.i .i64 v_kind, .u64 v_bits, .u64 v_high, .u64 v_low, .s v_text, .s v_more, .i .i64 v_sub, .sl .bs v_bytes, .sl .fl v_kids]] = some (([(.b (decide (0 ≤ Book.value 1200 (Fld.of [] (Val.mk v_kind v_bits v_high v_low v_text v_more v_sub v_bytes v_kids)))))] : List TV) ++ book_Small.d.ps.toList.map fun q => ([.ag [.i .i64 v_kind, .u64 v_bits, .u64 v_high, .u64 v_low, .s v_text, .s v_more, .i .i64 v_sub, .sl .bs v_bytes, .sl .fl v_kids]] : List TV).getD q.1 .dead) :=
  ⟨by kernel_rfl, Eq.trans (b := book_Small.F (Val.mk v_kind v_bits v_high v_low v_text v_more v_sub v_bytes v_kids)) (by kernel_rfl) (Eq.trans (book_Small.goal (Val.mk v_kind v_bits v_high v_low v_text v_more v_sub v_bytes v_kids)) (by kernel_rfl))⟩
theorem book_Small.ok : SpecOK Go.Proofs.Tryd.prog (fun n => (trydbGl n).av) 9 (Ctr.fs (book_Small.c, book_Small.sg)) :=
  meets (l := book_Small.env) (all_cons book_Value.ok all_nil) book_Small.chk (by
      intro ins outs h
      unfold book_Small.c at h
      split at h
      · cases h; exact book_Small.fit _ _ _ _ _ _ _ _ _
      · exact h.elim)
theorem ref1_PutLow.fit (v : UInt64) (n : Int) (hp : (decide (0 ≤ n ∧ n ≤ 8)) = true) : ([.u64 v, .i .i64 n] : List TV).length = ref1_PutLow.d.np ∧ ref1_PutLow.d.run (envL trydbGl ref1_PutLow.env) [.u64 v, .i .i64 n] = some (([(.sl .bs (Cur.putLow v (n).toNat))] : List TV) ++ ref1_PutLow.d.ps.toList.map fun q => ([.u64 v, .i .i64 n] : List TV).getD q.1 .dead) :=
  ⟨by kernel_rfl, Eq.trans (b := ref1_PutLow.F v n) (by kernel_rfl) (Eq.trans (ref1_PutLow.goal v n hp) (by kernel_rfl))⟩
theorem ref1_PutLow.ok : SpecOK Go.Proofs.Tryd.prog (fun n => (trydbGl n).av) 83 (Ctr.fs (ref1_PutLow.c, ref1_PutLow.sg)) :=
  meets (l := ref1_PutLow.env) all_nil ref1_PutLow.chk (by
      intro ins outs h
      unfold ref1_PutLow.c at h
      split at h
      · obtain ⟨hp, rfl⟩ := h; exact ref1_PutLow.fit _ _ hp
      · exact h.elim)
theorem ref1_PutHigh.fit (v : UInt64) (n : Int) (hp : (decide (0 ≤ n ∧ n ≤ 8)) = true) : ([.u64 v, .i .i64 n] : List TV).length = ref1_PutHigh.d.np ∧ ref1_PutHigh.d.run (envL trydbGl ref1_PutHigh.env) [.u64 v, .i .i64 n] = some (([(.sl .bs (Cur.putHigh v (n).toNat))] : List TV) ++ ref1_PutHigh.d.ps.toList.map fun q => ([.u64 v, .i .i64 n] : List TV).getD q.1 .dead) :=
  ⟨by kernel_rfl, Eq.trans (b := ref1_PutHigh.F v n) (by kernel_rfl) (Eq.trans (ref1_PutHigh.goal v n hp) (by kernel_rfl))⟩
theorem ref1_PutHigh.ok : SpecOK Go.Proofs.Tryd.prog (fun n => (trydbGl n).av) 66 (Ctr.fs (ref1_PutHigh.c, ref1_PutHigh.sg)) :=
  meets (l := ref1_PutHigh.env) (all_cons ref1_PutLow.ok all_nil) ref1_PutHigh.chk (by
      intro ins outs h
      unfold ref1_PutHigh.c at h
      split at h
      · obtain ⟨hp, rfl⟩ := h; exact ref1_PutHigh.fit _ _ hp
      · exact h.elim)
theorem ref5_Same.fit (f_err : Int) (f_at : Int) (f_path : List Int) (g_err : Int) (g_at : Int) (g_path : List Int) (hp : (decide (((Flt.mk f_err f_at f_path)).path.length ≤ 1099511627776)) = true) : ([.ag [.i .i64 f_err, .i .i64 f_at, .sl .is f_path], .ag [.i .i64 g_err, .i .i64 g_at, .sl .is g_path]] : List TV).length = ref5_Same.d.np ∧ ref5_Same.d.run (envL trydbGl ref5_Same.env) [.ag [.i .i64 f_err, .i .i64 f_at, .sl .is f_path], .ag [.i .i64 g_err, .i .i64 g_at, .sl .is g_path]] = some (([(.b (decide (((Flt.mk f_err f_at f_path)).err = ((Flt.mk g_err g_at g_path)).err ∧ ((Flt.mk f_err f_at f_path)).at_ = ((Flt.mk g_err g_at g_path)).at_ ∧ ((Flt.mk f_err f_at f_path)).path = ((Flt.mk g_err g_at g_path)).path)))] : List TV) ++ ref5_Same.d.ps.toList.map fun q => ([.ag [.i .i64 f_err, .i .i64 f_at, .sl .is f_path], .ag [.i .i64 g_err, .i .i64 g_at, .sl .is g_path]] : List TV).getD q.1 .dead) :=
  ⟨by kernel_rfl, Eq.trans (b := ref5_Same.F (Flt.mk f_err f_at f_path) (Flt.mk g_err g_at g_path)) (by kernel_rfl) (Eq.trans (ref5_Same.goal (Flt.mk f_err f_at f_path) (Flt.mk g_err g_at g_path) hp) (by kernel_rfl))⟩
theorem ref5_Same.ok : SpecOK Go.Proofs.Tryd.prog (fun n => (trydbGl n).av) 12 (Ctr.fs (ref5_Same.c, ref5_Same.sg)) :=
  meets (l := ref5_Same.env) (all_cons ref1_SameInts.ok all_nil) ref5_Same.chk (by
      intro ins outs h
      unfold ref5_Same.c at h
      split at h
      · obtain ⟨hp, rfl⟩ := h; exact ref5_Same.fit _ _ _ _ _ _ hp
      · exact h.elim)
theorem ref28_Same.fit (n : Nat) (a_kind : Int) (a_n : UInt64) (a_bytes : List UInt8) (a_text : Str) (a_kids : List Itm) (b_kind : Int) (b_n : UInt64) (b_bytes : List UInt8) (b_text : Str) (b_kids : List Itm) (hp : ((decide (Itm.bulk (Itm.of (Itv.mk a_kind a_n a_bytes a_text a_kids)) ≤ 1099511627776)) && decide ((Itm.bulk (Itm.of (Itv.mk a_kind a_n a_bytes a_text a_kids))) < n + 1)) = true) : ([.ag [.i .i64 a_kind, .u64 a_n, .sl .bs a_bytes, .s a_text, .sl .il a_kids], .ag [.i .i64 b_kind, .u64 b_n, .sl .bs b_bytes, .s b_text, .sl .il b_kids]] : List TV).length = ref28_Same.d.np ∧ ref28_Same.d.run (envL trydbGl (ref28_Same.env n)) [.ag [.i .i64 a_kind, .u64 a_n, .sl .bs a_bytes, .s a_text, .sl .il a_kids], .ag [.i .i64 b_kind, .u64 b_n, .sl .bs b_bytes, .s b_text, .sl .il b_kids]] = some (([(.b (Itm.same (Itm.of (Itv.mk a_kind a_n a_bytes a_text a_kids)) (Itm.of (Itv.mk b_kind b_n b_bytes b_text b_kids))))] : List TV) ++ ref28_Same.d.ps.toList.map fun q => ([.ag [.i .i64 a_kind, .u64 a_n, .sl .bs a_bytes, .s a_text, .sl .il a_kids], .ag [.i .i64 b_kind, .u64 b_n, .sl .bs b_bytes, .s b_text, .sl .il b_kids]] : List TV).getD q.1 .dead) :=
  ⟨by kernel_rfl, Eq.trans (b := ref28_Same.F n (Itv.mk a_kind a_n a_bytes a_text a_kids) (Itv.mk b_kind b_n b_bytes b_text b_kids)) (by kernel_rfl) (Eq.trans (ref28_Same.goal n (Itv.mk a_kind a_n a_bytes a_text a_kids) (Itv.mk b_kind b_n b_bytes b_text b_kids) hp) (by kernel_rfl))⟩
theorem rsame28.oks : ∀ n : Nat, (SpecOK Go.Proofs.Tryd.prog (fun n => (trydbGl n).av) 13 (Ctr.fs (ref28_Same.cn n, ref28_Same.sg))) := by
  intro n
  induction n with
  | zero => exact spec_zero (by
      intro ti to_ h
      unfold ref28_Same.cn at h
      split at h
      · obtain ⟨h, _⟩ := h; simp at h
      · exact h.elim)
  | succ n ih =>
    have ih0 := ih
    exact meets (l := ref28_Same.env n) (all_cons ih0 all_nil) (ref28_Same.chk n) (by
      intro ins outs h
      unfold ref28_Same.cn at h
      split at h
      · obtain ⟨hp, rfl⟩ := h; exact ref28_Same.fit n _ _ _ _ _ _ _ _ _ _ hp
      · exact h.elim)
theorem ref28_Same.ok : SpecOK Go.Proofs.Tryd.prog (fun n => (trydbGl n).av) 13 (Ctr.fs (ref28_Same.c, ref28_Same.sg)) := spec_sub fun ti to_ h => by
  unfold ref28_Same.c at h
  split at h
  · obtain ⟨hp, rfl⟩ := h; exact ⟨ref28_Same.cn (_ + 1), (rsame28.oks _), Bool.and_eq_true_iff.2 ⟨hp, decide_eq_true (Nat.lt_succ_self _)⟩, rfl⟩
  · exact h.elim
theorem ref5_Digits.fit (v : UInt64) : ([.u64 v] : List TV).length = ref5_Digits.d.np ∧ ref5_Digits.d.run (envL trydbGl ref5_Digits.env) [.u64 v] = some (([(.s (digs (v).toNat))] : List TV) ++ ref5_Digits.d.ps.toList.map fun q => ([.u64 v] : List TV).getD q.1 .dead) :=
  ⟨by kernel_rfl, Eq.trans (b := ref5_Digits.F v) (by kernel_rfl) (Eq.trans (ref5_Digits.goal v) (by kernel_rfl))⟩
theorem ref5_Digits.ok : SpecOK Go.Proofs.Tryd.prog (fun n => (trydbGl n).av) 74 (Ctr.fs (ref5_Digits.c, ref5_Digits.sg)) :=
  meets (l := ref5_Digits.env) all_nil ref5_Digits.chk (by
      intro ins outs h
      unfold ref5_Digits.c at h
      split at h
      · cases h; exact ref5_Digits.fit _
      · exact h.elim)
theorem tree_Regular.fit (l : List Fld) (hp : (decide (l.length ≤ 1099511627776)) = true) : ([.sl .fl l] : List TV).length = tree_Regular.d.np ∧ tree_Regular.d.run (envL trydbGl tree_Regular.env) [.sl .fl l] = some (([(.b (Tree.regular l))] : List TV) ++ tree_Regular.d.ps.toList.map fun q => ([.sl .fl l] : List TV).getD q.1 .dead) :=
  ⟨by kernel_rfl, Eq.trans (b := tree_Regular.F l) (by kernel_rfl) (Eq.trans (tree_Regular.goal l hp) (by kernel_rfl))⟩
theorem tree_Regular.ok : SpecOK Go.Proofs.Tryd.prog (fun n => (trydbGl n).av) 55 (Ctr.fs (tree_Regular.c, tree_Regular.sg)) :=
  meets (l := tree_Regular.env) (all_cons sc_Itoa.ok all_nil) tree_Regular.chk (by
      intro ins outs h
      unfold tree_Regular.c at h
      split at h
      · obtain ⟨hp, rfl⟩ := h; exact tree_Regular.fit _ hp
      · exact h.elim)
theorem ref17_Regular.fit (l : List Fld) (hp : (decide (l.length ≤ 1099511627776)) = true) : ([.sl .fl l] : List TV).length = ref17_Regular.d.np ∧ ref17_Regular.d.run (envL trydbGl ref17_Regular.env) [.sl .fl l] = some (([(.b (Tree.regular l))] : List TV) ++ ref17_Regular.d.ps.toList.map fun q => ([.sl .fl l] : List TV).getD q.1 .dead) :=
  ⟨by kernel_rfl, Eq.trans (b := ref17_Regular.F l) (by kernel_rfl) (Eq.trans (ref17_Regular.goal l hp) (by kernel_rfl))⟩
theorem ref17_Regular.ok : SpecOK Go.Proofs.Tryd.prog (fun n => (trydbGl n).av) 61 (Ctr.fs (ref17_Regular.c, ref17_Regular.sg)) :=
  meets (l := ref17_Regular.env) (all_cons ref5_Digits.ok all_nil) ref17_Regular.chk (by
      intro ins outs h
      unfold ref17_Regular.c at h
      split at h
      · obtain ⟨hp, rfl⟩ := h; exact ref17_Regular.fit _ hp
      · exact h.elim)
theorem cb_fields.fit (it_kind : Int) (it_n : UInt64) (it_bytes : List UInt8) (it_text : Str) (it_kids : List Itm) (hp : (decide (Itm.bulk (Itm.of (Itv.mk it_kind it_n it_bytes it_text it_kids)) ≤ 1099511627776)) = true) : ([.ag [.i .i64 it_kind, .u64 it_n, .sl .bs it_bytes, .s it_text, .sl .il it_kids]] : List TV).length = cb_fields.d.np ∧ cb_fields.d.run (envL trydbGl cb_fields.env) [.ag [.i .i64 it_kind, .u64 it_n, .sl .bs it_bytes, .s it_text, .sl .il it_kids]] = some (([(.b (Cb.fieldsOK (Itm.of (Itv.mk it_kind it_n it_bytes it_text it_kids))))] : List TV) ++ cb_fields.d.ps.toList.map fun q => ([.ag [.i .i64 it_kind, .u64 it_n, .sl .bs it_bytes, .s it_text, .sl .il it_kids]] : List TV).getD q.1 .dead) :=
  ⟨by kernel_rfl, Eq.trans (b := cb_fields.F (Itv.mk it_kind it_n it_bytes it_text it_kids)) (by kernel_rfl) (Eq.trans (cb_fields.goal (Itv.mk it_kind it_n it_bytes it_text it_kids) hp) (by kernel_rfl))⟩
theorem cb_fields.ok : SpecOK Go.Proofs.Tryd.prog (fun n => (trydbGl n).av) 40 (Ctr.fs (cb_fields.c, cb_fields.sg)) :=
  meets (l := cb_fields.env) all_nil cb_fields.chk (by
      intro ins outs h
      unfold cb_fields.c at h
      split at h
      · obtain ⟨hp, rfl⟩ := h; exact cb_fields.fit _ _ _ _ _ hp
      · exact h.elim)
theorem cb_Check.fit (n : Nat) (it_kind : Int) (it_n : UInt64) (it_bytes : List UInt8) (it_text : Str) (it_kids : List Itm) (hp : ((decide (Itm.bulk (Itm.of (Itv.mk it_kind it_n it_bytes it_text it_kids)) ≤ 1099511627776)) && decide ((Itm.bulk (Itm.of (Itv.mk it_kind it_n it_bytes it_text it_kids))) < n + 1)) = true) : ([.ag [.i .i64 it_kind, .u64 it_n, .sl .bs it_bytes, .s it_text, .sl .il it_kids]] : List TV).length = cb_Check.d.np ∧ cb_Check.d.run (envL trydbGl (cb_Check.env n)) [.ag [.i .i64 it_kind, .u64 it_n, .sl .bs it_bytes, .s it_text, .sl .il it_kids]] = some (([(.i .i64 (Cb.chk (Itm.of (Itv.mk it_kind it_n it_bytes it_text it_kids))))] : List TV) ++ cb_Check.d.ps.toList.map fun q => ([.ag [.i .i64 it_kind, .u64 it_n, .sl .bs it_bytes, .s it_text, .sl .il it_kids]] : List TV).getD q.1 .dead) :=
  ⟨by kernel_rfl, Eq.trans (b := cb_Check.F n (Itv.mk it_kind it_n it_bytes it_text it_kids)) (by kernel_rfl) (Eq.trans (cb_Check.goal n (Itv.mk it_kind it_n it_bytes it_text it_kids) hp) (by kernel_rfl))⟩
theorem ccheck.oks : ∀ n : Nat, (SpecOK Go.Proofs.Tryd.prog (fun n => (trydbGl n).av) 26 (Ctr.fs (cb_Check.cn n, cb_Check.sg))) := by
  intro n
  induction n with
  | zero => exact spec_zero (by
      intro ti to_ h
      unfold cb_Check.cn at h
      split at h
      · obtain ⟨h, _⟩ := h; simp at h
      · exact h.elim)
  | succ n ih =>
    have ih0 := ih
    exact meets (l := cb_Check.env n) (all_cons ih0 (all_cons cb_fields.ok (all_cons utf_Check.ok all_nil))) (cb_Check.chk n) (by
      intro ins outs h
      unfold cb_Check.cn at h
      split at h
      · obtain ⟨hp, rfl⟩ := h; exact cb_Check.fit n _ _ _ _ _ hp
      · exact h.elim)
theorem cb_Check.ok : SpecOK Go.Proofs.Tryd.prog (fun n => (trydbGl n).av) 26 (Ctr.fs (cb_Check.c, cb_Check.sg)) := spec_sub fun ti to_ h => by
  unfold cb_Check.c at h
  split at h
  · obtain ⟨hp, rfl⟩ := h; exact ⟨cb_Check.cn (_ + 1), (ccheck.oks _), Bool.and_eq_true_iff.2 ⟨hp, decide_eq_true (Nat.lt_succ_self _)⟩, rfl⟩
  · exact h.elim
theorem db_text.fit (s : Str) : ([.s s] : List TV).length = db_text.d.np ∧ db_text.d.run (envL trydbGl db_text.env) [.s s] = some (([(.ag (Itv.cells (Itm.val (Db.text s))))] : List TV) ++ db_text.d.ps.toList.map fun q => ([.s s] : List TV).getD q.1 .dead) :=
  ⟨by kernel_rfl, Eq.trans (b := db_text.F s) (by kernel_rfl) (Eq.trans (db_text.goal s) (by kernel_rfl))⟩
theorem db_text.ok : SpecOK Go.Proofs.Tryd.prog (fun n => (trydbGl n).av) 36 (Ctr.fs (db_text.c, db_text.sg)) :=
  meets (l := db_text.env) all_nil db_text.chk (by
      intro ins outs h
      unfold db_text.c at h
      split at h
      · cases h; exact db_text.fit _
      · exact h.elim)
theorem db_raw.fit (b : List UInt8) (hp : (decide ((b).length ≤ 1099511627776)) = true) : ([.sl .bs b] : List TV).length = db_raw.d.np ∧ db_raw.d.run (envL trydbGl db_raw.env) [.sl .bs b] = some (([(.ag (Itv.cells (Itm.val (Db.raw b))))] : List TV) ++ db_raw.d.ps.toList.map fun q => ([.sl .bs b] : List TV).getD q.1 .dead) :=
  ⟨by kernel_rfl, Eq.trans (b := db_raw.F b) (by kernel_rfl) (Eq.trans (db_raw.goal b hp) (by kernel_rfl))⟩
theorem db_raw.ok : SpecOK Go.Proofs.Tryd.prog (fun n => (trydbGl n).av) 57 (Ctr.fs (db_raw.c, db_raw.sg)) :=
  meets (l := db_raw.env) (all_cons clone_bs.ok all_nil) db_raw.chk (by
      intro ins outs h
      unfold db_raw.c at h
      split at h
      · obtain ⟨hp, rfl⟩ := h; exact db_raw.fit _ hp
      · exact h.elim)
theorem db_plus.fit (n : UInt64) : ([.u64 n] : List TV).length = db_plus.d.np ∧ db_plus.d.run (envL trydbGl db_plus.env) [.u64 n] = some (([(.ag (Itv.cells (Itm.val (Db.plus n))))] : List TV) ++ db_plus.d.ps.toList.map fun q => ([.u64 n] : List TV).getD q.1 .dead) :=
  ⟨by kernel_rfl, Eq.trans (b := db_plus.F n) (by kernel_rfl) (Eq.trans (db_plus.goal n) (by kernel_rfl))⟩
theorem db_plus.ok : SpecOK Go.Proofs.Tryd.prog (fun n => (trydbGl n).av) 81 (Ctr.fs (db_plus.c, db_plus.sg)) :=
  meets (l := db_plus.env) all_nil db_plus.chk (by
      intro ins outs h
      unfold db_plus.c at h
      split at h
      · cases h; exact db_plus.fit _
      · exact h.elim)
theorem db_simple.fit (n : UInt64) : ([.u64 n] : List TV).length = db_simple.d.np ∧ db_simple.d.run (envL trydbGl db_simple.env) [.u64 n] = some (([(.ag (Itv.cells (Itm.val (Db.simple n))))] : List TV) ++ db_simple.d.ps.toList.map fun q => ([.u64 n] : List TV).getD q.1 .dead) :=
  ⟨by kernel_rfl, Eq.trans (b := db_simple.F n) (by kernel_rfl) (Eq.trans (db_simple.goal n) (by kernel_rfl))⟩
theorem db_simple.ok : SpecOK Go.Proofs.Tryd.prog (fun n => (trydbGl n).av) 58 (Ctr.fs (db_simple.c, db_simple.sg)) :=
  meets (l := db_simple.env) all_nil db_simple.chk (by
      intro ins outs h
      unfold db_simple.c at h
      split at h
      · cases h; exact db_simple.fit _
      · exact h.elim)
theorem db_list.fit (l : List Itm) : ([.sl .il l] : List TV).length = db_list.d.np ∧ db_list.d.run (envL trydbGl db_list.env) [.sl .il l] = some (([(.ag (Itv.cells (Itm.val (Db.list l))))] : List TV) ++ db_list.d.ps.toList.map fun q => ([.sl .il l] : List TV).getD q.1 .dead) :=
  ⟨by kernel_rfl, Eq.trans (b := db_list.F l) (by kernel_rfl) (Eq.trans (db_list.goal l) (by kernel_rfl))⟩
theorem db_list.ok : SpecOK Go.Proofs.Tryd.prog (fun n => (trydbGl n).av) 56 (Ctr.fs (db_list.c, db_list.sg)) :=
  meets (l := db_list.env) all_nil db_list.chk (by
      intro ins outs h
      unfold db_list.c at h
      split at h
      · cases h; exact ⟨by kernel_rfl, by kernel_rfl⟩
      · cases h; exact db_list.fit _
      · exact h.elim)
theorem db_integer.fit (v : Int) (hp : (decide (-9223372036854775808 ≤ v ∧ v ≤ 9223372036854775807)) = true) : ([.i .i64 v] : List TV).length = db_integer.d.np ∧ db_integer.d.run (envL trydbGl db_integer.env) [.i .i64 v] = some (([(.ag (Itv.cells (Itm.val (Db.integer v))))] : List TV) ++ db_integer.d.ps.toList.map fun q => ([.i .i64 v] : List TV).getD q.1 .dead) :=
  ⟨by kernel_rfl, Eq.trans (b := db_integer.F v) (by kernel_rfl) (Eq.trans (db_integer.goal v hp) (by kernel_rfl))⟩
theorem db_integer.ok : SpecOK Go.Proofs.Tryd.prog (fun n => (trydbGl n).av) 59 (Ctr.fs (db_integer.c, db_integer.sg)) :=
  meets (l := db_integer.env) (all_cons db_plus.ok all_nil) db_integer.chk (by
      intro ins outs h
      unfold db_integer.c at h
      split at h
      · obtain ⟨hp, rfl⟩ := h; exact db_integer.fit _ hp
      · exact h.elim)
theorem db_words.fit (v_kind : Int) (v_bits : UInt64) (v_high : UInt64) (v_low : UInt64) (v_text : Str) (v_more : Str) (v_sub : Int) (v_bytes : List UInt8) (v_kids : List Fld) : ([.ag [.i .i64 v_kind, .u64 v_bits, .u64 v_high, .u64 v_low, .s v_text, .s v_more, .i .i64 v_sub, .sl .bs v_bytes, .sl .fl v_kids]] : List TV).length = db_words.d.np ∧ db_words.d.run (envL trydbGl db_words.env) [.ag [.i .i64 v_kind, .u64 v_bits, .u64 v_high, .u64 v_low, .s v_text, .s v_more, .i .i64 v_sub, .sl .bs v_bytes, .sl .fl v_kids]] = some (([(.ag (Itv.cells (Itm.val (Db.raw (Db.words ((Val.mk v_kind v_bits v_high v_low v_text v_more v_sub v_bytes v_kids)).high ((Val.mk v_kind v_bits v_high v_low v_text v_more v_sub v_bytes v_kids)).low)))))] : List TV) ++ db_words.d.ps.toList.map fun q => ([.ag [.i .i64 v_kind, .u64 v_bits, .u64 v_high, .u64 v_low, .s v_text, .s v_more, .i .i64 v_sub, .sl .bs v_bytes, .sl .fl v_kids]] : List TV).getD q.1 .dead) :=
  ⟨by kernel_rfl, Eq.trans (b := db_words.F (Val.mk v_kind v_bits v_high v_low v_text v_more v_sub v_bytes v_kids)) (by kernel_rfl) (Eq.trans (db_words.goal (Val.mk v_kind v_bits v_high v_low v_text v_more v_sub v_bytes v_kids)) (by kernel_rfl))⟩
theorem db_words.ok : SpecOK Go.Proofs.Tryd.prog (fun n => (trydbGl n).av) 82 (Ctr.fs (db_words.c, db_words.sg)) :=
  meets (l := db_words.env) (all_cons db_raw.ok all_nil) db_words.chk (by
      intro ins outs h
      unfold db_words.c at h
      split at h
      · cases h; exact db_words.fit _ _ _ _ _ _ _ _ _
      · exact h.elim)
theorem db_mapped.fit (n : Nat) (l : List Fld) (hp : ((decide (Fld.bulks l ≤ 1073741824)) && decide ((3 * Fld.bulks l + 3) < n + 1)) = true) : ([.sl .fl l] : List TV).length = db_mapped.d.np ∧ db_mapped.d.run (envL trydbGl (db_mapped.env n)) [.sl .fl l] = some (([(.ag (Itv.cells (Itm.val (Db.map (Db.mapped l)))))] : List TV) ++ db_mapped.d.ps.toList.map fun q => ([.sl .fl l] : List TV).getD q.1 .dead) :=
  ⟨by kernel_rfl, Eq.trans (b := db_mapped.F n l) (by kernel_rfl) (Eq.trans (db_mapped.goal n l hp) (by kernel_rfl))⟩
theorem db_item.fit (n : Nat) (v_kind : Int) (v_bits : UInt64) (v_high : UInt64) (v_low : UInt64) (v_text : Str) (v_more : Str) (v_sub : Int) (v_bytes : List UInt8) (v_kids : List Fld) (hp : ((decide (Fld.bulk (Fld.of [] (Val.mk v_kind v_bits v_high v_low v_text v_more v_sub v_bytes v_kids)) ≤ 1073741824)) && decide ((3 * Fld.bulk (Fld.of [] (Val.mk v_kind v_bits v_high v_low v_text v_more v_sub v_bytes v_kids)) + 2) < n + 1)) = true) : ([.ag [.i .i64 v_kind, .u64 v_bits, .u64 v_high, .u64 v_low, .s v_text, .s v_more, .i .i64 v_sub, .sl .bs v_bytes, .sl .fl v_kids]] : List TV).length = db_item.d.np ∧ db_item.d.run (envL trydbGl (db_item.env n)) [.ag [.i .i64 v_kind, .u64 v_bits, .u64 v_high, .u64 v_low, .s v_text, .s v_more, .i .i64 v_sub, .sl .bs v_bytes, .sl .fl v_kids]] = some (([(.ag (Itv.cells (Itm.val (Db.item (Fld.of [] (Val.mk v_kind v_bits v_high v_low v_text v_more v_sub v_bytes v_kids))))))] : List TV) ++ db_item.d.ps.toList.map fun q => ([.ag [.i .i64 v_kind, .u64 v_bits, .u64 v_high, .u64 v_low, .s v_text, .s v_more, .i .i64 v_sub, .sl .bs v_bytes, .sl .fl v_kids]] : List TV).getD q.1 .dead) :=
  ⟨by kernel_rfl, Eq.trans (b := db_item.F n (Val.mk v_kind v_bits v_high v_low v_text v_more v_sub v_bytes v_kids)) (by kernel_rfl) (Eq.trans (db_item.goal n (Val.mk v_kind v_bits v_high v_low v_text v_more v_sub v_bytes v_kids) hp) (by kernel_rfl))⟩
theorem db_tagged.fit (n : Nat) (v_kind : Int) (v_bits : UInt64) (v_high : UInt64) (v_low : UInt64) (v_text : Str) (v_more : Str) (v_sub : Int) (v_bytes : List UInt8) (v_kids : List Fld) (hp : ((decide (Fld.bulk (Fld.of [] (Val.mk v_kind v_bits v_high v_low v_text v_more v_sub v_bytes v_kids)) ≤ 1073741824)) && decide ((3 * Fld.bulk (Fld.of [] (Val.mk v_kind v_bits v_high v_low v_text v_more v_sub v_bytes v_kids)) + 1) < n + 1)) = true) : ([.ag [.i .i64 v_kind, .u64 v_bits, .u64 v_high, .u64 v_low, .s v_text, .s v_more, .i .i64 v_sub, .sl .bs v_bytes, .sl .fl v_kids]] : List TV).length = db_tagged.d.np ∧ db_tagged.d.run (envL trydbGl (db_tagged.env n)) [.ag [.i .i64 v_kind, .u64 v_bits, .u64 v_high, .u64 v_low, .s v_text, .s v_more, .i .i64 v_sub, .sl .bs v_bytes, .sl .fl v_kids]] = some (([(.ag (Itv.cells (Itm.val (Db.tagged (Val.mk v_kind v_bits v_high v_low v_text v_more v_sub v_bytes v_kids) (Db.mapped ((Val.mk v_kind v_bits v_high v_low v_text v_more v_sub v_bytes v_kids)).kids)))))] : List TV) ++ db_tagged.d.ps.toList.map fun q => ([.ag [.i .i64 v_kind, .u64 v_bits, .u64 v_high, .u64 v_low, .s v_text, .s v_more, .i .i64 v_sub, .sl .bs v_bytes, .sl .fl v_kids]] : List TV).getD q.1 .dead) :=
  ⟨by kernel_rfl, Eq.trans (b := db_tagged.F n (Val.mk v_kind v_bits v_high v_low v_text v_more v_sub v_bytes v_kids)) (by kernel_rfl) (Eq.trans (db_tagged.goal n (Val.mk v_kind v_bits v_high v_low v_text v_more v_sub v_bytes v_kids) hp) (by kernel_rfl))⟩
theorem dbitem.oks : ∀ n : Nat, (SpecOK Go.Proofs.Tryd.prog (fun n => (trydbGl n).av) 22 (Ctr.fs (db_mapped.cn n, db_mapped.sg))) ∧ (SpecOK Go.Proofs.Tryd.prog (fun n => (trydbGl n).av) 37 (Ctr.fs (db_item.cn n, db_item.sg))) ∧ (SpecOK Go.Proofs.Tryd.prog (fun n => (trydbGl n).av) 60 (Ctr.fs (db_tagged.cn n, db_tagged.sg))) := by
  intro n
  induction n with
  | zero => exact ⟨spec_zero (by
      intro ti to_ h
      unfold db_mapped.cn at h
      split at h
      · obtain ⟨h, _⟩ := h; simp at h
      · exact h.elim), spec_zero (by
      intro ti to_ h
      unfold db_item.cn at h
      split at h
      · obtain ⟨h, _⟩ := h; simp at h
      · exact h.elim), spec_zero (by
      intro ti to_ h
      unfold db_tagged.cn at h
      split at h
      · obtain ⟨h, _⟩ := h; simp at h
      · exact h.elim)⟩
  | succ n ih =>
    obtain ⟨ih0, ih1, ih2⟩ := ih
    exact ⟨meets (l := db_mapped.env n) (all_cons db_text.ok (all_cons ih1 all_nil)) (db_mapped.chk n) (by
      intro ins outs h
      unfold db_mapped.cn at h
      split at h
      · obtain ⟨hp, rfl⟩ := h; exact db_mapped.fit n _ hp
      · exact h.elim), meets (l := db_item.env n) (all_cons ih0 (all_cons db_text.ok (all_cons ih1 (all_cons tree_Regular.ok (all_cons db_list.ok (all_cons db_raw.ok (all_cons db_simple.ok (all_cons db_integer.ok (all_cons ih2 all_nil))))))))) (db_item.chk n) (by
      intro ins outs h
      unfold db_item.cn at h
      split at h
      · obtain ⟨hp, rfl⟩ := h; exact db_item.fit n _ _ _ _ _ _ _ _ _ hp
      · exact h.elim), meets (l := db_tagged.env n) (all_cons ih0 (all_cons db_text.ok (all_cons db_list.ok (all_cons db_raw.ok (all_cons db_simple.ok (all_cons db_integer.ok (all_cons db_plus.ok (all_cons db_words.ok all_nil)))))))) (db_tagged.chk n) (by
      intro ins outs h
      unfold db_tagged.cn at h
      split at h
      · obtain ⟨hp, rfl⟩ := h; exact db_tagged.fit n _ _ _ _ _ _ _ _ _ hp
      · exact h.elim)⟩
theorem db_mapped.ok : SpecOK Go.Proofs.Tryd.prog (fun n => (trydbGl n).av) 22 (Ctr.fs (db_mapped.c, db_mapped.sg)) := spec_sub fun ti to_ h => by
  unfold db_mapped.c at h
  split at h
  · obtain ⟨hp, rfl⟩ := h; exact ⟨db_mapped.cn (_ + 1), (dbitem.oks _).1, Bool.and_eq_true_iff.2 ⟨hp, decide_eq_true (Nat.lt_succ_self _)⟩, rfl⟩
  · exact h.elim
theorem db_Item.fit (v_kind : Int) (v_bits : UInt64) (v_high : UInt64) (v_low : UInt64) (v_text : Str) (v_more : Str) (v_sub : Int) (v_bytes : List UInt8) (v_kids : List Fld) (hp : (decide (Fld.bulk (Fld.of [] (Val.mk v_kind v_bits v_high v_low v_text v_more v_sub v_bytes v_kids)) ≤ 1073741824)) = true) : ([.ag [.i .i64 v_kind, .u64 v_bits, .u64 v_high, .u64 v_low, .s v_text, .s v_more, .i .i64 v_sub, .sl .bs v_bytes, .sl .fl v_kids]] : List TV).length = db_Item.d.np ∧ db_Item.d.run (envL trydbGl db_Item.env) [.ag [.i .i64 v_kind, .u64 v_bits, .u64 v_high, .u64 v_low, .s v_text, .s v_more, .i .i64 v_sub, .sl .bs v_bytes, .sl .fl v_kids]] = some (([(.ag (Itv.cells (Itm.val ((Db.enc (Val.mk v_kind v_bits v_high v_low v_text v_more v_sub v_bytes v_kids)).1)))), (.ag (Flt.cells ((Db.enc (Val.mk v_kind v_bits v_high v_low v_text v_more v_sub v_bytes v_kids)).2)))] : List TV) ++ db_Item.d.ps.toList.map fun q => ([.ag [.i .i64 v_kind, .u64 v_bits, .u64 v_high, .u64 v_low, .s v_text, .s v_more, .i .i64 v_sub, .sl .bs v_bytes, .sl .fl v_kids]] : List TV).getD q.1 .dead) :=
  ⟨by kernel_rfl, Eq.trans (b := db_Item.F (Val.mk v_kind v_bits v_high v_low v_text v_more v_sub v_bytes v_kids)) (by kernel_rfl) (Eq.trans (db_Item.goal (Val.mk v_kind v_bits v_high v_low v_text v_more v_sub v_bytes v_kids) hp) (by kernel_rfl))⟩
theorem db_Item.ok : SpecOK Go.Proofs.Tryd.prog (fun n => (trydbGl n).av) 10 (Ctr.fs (db_Item.c, db_Item.sg)) :=
  meets (l := db_Item.env) (all_cons tree_Check.ok (all_cons db_mapped.ok all_nil)) db_Item.chk (by
      intro ins outs h
      unfold db_Item.c at h
      split at h
      · obtain ⟨hp, rfl⟩ := h; exact db_Item.fit _ _ _ _ _ _ _ _ _ hp
      · exact h.elim)
theorem db_none.fit (path : List Int) (hp : (decide ((path).length ≤ 1099511627776)) = true) : ([.sl .is path] : List TV).length = db_none.d.np ∧ db_none.d.run (envL trydbGl db_none.env) [.sl .is path] = some (([(.ag (Flt.cells ((Flt.mk 12 0 path))))] : List TV) ++ db_none.d.ps.toList.map fun q => ([.sl .is path] : List TV).getD q.1 .dead) :=
  ⟨by kernel_rfl, Eq.trans (b := db_none.F path) (by kernel_rfl) (Eq.trans (db_none.goal path hp) (by kernel_rfl))⟩
theorem db_none.ok : SpecOK Go.Proofs.Tryd.prog (fun n => (trydbGl n).av) 27 (Ctr.fs (db_none.c, db_none.sg)) :=
  meets (l := db_none.env) (all_cons clone_is.ok all_nil) db_none.chk (by
      intro ins outs h
      unfold db_none.c at h
      split at h
      · obtain ⟨hp, rfl⟩ := h; exact db_none.fit _ hp
      · exact h.elim)
theorem db_number.fit (it_kind : Int) (it_n : UInt64) (it_bytes : List UInt8) (it_text : Str) (it_kids : List Itm) : ([.ag [.i .i64 it_kind, .u64 it_n, .sl .bs it_bytes, .s it_text, .sl .il it_kids]] : List TV).length = db_number.d.np ∧ db_number.d.run (envL trydbGl db_number.env) [.ag [.i .i64 it_kind, .u64 it_n, .sl .bs it_bytes, .s it_text, .sl .il it_kids]] = some (([(.i .i64 ((Db.number (Itm.of (Itv.mk it_kind it_n it_bytes it_text it_kids))).getD 0)), (.b ((Db.number (Itm.of (Itv.mk it_kind it_n it_bytes it_text it_kids))).isSome))] : List TV) ++ db_number.d.ps.toList.map fun q => ([.ag [.i .i64 it_kind, .u64 it_n, .sl .bs it_bytes, .s it_text, .sl .il it_kids]] : List TV).getD q.1 .dead) :=
  ⟨by kernel_rfl, Eq.trans (b := db_number.F (Itv.mk it_kind it_n it_bytes it_text it_kids)) (by kernel_rfl) (Eq.trans (db_number.goal (Itv.mk it_kind it_n it_bytes it_text it_kids)) (by kernel_rfl))⟩
theorem db_number.ok : SpecOK Go.Proofs.Tryd.prog (fun n => (trydbGl n).av) 70 (Ctr.fs (db_number.c, db_number.sg)) :=
  meets (l := db_number.env) all_nil db_number.chk (by
      intro ins outs h
      unfold db_number.c at h
      split at h
      · cases h; exact db_number.fit _ _ _ _ _
      · exact h.elim)
theorem db_regular.fit (l : List Itm) (hp : (decide ((l).length ≤ 1099511627776)) = true) : ([.sl .il l] : List TV).length = db_regular.d.np ∧ db_regular.d.run (envL trydbGl db_regular.env) [.sl .il l] = some (([(.b (Db.regular l))] : List TV) ++ db_regular.d.ps.toList.map fun q => ([.sl .il l] : List TV).getD q.1 .dead) :=
  ⟨by kernel_rfl, Eq.trans (b := db_regular.F l) (by kernel_rfl) (Eq.trans (db_regular.goal l hp) (by kernel_rfl))⟩
theorem db_regular.ok : SpecOK Go.Proofs.Tryd.prog (fun n => (trydbGl n).av) 87 (Ctr.fs (db_regular.c, db_regular.sg)) :=
  meets (l := db_regular.env) (all_cons sc_Itoa.ok all_nil) db_regular.chk (by
      intro ins outs h
      unfold db_regular.c at h
      split at h
      · obtain ⟨hp, rfl⟩ := h; exact db_regular.fit _ hp
      · exact h.elim)
theorem db_kinds.fit (it_kind : Int) (it_n : UInt64) (it_bytes : List UInt8) (it_text : Str) (it_kids : List Itm) (a : Int) (b : Int) : ([.ag [.i .i64 it_kind, .u64 it_n, .sl .bs it_bytes, .s it_text, .sl .il it_kids], .i .i64 a, .i .i64 b] : List TV).length = db_kinds.d.np ∧ db_kinds.d.run (envL trydbGl db_kinds.env) [.ag [.i .i64 it_kind, .u64 it_n, .sl .bs it_bytes, .s it_text, .sl .il it_kids], .i .i64 a, .i .i64 b] = some (([(.b (Db.kinds (Itm.of (Itv.mk it_kind it_n it_bytes it_text it_kids)) a b))] : List TV) ++ db_kinds.d.ps.toList.map fun q => ([.ag [.i .i64 it_kind, .u64 it_n, .sl .bs it_bytes, .s it_text, .sl .il it_kids], .i .i64 a, .i .i64 b] : List TV).getD q.1 .dead) :=
  ⟨by kernel_rfl, Eq.trans (b := db_kinds.F (Itv.mk it_kind it_n it_bytes it_text it_kids) a b) (by kernel_rfl) (Eq.trans (db_kinds.goal (Itv.mk it_kind it_n it_bytes it_text it_kids) a b) (by kernel_rfl))⟩
theorem db_kinds.ok : SpecOK Go.Proofs.Tryd.prog (fun n => (trydbGl n).av) 88 (Ctr.fs (db_kinds.c, db_kinds.sg)) :=
  meets (l := db_kinds.env) all_nil db_kinds.chk (by
      intro ins outs h
      unfold db_kinds.c at h
      split at h
      · cases h; exact db_kinds.fit _ _ _ _ _ _ _
      · exact h.elim)
theorem db_small.fit (n : UInt64) (it_kind : Int) (it_n : UInt64) (it_bytes : List UInt8) (it_text : Str) (it_kids : List Itm) (hp : (decide (Itm.bulk (Itm.of (Itv.mk it_kind it_n it_bytes it_text it_kids)) ≤ 1099511627776)) = true) : ([.u64 n, .ag [.i .i64 it_kind, .u64 it_n, .sl .bs it_bytes, .s it_text, .sl .il it_kids]] : List TV).length = db_small.d.np ∧ db_small.d.run (envL trydbGl db_small.env) [.u64 n, .ag [.i .i64 it_kind, .u64 it_n, .sl .bs it_bytes, .s it_text, .sl .il it_kids]] = some (([(.ag (Val.cells ((Db.smallV n (Itm.of (Itv.mk it_kind it_n it_bytes it_text it_kids))).1))), (.b ((Db.smallV n (Itm.of (Itv.mk it_kind it_n it_bytes it_text it_kids))).2))] : List TV) ++ db_small.d.ps.toList.map fun q => ([.u64 n, .ag [.i .i64 it_kind, .u64 it_n, .sl .bs it_bytes, .s it_text, .sl .il it_kids]] : List TV).getD q.1 .dead) :=
  ⟨by kernel_rfl, Eq.trans (b := db_small.F n (Itv.mk it_kind it_n it_bytes it_text it_kids)) (by kernel_rfl) (Eq.trans (db_small.goal n (Itv.mk it_kind it_n it_bytes it_text it_kids) hp) (by kernel_rfl))⟩
theorem db_small.ok : SpecOK Go.Proofs.Tryd.prog (fun n => (trydbGl n).av) 89 (Ctr.fs (db_small.c, db_small.sg)) :=
  meets (l := db_small.env) (all_cons st_Contains.ok (all_cons clone_bs.ok (all_cons db_number.ok (all_cons db_kinds.ok all_nil)))) db_small.chk (by
      intro ins outs h
      unfold db_small.c at h
      split at h
      · obtain ⟨hp, rfl⟩ := h; exact db_small.fit _ _ _ _ _ _ hp
      · exact h.elim)
theorem db_with.fit (n : Nat) (v_kind : Int) (v_bits : UInt64) (v_high : UInt64) (v_low : UInt64) (v_text : Str) (v_more : Str) (v_sub : Int) (l : List Itm) (path : List Int) (hp : ((decide (Itm.bulks l + (path).length ≤ 1073741824) && decide (Cb.chks l = 0 ∧ (l).length % 2 = 0)) && decide ((2 * Itm.bulks l + 2) < n + 1)) = true) : ([.ag [.i .i64 v_kind, .u64 v_bits, .u64 v_high, .u64 v_low, .s v_text, .s v_more, .i .i64 v_sub, .c (.slice none 0 0), .c (.slice none 0 0)], .sl .il l, .sl .is path] : List TV).length = db_with.d.np ∧ db_with.d.run (envL trydbGl (db_with.env n)) [.ag [.i .i64 v_kind, .u64 v_bits, .u64 v_high, .u64 v_low, .s v_text, .s v_more, .i .i64 v_sub, .c (.slice none 0 0), .c (.slice none 0 0)], .sl .il l, .sl .is path] = some (([(.ag (Val.cells (Db.Got.val (Db.Gots.got (Val.mk v_kind v_bits v_high v_low v_text v_more v_sub [] []) (Db.fields l 0 path))))), (.ag (Flt.cells (Db.Got.flt (Db.Gots.got (Val.mk v_kind v_bits v_high v_low v_text v_more v_sub [] []) (Db.fields l 0 path)))))] : List TV) ++ db_with.d.ps.toList.map fun q => ([.ag [.i .i64 v_kind, .u64 v_bits, .u64 v_high, .u64 v_low, .s v_text, .s v_more, .i .i64 v_sub, .c (.slice none 0 0), .c (.slice none 0 0)], .sl .il l, .sl .is path] : List TV).getD q.1 .dead) :=
  ⟨by kernel_rfl, Eq.trans (b := db_with.F n (Val.mk v_kind v_bits v_high v_low v_text v_more v_sub [] []) l path) (by kernel_rfl) (Eq.trans (db_with.goal n (Val.mk v_kind v_bits v_high v_low v_text v_more v_sub [] []) l path hp) (by kernel_rfl))⟩
theorem db_value.fit (n : Nat) (it_kind : Int) (it_n : UInt64) (it_bytes : List UInt8) (it_text : Str) (it_kids : List Itm) (path : List Int) (hp : ((decide (Itm.bulk (Itm.of (Itv.mk it_kind it_n it_bytes it_text it_kids)) + (path).length ≤ 1073741824) && decide (Cb.chk (Itm.of (Itv.mk it_kind it_n it_bytes it_text it_kids)) = 0)) && decide ((2 * Itm.bulk (Itm.of (Itv.mk it_kind it_n it_bytes it_text it_kids)) + 1) < n + 1)) = true) : ([.ag [.i .i64 it_kind, .u64 it_n, .sl .bs it_bytes, .s it_text, .sl .il it_kids], .sl .is path] : List TV).length = db_value.d.np ∧ db_value.d.run (envL trydbGl (db_value.env n)) [.ag [.i .i64 it_kind, .u64 it_n, .sl .bs it_bytes, .s it_text, .sl .il it_kids], .sl .is path] = some (([(.ag (Val.cells (Db.Got.val (Db.value (Itm.of (Itv.mk it_kind it_n it_bytes it_text it_kids)) path)))), (.ag (Flt.cells (Db.Got.flt (Db.value (Itm.of (Itv.mk it_kind it_n it_bytes it_text it_kids)) path))))] : List TV) ++ db_value.d.ps.toList.map fun q => ([.ag [.i .i64 it_kind, .u64 it_n, .sl .bs it_bytes, .s it_text, .sl .il it_kids], .sl .is path] : List TV).getD q.1 .dead) :=
  ⟨by kernel_rfl, Eq.trans (b := db_value.F n (Itv.mk it_kind it_n it_bytes it_text it_kids) path) (by kernel_rfl) (Eq.trans (db_value.goal n (Itv.mk it_kind it_n it_bytes it_text it_kids) path hp) (by kernel_rfl))⟩
theorem db_tag.fit (n : Nat) (it_kind : Int) (it_n : UInt64) (it_bytes : List UInt8) (it_text : Str) (it_kids : List Itm) (path : List Int) (hp : ((decide (Itm.bulk (Itm.of (Itv.mk it_kind it_n it_bytes it_text it_kids)) + (path).length ≤ 1073741824) && decide (Cb.chk (Itm.of (Itv.mk it_kind it_n it_bytes it_text it_kids)) = 0 ∧ ((Itv.mk it_kind it_n it_bytes it_text it_kids)).kind = 7)) && decide ((2 * Itm.bulk (Itm.of (Itv.mk it_kind it_n it_bytes it_text it_kids))) < n + 1)) = true) : ([.ag [.i .i64 it_kind, .u64 it_n, .sl .bs it_bytes, .s it_text, .sl .il it_kids], .sl .is path] : List TV).length = db_tag.d.np ∧ db_tag.d.run (envL trydbGl (db_tag.env n)) [.ag [.i .i64 it_kind, .u64 it_n, .sl .bs it_bytes, .s it_text, .sl .il it_kids], .sl .is path] = some (([(.ag (Val.cells (Db.Got.val (Db.value (Itm.of (Itv.mk it_kind it_n it_bytes it_text it_kids)) path)))), (.ag (Flt.cells (Db.Got.flt (Db.value (Itm.of (Itv.mk it_kind it_n it_bytes it_text it_kids)) path))))] : List TV) ++ db_tag.d.ps.toList.map fun q => ([.ag [.i .i64 it_kind, .u64 it_n, .sl .bs it_bytes, .s it_text, .sl .il it_kids], .sl .is path] : List TV).getD q.1 .dead) :=
  ⟨by kernel_rfl, Eq.trans (b := db_tag.F n (Itv.mk it_kind it_n it_bytes it_text it_kids) path) (by kernel_rfl) (Eq.trans (db_tag.goal n (Itv.mk it_kind it_n it_bytes it_text it_kids) path hp) (by kernel_rfl))⟩
theorem dbvalue.oks : ∀ n : Nat, (SpecOK Go.Proofs.Tryd.prog (fun n => (trydbGl n).av) 28 (Ctr.fs (db_with.cn n, db_with.sg))) ∧ (SpecOK Go.Proofs.Tryd.prog (fun n => (trydbGl n).av) 44 (Ctr.fs (db_value.cn n, db_value.sg))) ∧ (SpecOK Go.Proofs.Tryd.prog (fun n => (trydbGl n).av) 72 (Ctr.fs (db_tag.cn n, db_tag.sg))) := by
  intro n
  induction n with
  | zero => exact ⟨spec_zero (by
      intro ti to_ h
      unfold db_with.cn at h
      split at h
      · obtain ⟨h, _⟩ := h; simp at h
      · exact h.elim), spec_zero (by
      intro ti to_ h
      unfold db_value.cn at h
      split at h
      · obtain ⟨h, _⟩ := h; simp at h
      · exact h.elim), spec_zero (by
      intro ti to_ h
      unfold db_tag.cn at h
      split at h
      · obtain ⟨h, _⟩ := h; simp at h
      · exact h.elim)⟩
  | succ n ih =>
    obtain ⟨ih0, ih1, ih2⟩ := ih
    exact ⟨meets (l := db_with.env n) (all_cons db_none.ok (all_cons st_Contains.ok (all_cons ih1 all_nil))) (db_with.chk n) (by
      intro ins outs h
      unfold db_with.cn at h
      split at h
      · obtain ⟨hp, rfl⟩ := h; exact db_with.fit n _ _ _ _ _ _ _ _ _ hp
      · exact h.elim), meets (l := db_value.env n) (all_cons db_none.ok (all_cons ih0 (all_cons ih1 (all_cons clone_bs.ok (all_cons db_number.ok (all_cons sc_Itoa.ok (all_cons ih2 all_nil))))))) (db_value.chk n) (by
      intro ins outs h
      unfold db_value.cn at h
      split at h
      · obtain ⟨hp, rfl⟩ := h; exact db_value.fit n _ _ _ _ _ _ hp
      · exact h.elim), meets (l := db_tag.env n) (all_cons db_none.ok (all_cons ih0 (all_cons db_regular.ok (all_cons db_kinds.ok (all_cons db_small.ok all_nil))))) (db_tag.chk n) (by
      intro ins outs h
      unfold db_tag.cn at h
      split at h
      · obtain ⟨hp, rfl⟩ := h; exact db_tag.fit n _ _ _ _ _ _ hp
      · exact h.elim)⟩
theorem db_with.ok : SpecOK Go.Proofs.Tryd.prog (fun n => (trydbGl n).av) 28 (Ctr.fs (db_with.c, db_with.sg)) := spec_sub fun ti to_ h => by
  unfold db_with.c at h
  split at h
  · obtain ⟨hp, rfl⟩ := h; exact ⟨db_with.cn (_ + 1), (dbvalue.oks _).1, Bool.and_eq_true_iff.2 ⟨hp, decide_eq_true (Nat.lt_succ_self _)⟩, rfl⟩
  · exact h.elim
theorem db_Value.fit (it_kind : Int) (it_n : UInt64) (it_bytes : List UInt8) (it_text : Str) (it_kids : List Itm) (hp : (decide (Itm.bulk (Itm.of (Itv.mk it_kind it_n it_bytes it_text it_kids)) ≤ 1073741824)) = true) : ([.ag [.i .i64 it_kind, .u64 it_n, .sl .bs it_bytes, .s it_text, .sl .il it_kids]] : List TV).length = db_Value.d.np ∧ db_Value.d.run (envL trydbGl db_Value.env) [.ag [.i .i64 it_kind, .u64 it_n, .sl .bs it_bytes, .s it_text, .sl .il it_kids]] = some (([(.ag (Val.cells ((Db.dec (Itm.of (Itv.mk it_kind it_n it_bytes it_text it_kids))).1))), (.ag (Flt.cells ((Db.dec (Itm.of (Itv.mk it_kind it_n it_bytes it_text it_kids))).2)))] : List TV) ++ db_Value.d.ps.toList.map fun q => ([.ag [.i .i64 it_kind, .u64 it_n, .sl .bs it_bytes, .s it_text, .sl .il it_kids]] : List TV).getD q.1 .dead) :=
  ⟨by kernel_rfl, Eq.trans (b := db_Value.F (Itv.mk it_kind it_n it_bytes it_text it_kids)) (by kernel_rfl) (Eq.trans (db_Value.goal (Itv.mk it_kind it_n it_bytes it_text it_kids) hp) (by kernel_rfl))⟩
theorem db_Value.ok : SpecOK Go.Proofs.Tryd.prog (fun n => (trydbGl n).av) 15 (Ctr.fs (db_Value.c, db_Value.sg)) :=
  meets (l := db_Value.env) (all_cons cb_Check.ok (all_cons db_none.ok (all_cons db_with.ok all_nil))) db_Value.chk (by
      intro ins outs h
      unfold db_Value.c at h
      split at h
      · obtain ⟨hp, rfl⟩ := h; exact db_Value.fit _ _ _ _ _ hp
      · exact h.elim)
theorem ref28_Integer.fit (n : Int) (hp : (decide (-9223372036854775808 ≤ n ∧ n ≤ 9223372036854775807)) = true) : ([.i .i64 n] : List TV).length = ref28_Integer.d.np ∧ ref28_Integer.d.run (envL trydbGl ref28_Integer.env) [.i .i64 n] = some (([(.ag (Itv.cells (Itm.val (Db.integer n))))] : List TV) ++ ref28_Integer.d.ps.toList.map fun q => ([.i .i64 n] : List TV).getD q.1 .dead) :=
  ⟨by kernel_rfl, Eq.trans (b := ref28_Integer.F n) (by kernel_rfl) (Eq.trans (ref28_Integer.goal n hp) (by kernel_rfl))⟩
theorem ref28_Integer.ok : SpecOK Go.Proofs.Tryd.prog (fun n => (trydbGl n).av) 65 (Ctr.fs (ref28_Integer.c, ref28_Integer.sg)) :=
  meets (l := ref28_Integer.env) all_nil ref28_Integer.chk (by
      intro ins outs h
      unfold ref28_Integer.c at h
      split at h
      · obtain ⟨hp, rfl⟩ := h; exact ref28_Integer.fit _ hp
      · exact h.elim)
theorem ref28_text.fit (s : Str) : ([.s s] : List TV).length = ref28_text.d.np ∧ ref28_text.d.run (envL trydbGl ref28_text.env) [.s s] = some (([(.ag (Itv.cells (Itm.val (Db.text s))))] : List TV) ++ ref28_text.d.ps.toList.map fun q => ([.s s] : List TV).getD q.1 .dead) :=
  ⟨by kernel_rfl, Eq.trans (b := ref28_text.F s) (by kernel_rfl) (Eq.trans (ref28_text.goal s) (by kernel_rfl))⟩
theorem ref28_text.ok : SpecOK Go.Proofs.Tryd.prog (fun n => (trydbGl n).av) 38 (Ctr.fs (ref28_text.c, ref28_text.sg)) :=
  meets (l := ref28_text.env) all_nil ref28_text.chk (by
      intro ins outs h
      unfold ref28_text.c at h
      split at h
      · cases h; exact ref28_text.fit _
      · exact h.elim)
theorem ref28_list.fit (l : List Itm) : ([.sl .il l] : List TV).length = ref28_list.d.np ∧ ref28_list.d.run (envL trydbGl ref28_list.env) [.sl .il l] = some (([(.ag (Itv.cells (Itm.val (Db.list l))))] : List TV) ++ ref28_list.d.ps.toList.map fun q => ([.sl .il l] : List TV).getD q.1 .dead) :=
  ⟨by kernel_rfl, Eq.trans (b := ref28_list.F l) (by kernel_rfl) (Eq.trans (ref28_list.goal l) (by kernel_rfl))⟩
theorem ref28_list.ok : SpecOK Go.Proofs.Tryd.prog (fun n => (trydbGl n).av) 63 (Ctr.fs (ref28_list.c, ref28_list.sg)) :=
  meets (l := ref28_list.env) all_nil ref28_list.chk (by
      intro ins outs h
      unfold ref28_list.c at h
      split at h
      · cases h; exact ref28_list.fit _
      · exact h.elim)
theorem ref28_data.fit (b : List UInt8) : ([.sl .bs b] : List TV).length = ref28_data.d.np ∧ ref28_data.d.run (envL trydbGl ref28_data.env) [.sl .bs b] = some (([(.ag (Itv.cells (Itm.val (Db.raw b))))] : List TV) ++ ref28_data.d.ps.toList.map fun q => ([.sl .bs b] : List TV).getD q.1 .dead) :=
  ⟨by kernel_rfl, Eq.trans (b := ref28_data.F b) (by kernel_rfl) (Eq.trans (ref28_data.goal b) (by kernel_rfl))⟩
theorem ref28_data.ok : SpecOK Go.Proofs.Tryd.prog (fun n => (trydbGl n).av) 64 (Ctr.fs (ref28_data.c, ref28_data.sg)) :=
  meets (l := ref28_data.env) all_nil ref28_data.chk (by
      intro ins outs h
      unfold ref28_data.c at h
      split at h
      · cases h; exact ref28_data.fit _
      · exact h.elim)
theorem ref28_tag.fit (k : Int) (it_kind : Int) (it_n : UInt64) (it_bytes : List UInt8) (it_text : Str) (it_kids : List Itm) : ([.i .i64 k, .ag [.i .i64 it_kind, .u64 it_n, .sl .bs it_bytes, .s it_text, .sl .il it_kids]] : List TV).length = ref28_tag.d.np ∧ ref28_tag.d.run (envL trydbGl ref28_tag.env) [.i .i64 k, .ag [.i .i64 it_kind, .u64 it_n, .sl .bs it_bytes, .s it_text, .sl .il it_kids]] = some (([(.ag (Itv.cells (Itm.val ((Itm.mk 7 (UInt64.ofInt (IntKind.i64.wrap (1000 + k))) [] [] [Itm.of (Itv.mk it_kind it_n it_bytes it_text it_kids)])))))] : List TV) ++ ref28_tag.d.ps.toList.map fun q => ([.i .i64 k, .ag [.i .i64 it_kind, .u64 it_n, .sl .bs it_bytes, .s it_text, .sl .il it_kids]] : List TV).getD q.1 .dead) :=
  ⟨by kernel_rfl, Eq.trans (b := ref28_tag.F k (Itv.mk it_kind it_n it_bytes it_text it_kids)) (by kernel_rfl) (Eq.trans (ref28_tag.goal k (Itv.mk it_kind it_n it_bytes it_text it_kids)) (by kernel_rfl))⟩
theorem ref28_tag.ok : SpecOK Go.Proofs.Tryd.prog (fun n => (trydbGl n).av) 62 (Ctr.fs (ref28_tag.c, ref28_tag.sg)) :=
  meets (l := ref28_tag.env) all_nil ref28_tag.chk (by
      intro ins outs h
      unfold ref28_tag.c at h
      split at h
      · cases h; exact ref28_tag.fit _ _ _ _ _ _
      · exact h.elim)
theorem ref28_mapped.fit (n : Nat) (l : List Fld) (hp : ((decide (Fld.bulks l ≤ 1073741824)) && decide ((2 * Fld.bulks l + 2) < n + 1)) = true) : ([.sl .fl l] : List TV).length = ref28_mapped.d.np ∧ ref28_mapped.d.run (envL trydbGl (ref28_mapped.env n)) [.sl .fl l] = some (([(.ag (Itv.cells (Itm.val (Db.map (Db.mapped l)))))] : List TV) ++ ref28_mapped.d.ps.toList.map fun q => ([.sl .fl l] : List TV).getD q.1 .dead) :=
  ⟨by kernel_rfl, Eq.trans (b := ref28_mapped.F n l) (by kernel_rfl) (Eq.trans (ref28_mapped.goal n l hp) (by kernel_rfl))⟩
theorem ref28_item.fit (n : Nat) (v_kind : Int) (v_bits : UInt64) (v_high : UInt64) (v_low : UInt64) (v_text : Str) (v_more : Str) (v_sub : Int) (v_bytes : List UInt8) (v_kids : List Fld) (hp : ((decide (Fld.bulk (Fld.of [] (Val.mk v_kind v_bits v_high v_low v_text v_more v_sub v_bytes v_kids)) ≤ 1073741824)) && decide ((2 * Fld.bulk (Fld.of [] (Val.mk v_kind v_bits v_high v_low v_text v_more v_sub v_bytes v_kids)) + 1) < n + 1)) = true) : ([.ag [.i .i64 v_kind, .u64 v_bits, .u64 v_high, .u64 v_low, .s v_text, .s v_more, .i .i64 v_sub, .sl .bs v_bytes, .sl .fl v_kids]] : List TV).length = ref28_item.d.np ∧ ref28_item.d.run (envL trydbGl (ref28_item.env n)) [.ag [.i .i64 v_kind, .u64 v_bits, .u64 v_high, .u64 v_low, .s v_text, .s v_more, .i .i64 v_sub, .sl .bs v_bytes, .sl .fl v_kids]] = some (([(.ag (Itv.cells (Itm.val (Db.item (Fld.of [] (Val.mk v_kind v_bits v_high v_low v_text v_more v_sub v_bytes v_kids))))))] : List TV) ++ ref28_item.d.ps.toList.map fun q => ([.ag [.i .i64 v_kind, .u64 v_bits, .u64 v_high, .u64 v_low, .s v_text, .s v_more, .i .i64 v_sub, .sl .bs v_bytes, .sl .fl v_kids]] : List TV).getD q.1 .dead) :=
  ⟨by kernel_rfl, Eq.trans (b := ref28_item.F n (Val.mk v_kind v_bits v_high v_low v_text v_more v_sub v_bytes v_kids)) (by kernel_rfl) (Eq.trans (ref28_item.goal n (Val.mk v_kind v_bits v_high v_low v_text v_more v_sub v_bytes v_kids) hp) (by kernel_rfl))⟩
theorem ritem.oks : ∀ n : Nat, (SpecOK Go.Proofs.Tryd.prog (fun n => (trydbGl n).av) 23 (Ctr.fs (ref28_mapped.cn n, ref28_mapped.sg))) ∧ (SpecOK Go.Proofs.Tryd.prog (fun n => (trydbGl n).av) 39 (Ctr.fs (ref28_item.cn n, ref28_item.sg))) := by
  intro n
  induction n with
  | zero => exact ⟨spec_zero (by
      intro ti to_ h
      unfold ref28_mapped.cn at h
      split at h
      · obtain ⟨h, _⟩ := h; simp at h
      · exact h.elim), spec_zero (by
      intro ti to_ h
      unfold ref28_item.cn at h
      split at h
      · obtain ⟨h, _⟩ := h; simp at h
      · exact h.elim)⟩
  | succ n ih =>
    obtain ⟨ih0, ih1⟩ := ih
    exact ⟨meets (l := ref28_mapped.env n) (all_cons ref28_text.ok (all_cons ih1 all_nil)) (ref28_mapped.chk n) (by
      intro ins outs h
      unfold ref28_mapped.cn at h
      split at h
      · obtain ⟨hp, rfl⟩ := h; exact ref28_mapped.fit n _ hp
      · exact h.elim), meets (l := ref28_item.env n) (all_cons ih0 (all_cons ref28_text.ok (all_cons ih1 (all_cons ref17_Regular.ok (all_cons ref28_tag.ok (all_cons ref28_list.ok (all_cons ref28_data.ok (all_cons ref28_Integer.ok (all_cons ref1_PutHigh.ok all_nil))))))))) (ref28_item.chk n) (by
      intro ins outs h
      unfold ref28_item.cn at h
      split at h
      · obtain ⟨hp, rfl⟩ := h; exact ref28_item.fit n _ _ _ _ _ _ _ _ _ hp
      · exact h.elim)⟩
theorem ref28_mapped.ok : SpecOK Go.Proofs.Tryd.prog (fun n => (trydbGl n).av) 23 (Ctr.fs (ref28_mapped.c, ref28_mapped.sg)) := spec_sub fun ti to_ h => by
  unfold ref28_mapped.c at h
  split at h
  · obtain ⟨hp, rfl⟩ := h; exact ⟨ref28_mapped.cn (_ + 1), (ritem.oks _).1, Bool.and_eq_true_iff.2 ⟨hp, decide_eq_true (Nat.lt_succ_self _)⟩, rfl⟩
  · exact h.elim
theorem ref28_Item.fit (v_kind : Int) (v_bits : UInt64) (v_high : UInt64) (v_low : UInt64) (v_text : Str) (v_more : Str) (v_sub : Int) (v_bytes : List UInt8) (v_kids : List Fld) (hp : (decide (Fld.bulk (Fld.of [] (Val.mk v_kind v_bits v_high v_low v_text v_more v_sub v_bytes v_kids)) ≤ 1073741824)) = true) : ([.ag [.i .i64 v_kind, .u64 v_bits, .u64 v_high, .u64 v_low, .s v_text, .s v_more, .i .i64 v_sub, .sl .bs v_bytes, .sl .fl v_kids]] : List TV).length = ref28_Item.d.np ∧ ref28_Item.d.run (envL trydbGl ref28_Item.env) [.ag [.i .i64 v_kind, .u64 v_bits, .u64 v_high, .u64 v_low, .s v_text, .s v_more, .i .i64 v_sub, .sl .bs v_bytes, .sl .fl v_kids]] = some (([(.ag (Itv.cells (Itm.val ((Db.enc (Val.mk v_kind v_bits v_high v_low v_text v_more v_sub v_bytes v_kids)).1)))), (.ag (Flt.cells ((Db.enc (Val.mk v_kind v_bits v_high v_low v_text v_more v_sub v_bytes v_kids)).2)))] : List TV) ++ ref28_Item.d.ps.toList.map fun q => ([.ag [.i .i64 v_kind, .u64 v_bits, .u64 v_high, .u64 v_low, .s v_text, .s v_more, .i .i64 v_sub, .sl .bs v_bytes, .sl .fl v_kids]] : List TV).getD q.1 .dead) :=
  ⟨by kernel_rfl, Eq.trans (b := ref28_Item.F (Val.mk v_kind v_bits v_high v_low v_text v_more v_sub v_bytes v_kids)) (by kernel_rfl) (Eq.trans (ref28_Item.goal (Val.mk v_kind v_bits v_high v_low v_text v_more v_sub v_bytes v_kids) hp) (by kernel_rfl))⟩
theorem ref28_Item.ok : SpecOK Go.Proofs.Tryd.prog (fun n => (trydbGl n).av) 11 (Ctr.fs (ref28_Item.c, ref28_Item.sg)) :=
  meets (l := ref28_Item.env) (all_cons ref17_Check.ok (all_cons ref28_mapped.ok all_nil)) ref28_Item.chk (by
      intro ins outs h
      unfold ref28_Item.c at h
      split at h
      · obtain ⟨hp, rfl⟩ := h; exact ref28_Item.fit _ _ _ _ _ _ _ _ _ hp
      · exact h.elim)
theorem law30_awake.fit : ([] : List TV).length = law30_awake.d.np ∧ law30_awake.d.run (envL trydbGl law30_awake.env) [] = some (([(.b (true))] : List TV) ++ law30_awake.d.ps.toList.map fun q => ([] : List TV).getD q.1 .dead) :=
  ⟨by kernel_rfl, Eq.trans (b := law30_awake.F ) (by kernel_rfl) (Eq.trans (law30_awake.goal ) (by kernel_rfl))⟩
theorem law30_awake.ok : SpecOK Go.Proofs.Tryd.prog (fun n => (trydbGl n).av) 8 (Ctr.fs (law30_awake.c, law30_awake.sg)) :=
  meets (l := law30_awake.env) (all_cons db_Item.ok (all_cons db_Value.ok all_nil)) law30_awake.chk (by
      intro ins outs h
      unfold law30_awake.c at h
      split at h
      · cases h; exact law30_awake.fit
      · exact h.elim)
end Go.Eng
namespace Go.Eng
open Go.IntWalk
mutual
theorem Tree.chkF_len : ∀ (f : Fld) (p : List Int), (Tree.chkF f p).1.length ≤ p.length + Fld.bulk f
  | .mk n k b h l t m s y ks, p => by
    have := Tree.chkL_len ks 0 p
    simp only [Tree.chkF, Fld.bulk]
    split
    · simp only; omega
    · omega
theorem Tree.chkL_len : ∀ (ks : List Fld) (i : Nat) (p : List Int), (Tree.chkL ks i p).1.length ≤ p.length + 1 + Fld.bulks ks
  | [], i, p => by simp [Tree.chkL]
  | f :: r, i, p => by
    have h1 := Tree.chkF_len f (p ++ [(i : Int)])
    have h2 := Tree.chkL_len r (i + 1) p
    simp only [Tree.chkL, Fld.bulks]
    simp only [List.length_append, List.length_singleton] at h1
    split <;> omega
end
namespace Db
theorem integer_bulk (x : Int) : Itm.bulk (integer x) = 1 := by unfold integer; split <;> simp [Itm.bulk, Itm.bulks]
theorem words_len (a b : UInt64) : (words a b).length = 16 := by rw [words, List.length_append, Cur.putHigh_len, Cur.putHigh_len]
theorem tagged_bulk (v : Val) (m : List Itm) : Itm.bulk (tagged v m) ≤ 20 + v.text.length + v.more.length + v.bytes.length + Itm.bulks m := by
  have h1 := words_len v.high v.low
  have h2 := integer_bulk (i64 v.bits)
  unfold tagged
  repeat' split
  all_goals first | omega | (simp only [map, list, plus, raw, text, simple, Itm.bulk, Itm.bulks, List.length_nil]; omega)
theorem itemOf_bulk (v : Val) (m l : List Itm) : Itm.bulk (itemOf v m l) ≤ 25 + v.text.length + v.more.length + v.bytes.length + max (Itm.bulks m) (Itm.bulks l) := by
  have h1 := tagged_bulk v m
  have h2 := integer_bulk (i32 v.bits)
  unfold itemOf
  repeat' split
  all_goals first | omega | (simp only [map, list, plus, raw, text, simple, Itm.bulk, Itm.bulks, List.length_nil]; omega)
mutual
theorem item_bulk : ∀ f : Fld, Itm.bulk (item f) + 1 + f.name.length ≤ 32 * Fld.bulk f
  | .mk n k b h lo t m s y ks => by
    have h1 := mapped_bulk ks
    have h2 := items_bulk ks
    have h3 := itemOf_bulk ⟨k, b, h, lo, t, m, s, y, ks⟩ (mapped ks) (items ks)
    simp only [item, Fld.bulk, Fld.name] at h3 ⊢
    omega
theorem mapped_bulk : ∀ l : List Fld, Itm.bulks (mapped l) ≤ 32 * Fld.bulks l
  | [] => Nat.zero_le _
  | f :: r => by
    have h1 := item_bulk f
    have h2 := mapped_bulk r
    simp only [mapped, Itm.bulks, Fld.bulks, text, Itm.bulk, List.length_nil]; omega
theorem items_bulk : ∀ l : List Fld, Itm.bulks (items l) ≤ 32 * Fld.bulks l
  | [] => Nat.zero_le _
  | f :: r => by
    have h1 := item_bulk f
    have h2 := items_bulk r
    simp only [items, Itm.bulks, Fld.bulks]; omega
end
theorem enc_bulk (v : Val) : Itm.bulk (enc v).1 ≤ 32 * Fld.bulk (Fld.of [] v) := by
  have h1 := mapped_bulk v.kids
  have h2 : Fld.bulks v.kids < Fld.bulk (Fld.of [] v) := by simp only [Fld.of, Fld.bulk]; omega
  unfold enc
  repeat' split
  all_goals simp only [map, Mp.zero, Itm.bulk, Itm.bulks, List.length_nil]
  all_goals omega
theorem enc_path (v : Val) : (enc v).2.path.length ≤ Fld.bulk (Fld.of [] v) := by
  have := Tree.chkF_len (Fld.of [] v) []
  unfold enc
  repeat' split
  all_goals simp only [List.length_nil] at this ⊢
  all_goals omega
def Leads (p q : List Int) (m : Nat) : Prop := ∃ r, q = p ++ r ∧ r.length ≤ m
theorem Leads.mono {p q : List Int} {a b : Nat} (h : Leads p q a) (hab : a ≤ b) : Leads p q b := by
  obtain ⟨r, hr, hl⟩ := h; exact ⟨r, hr, by omega⟩
theorem Leads.one (p : List Int) (x : Int) : Leads p (p ++ [x]) 1 := ⟨[x], rfl, Nat.le_refl _⟩
end Db
end Go.Eng
namespace Go.Eng
noncomputable section
def DocborItems.sg : FSig := {}
def DocborItems.c : Ctr := fun l => match l with
  | [.ag [.i .i64 v_kind, .u64 v_bits, .u64 v_high, .u64 v_low, .s v_text, .s v_more, .i .i64 v_sub, .sl .bs v_bytes, .sl .fl v_kids]] => .ok [(.b (true))]
  | _ => .err
end
noncomputable section
def DocborItems.env : List (Nat × (Ctr × FSig)) := [(8, (law30_awake.c, law30_awake.sg)), (9, (book_Small.c, book_Small.sg)), (10, (db_Item.c, db_Item.sg)), (11, (ref28_Item.c, ref28_Item.sg)), (12, (ref5_Same.c, ref5_Same.sg)), (13, (ref28_Same.c, ref28_Same.sg))]
def DocborItems.E : TEnv := envL trydbGl DocborItems.env
def DocborItems.m : TM := .seq (.reg [
    ⟨.k (.bx 1030), [.s 0, .s 1030], [1, 1030], none⟩,
    ⟨.k .mv, [.c (.b false)], [2], none⟩]) none (.seq (.seq (.reg [
    ⟨.k (.call 8 (.plain 0 1)), [], [7], none⟩,
    ⟨.k (.un .not), [.s 7], [8], none⟩]) none (.cond (.s 8) [] (.seq (.reg [
    ⟨.k .mv, [.c (.b false)], [2], none⟩]) none .ret) .skip)) none (.seq (.seq (.reg [
    ⟨.k (.ld 1030 0 9 true), [.s 1, .s 1030], [9], none⟩,
    ⟨.k (.call 9 (.plain 1 1)), [.s 9], [10], none⟩,
    ⟨.k (.un .not), [.s 10], [11], none⟩]) none (.cond (.s 11) [] (.seq (.reg [
    ⟨.k .mv, [.c (.b true)], [2], none⟩]) none .ret) .skip)) none (.seq (.reg [
    ⟨.k (.ld 1030 0 9 true), [.s 1, .s 1030], [13], none⟩,
    ⟨.k (.call 10 (.plain 1 2)), [.s 13], [14], none⟩,
    ⟨.k .mv, [.s 14], [12], none⟩,
    ⟨.k (.ex 0), [.s 12], [15], none⟩,
    ⟨.k (.ex 1), [.s 12], [16], none⟩,
    ⟨.al 1031 [(.i .i64 (0 : Int)), (.u64 (0 : UInt64)), (.sl .bs ([] : List UInt8)), (.s ([] : Str)), (.sl .il ([] : List Itm))] [], [.s 1031], [3, 1031], none⟩,
    ⟨.al 1032 [(.i .i64 (0 : Int)), (.i .i64 (0 : Int)), (.sl .is ([] : List Int))] [], [.s 1032], [4, 1032], none⟩,
    ⟨.k (.st 1031 0 5), [.s 3, .s 1031, .s 15], [1031], none⟩,
    ⟨.k (.st 1032 0 3), [.s 4, .s 1032, .s 16], [1032], none⟩]) none (.seq (.reg [
    ⟨.k (.ld 1030 0 9 true), [.s 1, .s 1030], [18], none⟩,
    ⟨.k (.call 11 (.plain 1 2)), [.s 18], [19], none⟩,
    ⟨.k .mv, [.s 19], [17], none⟩,
    ⟨.k (.ex 0), [.s 17], [20], none⟩,
    ⟨.k (.ex 1), [.s 17], [21], none⟩,
    ⟨.al 1033 [(.i .i64 (0 : Int)), (.u64 (0 : UInt64)), (.sl .bs ([] : List UInt8)), (.s ([] : Str)), (.sl .il ([] : List Itm))] [], [.s 1033], [5, 1033], none⟩,
    ⟨.al 1034 [(.i .i64 (0 : Int)), (.i .i64 (0 : Int)), (.sl .is ([] : List Int))] [], [.s 1034], [6, 1034], none⟩,
    ⟨.k (.st 1033 0 5), [.s 5, .s 1033, .s 20], [1033], none⟩,
    ⟨.k (.st 1034 0 3), [.s 6, .s 1034, .s 21], [1034], none⟩]) none (.seq (.reg [
    ⟨.k (.ld 1032 0 3 true), [.s 4, .s 1032], [22], none⟩,
    ⟨.k (.ld 1034 0 3 true), [.s 6, .s 1034], [23], none⟩,
    ⟨.k (.call 12 (.plain 2 1)), [.s 22, .s 23], [24], none⟩,
    ⟨.k .mv, [.s 24], [25], none⟩,
    ⟨.k (.ld 1031 0 5 true), [.s 3, .s 1031], [26], some (25, true)⟩,
    ⟨.k (.ld 1033 0 5 true), [.s 5, .s 1033], [27], some (25, true)⟩,
    ⟨.k (.call 13 (.plain 2 1)), [.s 26, .s 27], [28], some (25, true)⟩,
    ⟨.k .pick, [.s 25, .s 28, .c (.b false)], [29], none⟩,
    ⟨.k .mv, [.s 29], [2], none⟩]) none .ret)))))
def DocborItems.d : TFD := { np := 1, m := DocborItems.m, ref := none, tips := [], res := [.t 2], own := [], new := none, tnew := [] }
noncomputable def DocborItems.F (v : Val) : Option (List TV) := DocborItems.d.run DocborItems.E [(.ag (Val.cells v))]
theorem DocborItems.F_in (v : Val) {ρ : Option (List TV)} (K : ∀ (v1 : Bool) (h1 : v1 = (decide ((((Db.enc v).2)).err = (((Db.enc v).2)).err ∧ (((Db.enc v).2)).at_ = (((Db.enc v).2)).at_ ∧ (((Db.enc v).2)).path = (((Db.enc v).2)).path))) (v2 : Bool) (h2 : v2 = (Itm.same (Itm.of (Itm.val ((Db.enc v).1))) (Itm.of (Itm.val ((Db.enc v).1))))), cond (!(true))
    (some [(.b false)])
    (cond (!(decide (0 ≤ Book.value 1200 (Fld.of [] v))))
    (some [(.b true)])
    (ck (decide (Fld.bulk (Fld.of [] v) ≤ 1073741824)) (ck (decide (Fld.bulk (Fld.of [] v) ≤ 1073741824)) (ck (decide ((((Db.enc v).2)).path.length ≤ 1099511627776)) (ck (!v1 || ((v1 && v1) && (decide (Itm.bulk (Itm.of (Itm.val ((Db.enc v).1))) ≤ 1099511627776)))) (ck (!v1 || v1) (some [(.b (cond v1 v2 false))]))))))) = ρ) : DocborItems.F v = ρ := Eq.trans (by kernel_rfl) (K _ rfl _ rfl)
theorem DocborItems.chk : ((Go.Proofs.Tryd.prog.funcs[3]?).any fun fn => chkF Go.Proofs.Tryd.prog (fun k => ((envL trydbGl DocborItems.env).fs k).2) fn DocborItems.d.erase) = true := by kernel_rfl
end
end Go.Eng
namespace Go.Eng
open Go.IntWalk
theorem DocborItems.goal (v : Val) : DocborItems.F v = some [.b true] := by
  refine DocborItems.F_in v ?_
  intro v1 h1 v2 h2
  rw [Bool.not_true, cond_false]
  by_cases a : 0 ≤ Book.value 1200 (Fld.of [] v)
  · have hb := Book.small_bulk v a
    have h3 := Db.enc_bulk v
    have h4 := Db.enc_path v
    rw [Itm.of_val, Itm.same_refl] at h2
    have h1' : v1 = true := by rw [h1]; exact decide_eq_true ⟨rfl, rfl, rfl⟩
    rw [decide_eq_true a, Bool.not_true, cond_false, ck_of (decide_eq_true (by omega)), ck_of (decide_eq_true (by omega)), ck_of (decide_eq_true (by omega)), h1', h2, Itm.of_val, ck_of (by rw [decide_eq_true (show Itm.bulk (Db.enc v).1 ≤ 1099511627776 by omega)]; rfl)]
    rfl
  · rw [decide_eq_false a]; rfl
end Go.Eng
namespace Go.Eng
theorem DocborItems.fit (v_kind : Int) (v_bits : UInt64) (v_high : UInt64) (v_low : UInt64) (v_text : Str) (v_more : Str) (v_sub : Int) (v_bytes : List UInt8) (v_kids : List Fld) : ([.ag [.i .i64 v_kind, .u64 v_bits, .u64 v_high, .u64 v_low, .s v_text, .s v_more, .i .i64 v_sub, .sl .bs v_bytes, .sl .fl v_kids]] : List TV).length = DocborItems.d.np ∧ DocborItems.d.run (envL trydbGl DocborItems.env) [.ag [.i .i64 v_kind, .u64 v_bits, .u64 v_high, .u64 v_low, .s v_text, .s v_more, .i .i64 v_sub, .sl .bs v_bytes, .sl .fl v_kids]] = some (([(.b (true))] : List TV) ++ DocborItems.d.ps.toList.map fun q => ([.ag [.i .i64 v_kind, .u64 v_bits, .u64 v_high, .u64 v_low, .s v_text, .s v_more, .i .i64 v_sub, .sl .bs v_bytes, .sl .fl v_kids]] : List TV).getD q.1 .dead) :=
  ⟨by kernel_rfl, Eq.trans (b := DocborItems.F (Val.mk v_kind v_bits v_high v_low v_text v_more v_sub v_bytes v_kids)) (by kernel_rfl) (Eq.trans (DocborItems.goal (Val.mk v_kind v_bits v_high v_low v_text v_more v_sub v_bytes v_kids)) (by kernel_rfl))⟩
theorem DocborItems.ok : SpecOK Go.Proofs.Tryd.prog (fun n => (trydbGl n).av) 3 (Ctr.fs (DocborItems.c, DocborItems.sg)) :=
  meets (l := DocborItems.env) (all_cons law30_awake.ok (all_cons book_Small.ok (all_cons db_Item.ok (all_cons ref28_Item.ok (all_cons ref5_Same.ok (all_cons ref28_Same.ok all_nil)))))) DocborItems.chk (by
      intro ins outs h
      unfold DocborItems.c at h
      split at h
      · cases h; exact DocborItems.fit _ _ _ _ _ _ _ _ _
      · exact h.elim)
end Go.Eng
