/- All operations on typed values. -/
import Derived.Test.YtenbejbhjgkibaaEvC
set_option linter.unusedVariables false
set_option linter.unusedSimpArgs false
namespace Go.Eng

def TV.isAg : TV → Bool
  | .ag _ => true
  | _ => false
def TV.cells : TV → List TV
  | .ag cs => cs
  | x => [x]
def TV.plain : TV → Bool
  | .u8 _ => true
  | .u16 _ => true
  | .u32 _ => true
  | .u64 _ => true
  | .i _ _ => true
  | .b _ => true
  | .s _ => true
  | .sl _ _ => true
  | .ag _ => true
  | .ro _ => true
  | .c x => x.oneCell'
  | _ => false

def partT (cs : List TV) (o n : Nat) (agg : Bool) : Option TV :=
  match agg with
  | true => cond (Nat.ble (o + n) cs.length) (some (.ag ((cs.drop o).take n))) none
  | false => cs[o]?
def spliceT (cs : List TV) (o : Nat) (xs : List TV) : List TV := cs.take o ++ xs ++ cs.drop (o + xs.length)
def fillT (z : List TV) : List (Nat × Nat) → List TV → Option (List TV)
  | [], [] => some z
  | (o, n) :: pl, x :: xs => cond (x.plain && Nat.beq x.cells.length n && Nat.ble (o + n) z.length) (fillT (spliceT z o x.cells) pl xs) none
  | _, _ => none

theorem TV.cells_av (x : TV) (h : x.plain = true) : x.av.cells = x.cells.map TV.av := by
  cases x <;> first | rfl | cases h | skip
  · simp [TV.av, AV.cells, TV.cells, TV.avs_map]
theorem TV.plain_av (x : TV) (h : x.plain = true) : x.av.plain = true := by
  cases x <;> first | rfl | cases h | exact h | skip
theorem TV.isAg_av (x : TV) (h : x.plain = true) : x.av.isAg = x.isAg := by
  cases x <;> first | rfl | cases h

theorem partT_av {cs : List TV} {o n : Nat} {agg : Bool} {x : TV} (h : partT cs o n agg = some x) : partAV (cs.map TV.av) o n agg = some x.av := by
  cases agg with
  | true =>
    simp only [partT] at h
    cases hb : Nat.ble (o + n) cs.length with
    | false => rw [hb] at h; cases h
    | true =>
      rw [hb] at h
      cases h
      simp only [partAV, if_true, List.length_map, Nat.le_of_ble_eq_true hb, TV.av, TV.avs_map]
      simp [List.map_take, List.map_drop]
  | false =>
    simp only [partT] at h
    simp only [partAV, Bool.false_eq_true, if_false, List.getElem?_map, h]
    rfl
theorem spliceT_av (cs xs : List TV) (o : Nat) : (spliceT cs o xs).map TV.av = splice (cs.map TV.av) o (xs.map TV.av) := by
  simp [spliceT, splice, List.map_take, List.map_drop]
theorem fillT_av : ∀ {pl : List (Nat × Nat)} {z xs cs : List TV}, fillT z pl xs = some cs → fillAV (z.map TV.av) pl (xs.map TV.av) = some (cs.map TV.av)
  | [], z, [], cs, h => by cases h; rfl
  | (o, n) :: pl, z, x :: xs, cs, h => by
    simp only [fillT] at h
    cases hb : (x.plain && Nat.beq x.cells.length n && Nat.ble (o + n) z.length) with
    | false => rw [hb] at h; cases h
    | true =>
      rw [hb] at h
      simp only [Bool.and_eq_true] at hb
      obtain ⟨⟨h1, h2⟩, h3⟩ := hb
      have h2 := Nat.eq_of_beq_eq_true h2
      have h3 := Nat.le_of_ble_eq_true h3
      simp only [List.map_cons, fillAV, TV.plain_av x h1, TV.cells_av x h1, List.length_map, h2, h3, and_self, if_true]
      rw [← spliceT_av]
      exact fillT_av h
  | [], z, _ :: _, cs, h => by cases h
  | _ :: _, z, [], cs, h => by cases h

/-- A part of an element; an element, a part of which is another one. -/
def partElT (e : TV) (o n : Nat) (agg : Bool) : Option TV :=
  match e with
  | .ag cs => partT cs o n agg
  | x => cond (Nat.beq o 0 && Nat.beq n 1 && !agg) (some x) none
def putElT (e : TV) (o : Nat) (x : TV) : Option TV :=
  match e with
  | .ag cs => cond (Nat.ble (o + x.cells.length) cs.length) (some (.ag (spliceT cs o x.cells))) none
  | _ => cond (Nat.beq o 0 && !x.isAg) (some x) none
theorem partElT_av {e x : TV} {o n : Nat} {agg : Bool} (he : e.plain = true) (h : partElT e o n agg = some x) : partEl e.av o n agg = some x.av := by
  cases e <;> first | cases he | skip
  case ag cs => simp only [partElT] at h; simp only [TV.av, TV.avs_map, partEl]; exact partT_av h
  all_goals
    simp only [partElT] at h
    cases hb : (Nat.beq o 0 && Nat.beq n 1 && !agg) with
    | false => rw [hb] at h; cases h
    | true =>
      rw [hb] at h
      cases h
      simp only [Bool.and_eq_true, Bool.not_eq_true'] at hb
      obtain ⟨⟨h1, h2⟩, h3⟩ := hb
      have h1 := Nat.eq_of_beq_eq_true h1
      have h2 := Nat.eq_of_beq_eq_true h2
      simp [partEl, TV.av, byteAV, u64AV, strAV, h1, h2, h3]
theorem putElT_av {e x y : TV} {o : Nat} (he : e.plain = true) (hx : x.plain = true) (h : putElT e o x = some y) : putEl e.av o x.av = some y.av := by
  cases e <;> first | cases he | skip
  case ag cs =>
    simp only [putElT] at h
    cases hb : Nat.ble (o + x.cells.length) cs.length with
    | false => rw [hb] at h; cases h
    | true =>
      rw [hb] at h
      cases h
      simp only [TV.av, TV.avs_map, putEl, TV.cells_av x hx, List.length_map, Nat.le_of_ble_eq_true hb, if_true, spliceT_av]
  all_goals
    simp only [putElT] at h
    cases hb : (Nat.beq o 0 && !x.isAg) with
    | false => rw [hb] at h; cases h
    | true =>
      rw [hb] at h
      cases h
      simp only [Bool.and_eq_true, Bool.not_eq_true'] at hb
      have h1 := Nat.eq_of_beq_eq_true hb.1
      have h2 := TV.isAg_av _ hx
      rw [hb.2] at h2
      simp [putEl, TV.av, byteAV, u64AV, strAV, h1, h2]
theorem STy.tv_plain (t : STy) (x : t.El) : (t.tv x).plain = true := by cases t <;> rfl

def STy.app : (t : STy) → List t.El → (t' : STy) → List t'.El → Option (List t.El)
  | .bs, l, .bs, m => some (l ++ m)
  | .is, l, .is, m => some (l ++ m)
  | .ws, l, .ws, m => some (l ++ m)
  | .ss, l, .ss, m => some (l ++ m)
  | .iss, l, .iss, m => some (l ++ m)
  | .fl, l, .fl, m => some (l ++ m)
  | .ml, l, .ml, m => some (l ++ m)
  | .il, l, .il, m => some (l ++ m)
  | .sp, l, .sp, m => some (l ++ m)
  | .ou, l, .ou, m => some (l ++ m)
  | _, _, _, _ => none
theorem STy.app_av {t t' : STy} {l n : List t.El} {m : List t'.El} (h : t.app l t' m = some n) : t' = t ∧ n.map t.av = l.map t.av ++ m.map t'.av ∧ n.length = l.length + m.length := by
  unfold STy.app at h
  split at h <;> cases h <;> simp
def STy.els (t : STy) : List TV → Option (List t.El)
  | [] => some []
  | x :: r => match t.el x with
    | some y => match t.els r with
      | some l => some (y :: l)
      | none => none
    | none => none
theorem STy.av_plain (t : STy) (x : t.El) : (t.av x).plain = true ∧ (t.av x).cells.length = t.size := by
  cases t with
  | fl => cases x; exact ⟨rfl, rfl⟩
  | ml => cases x; exact ⟨rfl, rfl⟩
  | il => cases x; exact ⟨rfl, rfl⟩
  | _ => exact ⟨rfl, rfl⟩
theorem STy.els_av {t : STy} : ∀ {xs : List TV} {l : List t.El}, t.els xs = some l → l.map t.av = xs.map TV.av ∧ ∀ x ∈ xs.map TV.av, x.plain = true ∧ x.cells.length = t.size
  | [], l, h => by cases h; exact ⟨rfl, by simp⟩
  | x :: r, l, h => by
    simp only [STy.els] at h
    split at h
    · rename_i y hy
      split at h
      · rename_i m hm
        cases h
        obtain ⟨h1, h2⟩ := STy.els_av hm
        refine ⟨by simp [STy.el_av hy, h1], ?_⟩
        intro z hz
        simp only [List.map_cons, List.mem_cons] at hz
        rcases hz with rfl | hz
        · rw [← STy.el_av hy]; exact t.av_plain y
        · exact h2 z hz
      · cases h
    · cases h

/-! ## An array's element -/
def allM {A : Type} (f : TV → Option A) : List TV → Option (List A)
  | [] => some []
  | x :: r => match f x with
    | some y => match allM f r with
      | some l => some (y :: l)
      | none => none
    | none => none
theorem allM_get {A : Type} {f : TV → Option A} {g : A → TV} (hf : ∀ x y, f x = some y → x = g y) : ∀ {xs : List TV} {l : List A}, allM f xs = some l → xs = l.map g
  | [], l, h => by cases h; rfl
  | x :: r, l, h => by
    simp only [allM] at h
    split at h
    · rename_i y hy
      split at h
      · rename_i m hm
        cases h
        rw [hf _ _ hy, allM_get hf hm]; rfl
      · cases h
    · cases h
def TV.str? : TV → Option Str | .s l => some l | _ => none
def TV.i64? : TV → Option Int | .i .i64 l => some l | _ => none
def TV.u8? : TV → Option UInt8 | .u8 l => some l | _ => none
def TV.u64? : TV → Option UInt64 | .u64 l => some l | _ => none
def TV.bool? : TV → Option Bool | .b l => some l | _ => none
def arrT (cs : List TV) (n : Nat) : Option TV :=
  match cs with
  | .s _ :: _ => match allM TV.str? cs with | some l => some (.s (l.getD n [])) | none => none
  | .i _ _ :: _ => match allM TV.i64? cs with | some l => some (.i .i64 (l.getD n 0)) | none => none
  | .u8 _ :: _ => match allM TV.u8? cs with | some l => some (.u8 (l.getD n 0)) | none => none
  | .u64 _ :: _ => match allM TV.u64? cs with | some l => some (.u64 (l.getD n 0)) | none => none
  | .b _ :: _ => match allM TV.bool? cs with | some l => some (.b (l.getD n false)) | none => none
  | _ => none
theorem arrT_ok {cs : List TV} {n : Nat} {x : TV} (h : arrT cs n = some x) (hn : n < cs.length) : cs[n]? = some x := by
  unfold arrT at h
  split at h
  · split at h
    · rename_i l hl
      have := allM_get (g := .s) (fun x y h => by cases x <;> simp [TV.str?] at h; rw [h]) hl
      cases h
      rw [this] at hn ⊢
      have hn' : n < l.length := by simpa using hn
      simp [List.getD_eq_getElem?_getD, List.getElem?_eq_getElem hn']
    · cases h
  · split at h
    · rename_i l hl
      have := allM_get (g := .i .i64) (fun x y h => by
        cases x <;> simp [TV.i64?] at h
        rename_i k m
        cases k <;> simp at h
        rw [h]) hl
      cases h
      rw [this] at hn ⊢
      have hn' : n < l.length := by simpa using hn
      simp [List.getD_eq_getElem?_getD, List.getElem?_eq_getElem hn']
    · cases h
  · split at h
    · rename_i l hl
      have := allM_get (g := .u8) (fun x y h => by cases x <;> simp [TV.u8?] at h; rw [h]) hl
      cases h
      rw [this] at hn ⊢
      have hn' : n < l.length := by simpa using hn
      simp [List.getD_eq_getElem?_getD, List.getElem?_eq_getElem hn']
    · cases h
  · split at h
    · rename_i l hl
      have := allM_get (g := .u64) (fun x y h => by cases x <;> simp [TV.u64?] at h; rw [h]) hl
      cases h
      rw [this] at hn ⊢
      have hn' : n < l.length := by simpa using hn
      simp [List.getD_eq_getElem?_getD, List.getElem?_eq_getElem hn']
    · cases h
  · split at h
    · rename_i l hl
      have := allM_get (g := .b) (fun x y h => by cases x <;> simp [TV.bool?] at h; rw [h]) hl
      cases h
      rw [this] at hn ⊢
      have hn' : n < l.length := by simpa using hn
      simp [List.getD_eq_getElem?_getD, List.getElem?_eq_getElem hn']
    · cases h
  · cases h

/-! ## Conditions -/
def lenOK (n : Nat) : Bool := decide (n ≤ maxLen)
def idxOK (n : Int) (l : Nat) : Bool := decide (0 ≤ n) && decide (n < l)
def cutOK (a b : Int) (l : Nat) : Bool := decide (0 ≤ a) && decide (a ≤ b) && decide (b ≤ l)
def apOK (n by_ : Nat) : Bool := decide (n ≤ maxLen) && decide (n * by_ ≤ 140737488355328)
def mkOK (l c : Int) (by_ : Nat) : Bool := decide (0 ≤ l) && decide (l ≤ c) && decide (c * by_ ≤ 140737488355328) && decide (c ≤ maxLen)

/-- A value without its guard. -/
def TV.bare : TV → TV
  | .gd _ x => x
  | x => x
def TV.cnd : TV → Option Bool
  | .gd q _ => some q
  | _ => none
theorem TV.bare_av {x : TV} (h : ∀ q, x.cnd = some q → q = true) : x.bare.av = x.av := by
  cases x <;> first | rfl | skip
  rename_i q x
  have := h q rfl
  subst this
  rfl
def pickV (t : Bool) (x y : TV) : Option TV :=
  match x, y with
  | .b a, .b b => some (.b (cond t a b))
  | .i k a, .i k' b => if k = k' then some (.i k (cond t a b)) else none
  | .u8 a, .u8 b => some (.u8 (cond t a b))
  | .u16 a, .u16 b => some (.u16 (cond t a b))
  | .u32 a, .u32 b => some (.u32 (cond t a b))
  | .u64 a, .u64 b => some (.u64 (cond t a b))
  | .s a, .s b => some (.s (cond t a b))
  | _, _ => none
theorem pickV_av {t : Bool} {x y z : TV} (h : pickV t x y = some z) : z.av = if t then x.av else y.av := by
  unfold pickV at h
  split at h <;> first | (cases h <;> cases t <;> rfl) | skip
  · split at h
    · rename_i e; subst e; cases h; cases t <;> rfl
    · cases h
def pickT (t : Bool) (x y : TV) : Res :=
  match pickV t x.bare y.bare with
  | some z => match x.cnd, y.cnd with
    | none, none => .ok [z]
    | some p, none => .if_ (!t || p) [z]
    | none, some q => .if_ (t || q) [z]
    | some p, some q => .if_ (cond t p q) [z]
  | none => .err
theorem pickT_ok (t : Bool) (x y : TV) : (pickT t x y).gives (fun z => z = if t then x.av else y.av) := by
  intro ws h
  unfold pickT at h
  split at h
  · rename_i z hz
    have hz := pickV_av hz
    cases x <;> cases y <;> simp only [TV.cnd, TV.bare] at h hz <;> first
      | (cases h; exact ⟨_, rfl, hz⟩)
      | (obtain ⟨hp, rfl⟩ := h
         refine ⟨_, rfl, hz.trans ?_⟩
         cases t <;> simp at hp <;> simp [TV.av, hp])
  · exact h.elim

def oneT (x : Option TV) : Res := match x with | some x => .ok [x] | none => .err
def needT (p : Bool) (r : Res) : Res := cond p r .err
theorem needT_holds {p : Bool} {r : Res} {ws : List TV} (h : (needT p r).holds ws) : p = true ∧ r.holds ws := by
  cases p with
  | true => exact ⟨rfl, h⟩
  | false => exact h.elim
theorem oneT_holds {x : Option TV} {ws : List TV} (h : (oneT x).holds ws) : ∃ y, x = some y ∧ ws = [y] := by
  cases x with
  | none => exact h.elim
  | some y => exact ⟨y, rfl, h⟩
end Go.Eng
