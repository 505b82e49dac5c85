/- Abstract values: what a Go value reads as, slices being lists. 'Rep R w x y': in the world w the concrete value y reads as x, all cells that this takes lying in R. -/
import Derived.Calls
import Derived.Below
import Derived.Laws.OwnMore
set_option linter.unusedVariables false
set_option linter.unusedSimpArgs false
namespace Go.Eng
open Go.RowKit

inductive AV where
  | v (x : Value)
  | ag (cs : List AV)
  | tu (vs : List AV)
  | sl (s : Nat) (es : List AV)
  | ro (x : AV)
  | pt
  | dead
  | el (i s o : Nat)
  | ab
  deriving Inhabited

/-- The cells of a variable that holds x. -/
def AV.cells : AV → List AV
  | .ag cs => cs
  | x => [x]

def AV.isAg : AV → Bool
  | .ag _ => true
  | _ => false

abbrev Reach := Nat → Nat → Prop

mutual
inductive Rep (R : Reach) (w : World) : AV → Value → Prop
  | v (x : Value) : Rep R w (.v x) x
  | ag {cs : List AV} {ys : List Value} : RepL R w cs ys → Rep R w (.ag cs) (.agg ⟨ys⟩)
  | tu {vs : List AV} {ys : List Value} : RepT R w vs ys → Rep R w (.tu vs) (.tuple ⟨ys⟩)
  | nil (s : Nat) : Rep R w (.sl s []) (.slice none 0 0)
  | sl {s : Nat} {es : List AV} {b off n cap : Nat} : n = es.length → n ≤ cap → cap ≤ maxLen → RepE R w s es b off → Rep R w (.sl s es) (.slice (some ⟨b, off, none⟩) n cap)
  | em {a : Addr} {cap : Nat} (s : Nat) : cap ≤ maxLen → Rep R w (.sl s []) (.slice (some a) 0 cap)
  | ro {x : AV} {b off s : Nat} : RepAt R w s x b off → Rep R w (.ro x) (.pointer (some ⟨b, off, none⟩))
  | pt (y : Value) : Rep R w .pt y
  | dead (y : Value) : Rep R w .dead y
  | el (i s o b : Nat) : Rep R w (.el i s o) (.pointer (some ⟨b, i * s + o, none⟩))
  | ab (x : Bool) : Rep R w .ab (.bool x)
inductive RepL (R : Reach) (w : World) : List AV → List Value → Prop
  | nil : RepL R w [] []
  | cons {x : AV} {y : Value} {xs : List AV} {ys : List Value} : y.oneCell' = true → Rep R w x y → RepL R w xs ys → RepL R w (x :: xs) (y :: ys)
inductive RepT (R : Reach) (w : World) : List AV → List Value → Prop
  | nil : RepT R w [] []
  | cons {x : AV} {y : Value} {xs : List AV} {ys : List Value} : Rep R w x y → RepT R w xs ys → RepT R w (x :: xs) (y :: ys)
inductive RepC (R : Reach) (w : World) : List AV → Nat → Nat → Prop
  | nil (b off : Nat) : RepC R w [] b off
  | cons {x : AV} {y : Value} {xs : List AV} {b off : Nat} : R b off → w.cell? ⟨b, off, none⟩ = some y → y.oneCell' = true → Rep R w x y → RepC R w xs b (off + 1) → RepC R w (x :: xs) b off
inductive RepAt (R : Reach) (w : World) : Nat → AV → Nat → Nat → Prop
  | ag {cs : List AV} {b off s : Nat} : s = cs.length → RepC R w cs b off → RepAt R w s (.ag cs) b off
  | one {x : AV} {y : Value} {b off : Nat} : x.isAg = false → R b off → w.cell? ⟨b, off, none⟩ = some y → y.oneCell' = true → Rep R w x y → RepAt R w 1 x b off
inductive RepE (R : Reach) (w : World) : Nat → List AV → Nat → Nat → Prop
  | nil (s b off : Nat) : RepE R w s [] b off
  | cons {s : Nat} {x : AV} {xs : List AV} {b off : Nat} : RepAt R w s x b off → RepE R w s xs b (off + s) → RepE R w s (x :: xs) b off
end

/-- What holds goes on holding where more may be read, and nothing that might be read has turned. -/
def Keeps (R : Reach) (w : World) (R' : Reach) (w' : World) : Prop := ∀ b o, R b o → R' b o ∧ w'.cell? ⟨b, o, none⟩ = w.cell? ⟨b, o, none⟩

theorem Keeps.refl (R : Reach) (w : World) : Keeps R w R w := fun _ _ h => ⟨h, rfl⟩
theorem Keeps.trans {R R' R'' : Reach} {w w' w'' : World} (h : Keeps R w R' w') (k : Keeps R' w' R'' w'') : Keeps R w R'' w'' :=
  fun b o hr => ⟨(k b o (h b o hr).1).1, (k b o (h b o hr).1).2.trans (h b o hr).2⟩

section
variable {R R' : Reach} {w w' : World}
mutual
theorem Rep.mono (k : Keeps R w R' w') : ∀ {x : AV} {y : Value}, Rep R w x y → Rep R' w' x y
  | _, _, .v x => .v x
  | _, _, .ag h => .ag (RepL.mono k h)
  | _, _, .tu h => .tu (RepT.mono k h)
  | _, _, .nil s => .nil s
  | _, _, .sl a b c h => .sl a b c (RepE.mono k h)
  | _, _, .em s h => .em s h
  | _, _, .ro h => .ro (RepAt.mono k h)
  | _, _, .pt y => .pt y
  | _, _, .dead y => .dead y
  | _, _, .el i s o b => .el i s o b
  | _, _, .ab x => .ab x
theorem RepL.mono (k : Keeps R w R' w') : ∀ {x : List AV} {y : List Value}, RepL R w x y → RepL R' w' x y
  | _, _, .nil => .nil
  | _, _, .cons a h t => .cons a (Rep.mono k h) (RepL.mono k t)
theorem RepT.mono (k : Keeps R w R' w') : ∀ {x : List AV} {y : List Value}, RepT R w x y → RepT R' w' x y
  | _, _, .nil => .nil
  | _, _, .cons h t => .cons (Rep.mono k h) (RepT.mono k t)
theorem RepC.mono (k : Keeps R w R' w') : ∀ {x : List AV} {b o : Nat}, RepC R w x b o → RepC R' w' x b o
  | _, _, _, .nil b o => .nil b o
  | _, _, _, .cons r c a h t => .cons (k _ _ r).1 ((k _ _ r).2.trans c) a (Rep.mono k h) (RepC.mono k t)
theorem RepAt.mono (k : Keeps R w R' w') : ∀ {s : Nat} {x : AV} {b o : Nat}, RepAt R w s x b o → RepAt R' w' s x b o
  | _, _, _, _, .ag e h => .ag e (RepC.mono k h)
  | _, _, _, _, .one n r c a h => .one n (k _ _ r).1 ((k _ _ r).2.trans c) a (Rep.mono k h)
theorem RepE.mono (k : Keeps R w R' w') : ∀ {s : Nat} {x : List AV} {b o : Nat}, RepE R w s x b o → RepE R' w' s x b o
  | _, _, _, _, .nil s b o => .nil s b o
  | _, _, _, _, .cons h t => .cons (RepAt.mono k h) (RepE.mono k t)
end
end

section
variable {R : Reach} {w : World}
theorem RepL.length : ∀ {xs : List AV} {ys : List Value}, RepL R w xs ys → xs.length = ys.length
  | _, _, .nil => rfl
  | _, _, .cons _ _ t => by simp [RepL.length t]
theorem RepT.length : ∀ {xs : List AV} {ys : List Value}, RepT R w xs ys → xs.length = ys.length
  | _, _, .nil => rfl
  | _, _, .cons _ t => by simp [RepT.length t]
theorem RepL.get : ∀ {xs : List AV} {ys : List Value} (_ : RepL R w xs ys) (i : Nat) (x : AV), xs[i]? = some x → ∃ y, ys[i]? = some y ∧ y.oneCell' = true ∧ Rep R w x y
  | _, _, .cons a h _, 0, x, e => by simp at e; subst e; exact ⟨_, rfl, a, h⟩
  | _, _, .cons _ _ t, i + 1, x, e => by simpa using RepL.get t i x (by simpa using e)
theorem RepT.get : ∀ {xs : List AV} {ys : List Value} (_ : RepT R w xs ys) (i : Nat) (x : AV), xs[i]? = some x → ∃ y, ys[i]? = some y ∧ Rep R w x y
  | _, _, .cons h _, 0, x, e => by simp at e; subst e; exact ⟨_, rfl, h⟩
  | _, _, .cons _ t, i + 1, x, e => by simpa using RepT.get t i x (by simpa using e)
theorem RepL.one : ∀ {xs : List AV} {ys : List Value}, RepL R w xs ys → ∀ y ∈ ys, y.oneCell' = true
  | _, _, .cons a _ t, y, hy => by
    rcases List.mem_cons.1 hy with rfl | h
    · exact a
    · exact RepL.one t y h
theorem RepL.append : ∀ {xs : List AV} {ys : List Value} {xs' : List AV} {ys' : List Value}, RepL R w xs ys → RepL R w xs' ys' → RepL R w (xs ++ xs') (ys ++ ys')
  | _, _, _, _, .nil, h => h
  | _, _, _, _, .cons a h t, k => .cons a h (RepL.append t k)
theorem RepL.take : ∀ {xs : List AV} {ys : List Value} (n : Nat), RepL R w xs ys → RepL R w (xs.take n) (ys.take n)
  | _, _, 0, _ => by simp; exact .nil
  | _, _, n + 1, .nil => by simp; exact .nil
  | _, _, n + 1, .cons a h t => by simp; exact .cons a h (RepL.take n t)
theorem RepL.drop : ∀ {xs : List AV} {ys : List Value} (n : Nat), RepL R w xs ys → RepL R w (xs.drop n) (ys.drop n)
  | _, _, 0, h => by simpa using h
  | _, _, n + 1, .nil => by simp; exact .nil
  | _, _, n + 1, .cons a h t => by simp; exact RepL.drop n t

/-- A row of cells that is read: the values there. -/
theorem RepC.read : ∀ {xs : List AV} {b o : Nat}, RepC R w xs b o → ∃ ys, RepL R w xs ys ∧ ∀ j y, ys[j]? = some y → w.cell? ⟨b, o + j, none⟩ = some y
  | _, _, _, .nil _ _ => ⟨[], .nil, by simp⟩
  | _, b, o, .cons (y := y) r c a h t => by
    obtain ⟨ys, hl, hc⟩ := RepC.read t
    refine ⟨y :: ys, .cons a h hl, fun j z hz => ?_⟩
    cases j with
    | zero => simp at hz; subst hz; exact c
    | succ j => have := hc j z (by simpa using hz); rw [show o + (j + 1) = o + 1 + j by omega]; exact this
theorem RepC.write : ∀ {xs : List AV} {ys : List Value} {b o : Nat}, RepL R w xs ys → (∀ j, j < ys.length → R b (o + j)) → (∀ j y, ys[j]? = some y → w.cell? ⟨b, o + j, none⟩ = some y) → RepC R w xs b o
  | _, _, b, o, .nil, _, _ => .nil b o
  | _, _, b, o, .cons a h t, hr, hc => .cons (hr 0 (by simp)) (hc 0 _ rfl) a h
      (RepC.write t (fun j hj => by have := hr (j + 1) (by simp; omega); rwa [show o + (j + 1) = o + 1 + j by omega] at this)
        (fun j y hy => by have := hc (j + 1) y (by simpa using hy); rwa [show o + (j + 1) = o + 1 + j by omega] at this))
theorem RepC.drop : ∀ {xs : List AV} {b o : Nat} (n : Nat), RepC R w xs b o → RepC R w (xs.drop n) b (o + n)
  | _, b, o, 0, h => by simpa using h
  | _, b, o, n + 1, .nil _ _ => by simp; exact .nil _ _
  | _, b, o, n + 1, .cons r c a h t => by simp; have := RepC.drop n t; rwa [show o + 1 + n = o + (n + 1) by omega] at this
theorem RepC.take : ∀ {xs : List AV} {b o : Nat} (n : Nat), RepC R w xs b o → RepC R w (xs.take n) b o
  | _, b, o, 0, h => by simp; exact .nil _ _
  | _, b, o, n + 1, .nil _ _ => by simp; exact .nil _ _
  | _, b, o, n + 1, .cons r c a h t => by simp; exact .cons r c a h (RepC.take n t)
theorem RepC.lt : ∀ {xs : List AV} {b o : Nat}, RepC R w xs b o → ∀ j, j < xs.length → R b (o + j)
  | _, b, o, .cons r _ _ _ t, 0, _ => r
  | _, b, o, .cons _ _ _ _ t, j + 1, hj => by have := RepC.lt t j (by simpa using hj); rwa [show o + 1 + j = o + (j + 1) by omega] at this

theorem RepE.get : ∀ {s : Nat} {es : List AV} {b o : Nat} (_ : RepE R w s es b o) (i : Nat) (x : AV), es[i]? = some x → RepAt R w s x b (o + i * s)
  | s, _, b, o, .cons h _, 0, x, e => by simp at e; subst e; simpa using h
  | s, _, b, o, .cons _ t, i + 1, x, e => by
    have := RepE.get t i x (by simpa using e)
    rwa [show o + s + i * s = o + (i + 1) * s by rw [Nat.succ_mul]; omega] at this
theorem RepE.drop : ∀ {s : Nat} {es : List AV} {b o : Nat} (n : Nat), RepE R w s es b o → RepE R w s (es.drop n) b (o + n * s)
  | s, _, b, o, 0, h => by simpa using h
  | s, _, b, o, n + 1, .nil _ _ _ => by simp; exact .nil _ _ _
  | s, _, b, o, n + 1, .cons h t => by simp; have := RepE.drop n t; rwa [show o + s + n * s = o + (n + 1) * s by rw [Nat.succ_mul]; omega] at this
theorem RepE.take : ∀ {s : Nat} {es : List AV} {b o : Nat} (n : Nat), RepE R w s es b o → RepE R w s (es.take n) b o
  | s, _, b, o, 0, h => by simp; exact .nil _ _ _
  | s, _, b, o, n + 1, .nil _ _ _ => by simp; exact .nil _ _ _
  | s, _, b, o, n + 1, .cons h t => by simp; exact .cons h (RepE.take n t)
theorem RepE.append : ∀ {s : Nat} {es fs : List AV} {b o : Nat}, RepE R w s es b o → RepE R w s fs b (o + es.length * s) → RepE R w s (es ++ fs) b o
  | s, [], fs, b, o, _, h => by simpa using h
  | s, e :: es, fs, b, o, .cons h t, k => .cons h (RepE.append t (by rwa [show o + s + es.length * s = o + (e :: es).length * s by rw [List.length_cons, Nat.succ_mul]; omega]))

/-- A variable that is read: the value that it holds has these cells. -/
theorem RepAt.read {s : Nat} {x : AV} {b o : Nat} (h : RepAt R w s x b o) : ∃ ys : List Value, ys.length = s ∧ (∀ j y, ys[j]? = some y → w.cell? ⟨b, o + j, none⟩ = some y) ∧ RepL R w x.cells ys := by
  cases h with
  | ag e h => obtain ⟨ys, hl, hc⟩ := h.read; exact ⟨ys, by rw [e, hl.length], hc, hl⟩
  | one n r c a h =>
    rename_i y
    refine ⟨[y], rfl, ?_, ?_⟩
    · intro j z hz
      cases j with
      | zero => simp at hz; subst hz; exact c
      | succ j => simp at hz
    · cases x <;> simp [AV.cells, AV.isAg] at n ⊢ <;> exact .cons a h .nil
theorem RepAt.reach {s : Nat} {x : AV} {b o : Nat} (h : RepAt R w s x b o) : ∀ j, j < s → R b (o + j) := by
  intro j hj
  cases h with
  | ag e h => exact h.lt j (by omega)
  | one n r c a h => obtain rfl : j = 0 := by omega
                     exact r
theorem RepAt.write {s : Nat} {x : AV} {ys : List Value} {b o : Nat} (hs : x.cells.length = s) (h : RepL R w x.cells ys) (hr : ∀ j, j < s → R b (o + j)) (hc : ∀ j y, ys[j]? = some y → w.cell? ⟨b, o + j, none⟩ = some y) : RepAt R w s x b o := by
  have hl := h.length
  cases x with
  | ag cs => exact .ag hs.symm (RepC.write h (fun j hj => hr j (by omega)) hc)
  | _ =>
    simp only [AV.cells, List.length_singleton] at hs h hl
    subst hs
    cases h with
    | cons a h t => exact .one rfl (hr 0 (by omega)) (hc 0 _ rfl) a h

theorem RepE.cells : ∀ {s : Nat} {es : List AV} {b o : Nat}, RepE R w s es b o → ∃ ys : List Value, ys.length = es.length * s ∧ (∀ j y, ys[j]? = some y → w.cell? ⟨b, o + j, none⟩ = some y) ∧ RepL R w (es.flatMap AV.cells) ys ∧ ∀ e ∈ es, e.cells.length = s
  | s, _, b, o, .nil _ _ _ => ⟨[], by simp, by simp, .nil, by simp⟩
  | s, _, b, o, .cons (x := x) (xs := xs) h t => by
    obtain ⟨ys, hl, hc, hr⟩ := h.read
    obtain ⟨zs, kl, kc, kr, ke⟩ := RepE.cells t
    have hx : x.cells.length = s := by rw [hr.length, hl]
    refine ⟨ys ++ zs, by simp [hl, kl, Nat.succ_mul]; omega, ?_, ?_, ?_⟩
    · intro j y hy
      by_cases hj : j < ys.length
      · exact hc j y (by rwa [List.getElem?_append_left hj] at hy)
      · rw [List.getElem?_append_right (by omega)] at hy
        have := kc _ y hy
        rwa [show o + s + (j - ys.length) = o + j by omega] at this
    · simpa using hr.append kr
    · intro e he
      rcases List.mem_cons.1 he with rfl | h'
      · exact hx
      · exact ke e h'
theorem RepE.write : ∀ {s : Nat} {es : List AV} {ys : List Value} {b o : Nat}, (∀ e ∈ es, e.cells.length = s) → RepL R w (es.flatMap AV.cells) ys → (∀ j, j < es.length * s → R b (o + j)) →
    (∀ j y, ys[j]? = some y → w.cell? ⟨b, o + j, none⟩ = some y) → RepE R w s es b o
  | s, [], ys, b, o, _, _, _, _ => .nil _ _ _
  | s, e :: es, ys, b, o, he, h, hr, hc => by
    have hs := he e (by simp)
    have hl := h.length
    simp only [List.flatMap_cons, List.length_append] at hl
    have h1 : RepL R w e.cells (ys.take s) := by simpa [hs] using h.take s
    have h2 : RepL R w (es.flatMap AV.cells) (ys.drop s) := by have := h.drop s; simpa [List.drop_append, hs, List.drop_of_length_le] using this
    refine .cons (.write hs h1 (fun j hj => hr j (by simp [Nat.succ_mul]; omega)) (fun j y hy => hc j y ?_))
      (RepE.write (fun e' h' => he e' (by simp [h'])) h2 (fun j hj => ?_) (fun j y hy => ?_))
    · rw [List.getElem?_take] at hy; split at hy
      · exact hy
      · cases hy
    · have := hr (s + j) (by simp [Nat.succ_mul]; omega); rwa [← Nat.add_assoc] at this
    · have := hc (s + j) y (by simpa using hy); rwa [← Nat.add_assoc] at this
theorem RepE.reach : ∀ {s : Nat} {es : List AV} {b o : Nat}, RepE R w s es b o → ∀ j, j < es.length * s → R b (o + j)
  | s, _, b, o, .nil _ _ _, j, hj => by simp at hj
  | s, _, b, o, .cons (xs := xs) h t, j, hj => by
    by_cases hs : j < s
    · exact h.reach j hs
    · have := RepE.reach t (j - s) (by simp [Nat.succ_mul] at hj; omega)
      rwa [show o + s + (j - s) = o + j by omega] at this
end
end Go.Eng
