/- A call. -/
import Derived.Test.YtenbejbhjgkibaaEngJ
set_option linter.unusedVariables false
set_option linter.unusedSimpArgs false
namespace Go.Eng
open Go.RowKit

section
variable {X : Type}
theorem updL_append : ∀ {σ : Nat → X} {A B : List Nat} {xs ys : List X}, A.length = xs.length → updL σ (A ++ B) (xs ++ ys) = updL (updL σ B ys) A xs
  | σ, [], B, [], ys, _ => by cases B <;> cases ys <;> rfl
  | σ, a :: A, B, x :: xs, ys, h => by simp only [List.cons_append, updL]; rw [updL_append (by simpa using h)]
  | σ, [], B, _ :: _, ys, h => by simp at h
  | σ, _ :: _, B, [], ys, h => by simp at h
theorem updL_out : ∀ {σ : Nat → X} {A : List Nat} {xs : List X} {k : Nat}, k ∉ A → updL σ A xs k = σ k
  | σ, [], xs, k, _ => by cases xs <;> rfl
  | σ, a :: A, [], k, _ => rfl
  | σ, a :: A, x :: xs, k, h => by
    simp only [updL]
    rw [upd_ne _ _ (fun e => h (by simp [e])), updL_out (fun e => h (by simp [e]))]
theorem updL_upd : ∀ {σ : Nat → X} {A : List Nat} {xs : List X} {k : Nat} {x : X}, k ∉ A → updL (upd σ k x) A xs = upd (updL σ A xs) k x
  | σ, [], xs, k, x, _ => by cases xs <;> rfl
  | σ, a :: A, [], k, x, _ => rfl
  | σ, a :: A, y :: xs, k, x, h => by
    simp only [updL]
    rw [updL_upd (fun e => h (by simp [e])), upd_comm _ _ _ (fun e => h (by simp [e]))]
theorem updL_comm : ∀ {σ : Nat → X} {A B : List Nat} {xs ys : List X}, (∀ a ∈ A, a ∉ B) → updL (updL σ A xs) B ys = updL (updL σ B ys) A xs
  | σ, [], B, xs, ys, _ => by cases xs <;> rfl
  | σ, a :: A, B, [], ys, _ => rfl
  | σ, a :: A, B, x :: xs, ys, h => by
    simp only [updL]
    rw [updL_upd (h a (by simp)), updL_comm (fun c hc => h c (by simp [hc]))]
theorem upd_upd (σ : Nat → X) (k : Nat) (x y : X) : upd (upd σ k x) k y = upd σ k y := by
  funext j; simp only [upd]; split <;> rfl
end

section
variable {C : Ctx} {D : Dyn} {σ : Sg} {γ : Ga} {a : Act} {w : World}

theorem Sim.deads : ∀ (ks : List Nat) {σ : Sg}, Sim C D σ γ a w → (∀ k ∈ ks, (γ k).isCl = false) → Sim C D (updL σ ks (ks.map fun _ => .dead)) γ a w
  | [], _, h, _ => h
  | k :: ks, _, h, hk => (Sim.deads ks h (fun j hj => hk j (by simp [hj]))).dead (hk k (by simp))

theorem Sim.kills : ∀ (ts : List (Nat × Nat)) {γ : Ga}, Sim C D σ γ a w → (∀ t ∈ ts, γ t.1 = .live t.2) → (ts.map (·.1)).Nodup → Sim C D σ (updL γ (ts.map (·.1)) (ts.map fun _ => .used)) a w
  | [], _, h, _, _ => h
  | t :: ts, γ, h, hk, hn => by
    simp only [List.map_cons, List.nodup_cons] at hn
    have h1 := Sim.kills ts h (fun u hu => hk u (by simp [hu])) hn.2
    simp only [List.map_cons, updL]
    exact h1.kill (s := t.2) (by rw [updL_out hn.1]; exact hk t (by simp))

/-- Tips, one by one: a key, a size, a value. -/
theorem Sim.tips (ts : List (Nat × (Nat × Value))) : ∀ {D : Dyn} {γ : Ga}, Sim C D σ γ a w → (∀ t ∈ ts, γ (lk t.1) = .no) → (ts.map (·.1)).Nodup →
    (∀ t ∈ ts, TipOK D.R w t.2.2 t.2.1) → (∀ t ∈ ts, ∀ g, t.2.2.ownBlock = some g → C.mine g ∧ ∀ key, blk D γ key ≠ some g) → (∀ (i j : Nat) (t u : Nat × (Nat × Value)) (g : Nat), ts[i]? = some t → ts[j]? = some u → t.2.2.ownBlock = some g → u.2.2.ownBlock = some g → i = j) →
    ∃ D', Sim C D' σ (updL γ (ts.map fun t => lk t.1) (ts.map fun t => .live t.2.1)) a w ∧ D'.R = D.R ∧ D'.β = D.β ∧ (∀ t ∈ ts, D'.τ (lk t.1) = t.2.2) ∧ (∀ k, (∀ t ∈ ts, k ≠ lk t.1) → D'.τ k = D.τ k) ∧
      (∀ key g, blk D' (updL γ (ts.map fun t => lk t.1) (ts.map fun t => .live t.2.1)) key = some g → blk D γ key = some g ∨ ∃ t ∈ ts, t.2.2.ownBlock = some g) := by
  induction ts with
  | nil => exact fun {D γ} h _ _ _ _ _ => ⟨D, h, rfl, rfl, by simp, fun _ _ => rfl, fun _ _ hk => .inl hk⟩
  | cons t ts ih =>
    intro D γ h hno hn hT hown hsep
    simp only [List.map_cons, List.nodup_cons] at hn
    obtain ⟨D1, h1, hR, hβ, hτ, hτ', hb⟩ := ih h (fun u hu => hno u (by simp [hu])) hn.2 (fun u hu => hT u (by simp [hu])) (fun u hu => hown u (by simp [hu]))
      (fun i j u v g hi hj hu hv => by have := hsep (i + 1) (j + 1) u v g (by simpa using hi) (by simpa using hj) hu hv; omega)
    have hne : ∀ u ∈ ts, lk t.1 ≠ lk u.1 := fun u hu e => hn.1 (List.mem_map.2 ⟨u, hu, (lk_inj e).symm⟩)
    have hnot : lk t.1 ∉ ts.map fun t => lk t.1 := fun hm => by obtain ⟨u, hu, e⟩ := List.mem_map.1 hm; exact hne u hu e.symm
    have hno1 : updL γ (ts.map fun t => lk t.1) (ts.map fun t => .live t.2.1) (lk t.1) = .no := by rw [updL_out hnot]; exact hno t (by simp)
    have hfree : ∀ g, t.2.2.ownBlock = some g → C.mine g ∧ ∀ key, blk D1 (updL γ (ts.map fun t => lk t.1) (ts.map fun t => .live t.2.1)) key ≠ some g := fun g hg => by
      obtain ⟨m1, m2⟩ := hown t (by simp) g hg
      refine ⟨m1, fun key hk => ?_⟩
      rcases hb key g hk with hk | ⟨u, hu, hug⟩
      · exact m2 key hk
      · obtain ⟨j, hj⟩ := List.getElem?_of_mem hu
        have := hsep 0 (j + 1) t u g rfl (by simpa using hj) hg hug
        omega
    have h2 := h1.newTip hno1 (by rw [hR]; exact hT t (by simp)) hfree
    refine ⟨_, h2, hR, hβ, fun u hu => ?_, fun k hk => ?_, fun key g hk => ?_⟩
    · rcases List.mem_cons.1 hu with rfl | hu
      · exact upd_same _ _ _
      · show upd D1.τ (lk t.1) _ (lk u.1) = _
        rw [upd_ne _ _ (fun e => hne u hu e.symm)]; exact hτ u hu
    · show upd D1.τ (lk t.1) _ k = _
      rw [upd_ne _ _ (hk t (by simp))]; exact hτ' k (fun u hu => hk u (by simp [hu]))
    · by_cases e : key = lk t.1
      · subst e
        right
        simp only [List.map_cons, updL, blk, upd_same] at hk
        exact ⟨t, by simp, hk⟩
      · have : blk D1 (updL γ (ts.map fun t => lk t.1) (ts.map fun t => .live t.2.1)) key = some g := by
          simp only [List.map_cons, updL, blk] at hk
          rw [upd_ne _ _ e] at hk
          unfold blk
          revert hk
          cases hg : updL γ (ts.map fun t => lk t.1) (ts.map fun t => .live t.2.1) key with
          | live s' => simp [upd_ne _ _ e]
          | pv s' => simp [upd_ne _ _ e]
          | pc s' => simp [upd_ne _ _ e]
          | sus d s' => simp [upd_ne _ _ e]
          | _ => exact id
        rcases hb key g this with hk | ⟨u, hu, hug⟩
        · exact .inl hk
        · exact .inr ⟨u, by simp [hu], hug⟩

/-- THE WORLD TURNS AS A CALL TURNS IT, to which the variable m was handed. -/
theorem Sim.callWorld (h : Sim C D σ γ a w) {m : Nat} {w' : World} {R' : Reach} {io : Nat → Prop} {x : AV} {cs : List Value} {ts : List (Nat × (Nat × Nat))} (hm : γ m = .cl ts) (he : Ext w D.R io w' R')
    (hio : ∀ b, io b → b = D.β m ∨ (C.mine b ∧ ∀ key, blk D γ key ≠ some b)) (hv : VarAt R' w' x (D.β m) cs) (lt : ∀ b o, R' b o → b < w'.heap.size) :
    Sim C { D with R := R' } (upd σ m x) (upd γ m (.cl [])) a w' := by
  have hcl : ∀ j, (upd γ m (.cl []) j).isCl = (γ j).isCl := fun j => by
    by_cases e : j = m
    · subst e; rw [upd_same, hm]; rfl
    · rw [upd_ne _ _ e]
  have hlk : ∀ j, (upd γ m (.cl []) j).isLk = (γ j).isLk := fun j => by
    by_cases e : j = m
    · subst e; rw [upd_same, hm]; rfl
    · rw [upd_ne _ _ e]
  have hM : ∀ g, Ment γ g → Ment (upd γ m (.cl [])) g := fun g hg => by
    cases g <;> simp only [Ment, hcl, hlk] at hg ⊢ <;> first | exact hg | skip
    rename_i d s'
    have hd : d ≠ m := fun e => by subst e; rcases hg with e | ⟨s'', e⟩ <;> rw [hm] at e <;> cases e
    rw [upd_ne _ _ hd]; exact hg
  have hB : ∀ key, blk { D with R := R' } (upd γ m (.cl [])) key = blk D γ key := fun key => by
    unfold blk
    by_cases e : key = m
    · subst e; rw [upd_same, hm]
    · rw [upd_ne _ _ e]
  have hother : ∀ key g, key ≠ m → blk D γ key = some g → w'.heap[g]? = w.heap[g]? ∧ ∀ o, R' g o → D.R g o := fun key g hne hk => by
    have hnio : ¬ io g := fun hi => by
      rcases hio g hi with e | ⟨_, e⟩
      · exact hne (h.sepN (key := m) (by rw [hm]; rfl) (by rw [blk_cl hm, e]) hk).symm
      · exact e key hk
    refine ⟨he.heap g (h.lt hk) hnio, fun o hr => ?_⟩
    rcases he.rnew g o hr with r | r | r
    · exact r
    · have := h.lt hk; omega
    · exact (hnio r).elim
  refine ⟨h.size, h.defers, h.ntlt, fun j hj => h.rng j (by rwa [hcl] at hj), fun j hj => h.lrng j (by rwa [hlk] at hj), fun t ht => ?_, fun j vs hj => ?_, fun key s' hk' => ?_, h.ps.keep he.keep (fun key hp => ?_), fun p q g hp hq => (by rw [par_upd (by rw [hm]; rfl) rfl, par_upd (by rw [hm]; rfl) rfl]; exact h.sep p q g (by rwa [hB] at hp) (by rwa [hB] at hq)), fun p g hp => h.own p g (by rwa [hB] at hp), fun key => ?_, ?_, lt, fun n => (h.gl n).mono he.keep, h.fix⟩
  · have e : t ≠ m := by have := (h.rng m (by rw [hm]; rfl)).1; omega
    rw [upd_ne _ _ e, upd_ne _ _ e]
    exact (h.slot t ht).imp id fun ⟨r, g⟩ => ⟨r.mono he.keep, by cases hg : γ t <;> rw [hg] at g <;> exact g⟩
  · by_cases e : j = m
    · subst e; rw [upd_same] at hj; cases hj; rw [upd_same]; exact ⟨cs, hv, by simp⟩
    · rw [upd_ne _ _ e] at hj; rw [upd_ne _ _ e]
      obtain ⟨cs', hv', ht'⟩ := h.mem j vs hj
      obtain ⟨e1, e2⟩ := hother j _ e (blk_cl hj)
      exact ⟨cs', hv'.keep he.keep e1 (fun o hr => hv'.noR o (e2 o hr)), ht'⟩
  · have e : key ≠ m := fun e => by subst e; rw [upd_same] at hk'; cases hk'
    rw [upd_ne _ _ e] at hk'
    exact (h.tip key s' hk').keep fun g hg => hother key g e ((blk_live hk').trans hg)
  · have e : key ≠ m := fun e => by subst e; rw [upd_same] at hp; cases hp
    rw [upd_ne _ _ e] at hp ⊢
    rw [upd_ne _ _ e]
    exact ⟨rfl, rfl, rfl, fun g hg => hother key g e ((blk_isP hp).trans hg)⟩
  · by_cases e : key = m
    · subst e; rw [upd_same]; exact fun t ht => by cases ht
    · rw [upd_ne _ _ e]; exact hM _ (h.inv key)
  · refine h.ext.trans he fun b hb => ?_
    rcases hio b hb with e | ⟨e, _⟩
    · subst e; exact h.own m _ (blk_cl hm)
    · exact e

/-- The same, where no variable was handed over. -/
theorem Sim.callPure (h : Sim C D σ γ a w) {w' : World} {R' : Reach} (he : Ext w D.R (fun _ => False) w' R') (lt : ∀ b o, R' b o → b < w'.heap.size) : Sim C { D with R := R' } σ γ a w' :=
  h.grow he.os he.tape he.output he.size (fun b hb => he.heap b hb id) (fun b o hr => (he.keep b o hr).1) (fun b o hr => by
    rcases he.rnew b o hr with r | r | r
    · exact .inl r
    · exact .inr r
    · exact r.elim) lt
end
end Go.Eng
