/- Operations on private slices. -/
import Derived.Test.YtenbejbhjgkibaaEngQ
set_option linter.unusedVariables false
set_option linter.unusedSimpArgs false
namespace Go.Eng
open Go.RowKit

/-! ## Elements among the cells -/
theorem flat_get {s : Nat} : ∀ {es : List AV} {i : Nat} {e : AV}, (∀ x ∈ es, x.cells.length = s) → es[i]? = some e → ((es.flatMap AV.cells).drop (i * s)).take s = e.cells
  | x :: es, 0, e, h, he => by
    simp at he; subst he
    have := h x (by simp)
    simp [← this]
  | x :: es, i + 1, e, h, he => by
    have hx := h x (by simp)
    have ih := flat_get (es := es) (i := i) (e := e) (fun y hy => h y (by simp [hy])) (by simpa using he)
    simp only [List.flatMap_cons]
    rw [show (i + 1) * s = x.cells.length + i * s by rw [hx, Nat.succ_mul]; omega, ← List.drop_drop, List.drop_left]
    exact ih
  | [], _, _, _, he => by simp at he
theorem flatLen {s : Nat} : ∀ {es : List AV}, (∀ x ∈ es, x.cells.length = s) → (es.flatMap AV.cells).length = es.length * s
  | [], _ => by simp
  | x :: es, h => by
    have h1 := h x (by simp)
    have h2 := flatLen (es := es) (fun y hy => h y (List.mem_cons_of_mem _ hy))
    simp only [List.flatMap_cons, List.length_append, List.length_cons, Nat.succ_mul, h1, h2]
    omega
theorem flat_set {s o : Nat} : ∀ {es : List AV} {i : Nat} {e e' : AV} {xs : List AV}, (∀ x ∈ es, x.cells.length = s) → es[i]? = some e → e'.cells = splice e.cells o xs → o + xs.length ≤ s →
    (es.set i e').flatMap AV.cells = splice (es.flatMap AV.cells) (i * s + o) xs
  | x :: es, 0, e, e', xs, h, he, h', hl => by
    simp at he; subst he
    have hx := h x (by simp)
    simp only [List.set_cons_zero, List.flatMap_cons, h', splice, Nat.zero_mul, Nat.zero_add]
    rw [List.take_append_of_le_length (by omega), List.drop_append_of_le_length (by omega)]
    simp
  | x :: es, i + 1, e, e', xs, h, he, h', hl => by
    have hx := h x (by simp)
    have ih := flat_set (es := es) (i := i) (e := e) (fun y hy => h y (by simp [hy])) (by simpa using he) h' hl
    simp only [List.set_cons_succ, List.flatMap_cons, ih, splice]
    have e1 : (i + 1) * s + o = x.cells.length + (i * s + o) := by rw [hx, Nat.succ_mul]; omega
    rw [e1, show x.cells.length + (i * s + o) + xs.length = x.cells.length + (i * s + o + xs.length) by omega]
    simp [List.take_append, List.drop_append, List.take_of_length_le, List.drop_of_length_le]
  | [], _, _, _, _, _, he, _, _ => by simp at he
theorem partEl_cells {e x : AV} {o n : Nat} {agg : Bool} (h : partEl e o n agg = some x) : partAV e.cells o n agg = some x := by
  unfold partEl at h
  split at h
  · exact h
  · rename_i hne
    rw [Option.ite_none_right_eq_some] at h
    obtain ⟨⟨rfl, rfl, rfl⟩, h⟩ := h
    cases h
    have : e.cells = [e] := by cases e <;> first | rfl | exact (hne _ rfl).elim
    simp [partAV, this]
theorem putEl_cells {e e' x : AV} {o : Nat} (h : putEl e o x = some e') : e'.cells = splice e.cells o x.cells ∧ o + x.cells.length ≤ e.cells.length := by
  unfold putEl at h
  split at h
  · rw [Option.ite_none_right_eq_some] at h
    obtain ⟨h1, h⟩ := h
    cases h
    exact ⟨rfl, h1⟩
  · rename_i hne
    rw [Option.ite_none_right_eq_some] at h
    obtain ⟨⟨rfl, hx⟩, h⟩ := h
    obtain rfl := Option.some.inj h
    have h1 : e.cells = [e] := by cases e <;> first | rfl | exact (hne _ rfl).elim
    have h2 : x.cells = [x] := by cases x <;> first | rfl | cases hx
    rw [h1, h2]
    exact ⟨by simp [splice], by simp⟩

section
variable {C : Ctx} {D : Dyn} {σ : Sg} {γ : Ga} {a : Act} {w : World}

/-- A private slice that is no other one's, as it stands: nil, or a row of cells. -/
theorem Sim.pvAt (h : Sim C D σ γ a w) {key s : Nat} (hk : γ key = .pv s) : TipOK D.R w (D.τ key) s ∧ PrivOK D.R w (D.τ key) s (σ key) := h.ps key s (by rw [hk]; rfl)
/-- Of a private slice for which none waits nobody else has the block. -/
theorem Sim.pvSep (h : Sim C D σ γ a w) {key key' s g : Nat} (hk : γ key = .pv s) (h1 : blk D γ key = some g) (h2 : blk D γ key' = some g) : key' = key := by
  rcases h.sep key key' g h1 h2 with e | e | e
  · exact e.symm
  · rw [hk] at e; cases e
  · cases hg : γ key' <;> rw [hg] at e <;> first | (cases e; done) | skip
    cases e
    have := h.inv key'
    rw [hg] at this
    rcases this with e | ⟨s', e⟩ <;> rw [hk] at e <;> cases e

/-- THE WORLD TURNS in a private slice's block alone. -/
theorem Sim.turnP (h : Sim C D σ γ a w) {key s g : Nat} (hk : γ key = .pv s) (hg : (D.τ key).ownBlock = some g) {w' : World} (os : w'.os = w.os) (tape : w'.tape = w.tape) (out : w'.output = w.output) (size : w'.heap.size = w.heap.size)
    (hh : ∀ b, b ≠ g → w'.heap[b]? = w.heap[b]?) {x : AV} (ht : TipOK D.R w' (D.τ key) s) (hp : PrivOK D.R w' (D.τ key) s x) : Sim C D (upd σ key x) γ a w' := by
  have hbk : blk D γ key = some g := (blk_isP (by rw [hk]; rfl)).trans hg
  have hnR : ∀ o, ¬ D.R g o := (h.pvAt hk).2.1 g hg
  have keep : Keeps D.R w D.R w' := fun b o hr => ⟨hr, World.cell?_of_block (w := w) (hh b (fun e => hnR o (e ▸ hr)))⟩
  have hlk : 1000000 ≤ key := h.lrng key (by rw [hk]; rfl)
  have hne : ∀ key' g', key' ≠ key → blk D γ key' = some g' → g' ≠ g := fun key' g' hn hb e => hn (h.pvSep hk hbk (e ▸ hb))
  refine ⟨h.size, h.defers, h.ntlt, h.rng, h.lrng, fun t ht' => ?_, fun m ts hm => ?_, fun key' s' hk' => ?_, fun key' s' hs => ?_, h.sep, h.own, h.inv, ?_, fun b o hr => by rw [size]; exact h.rlt b o hr, fun n => (h.gl n).mono keep, h.fix⟩
  · have e : t ≠ key := by have := h.ntlt; omega
    rw [upd_ne _ _ e]
    exact (h.slot t ht').imp id fun ⟨r, g⟩ => ⟨r.mono keep, g⟩
  · have e : m ≠ key := fun e => by subst e; rw [hk] at hm; cases hm
    rw [upd_ne _ _ e]
    obtain ⟨cs, hv, hts⟩ := h.mem m ts hm
    exact ⟨cs, hv.keep keep (hh _ (hne m _ e (blk_cl hm))) hv.noR, hts⟩
  · have e : key' ≠ key := fun e => by subst e; rw [hk] at hk'; cases hk'
    exact (h.tip key' s' hk').keep fun g' hg' => ⟨hh g' (hne key' g' e ((blk_live hk').trans hg')), fun _ hr => hr⟩
  · by_cases e : key' = key
    · subst e
      rw [hk] at hs
      cases hs
      rw [upd_same]
      exact ⟨ht, hp⟩
    · rw [upd_ne _ _ e]
      obtain ⟨h1, h2⟩ := h.ps key' s' hs
      have hb := fun g' hg' => hne key' g' e ((blk_isP (Gh.psz_isP hs)).trans hg')
      exact ⟨h1.keep fun g' hg' => ⟨hh g' (hb g' hg'), fun _ hr => hr⟩, h2.keep keep fun g' hg' => ⟨hh g' (hb g' hg'), fun _ hr => hr⟩⟩
  · have hmine := h.own key g hbk
    refine ⟨os.trans h.ext.os, tape.trans h.ext.tape, out.trans h.ext.output, by rw [size]; exact h.ext.size, fun b hb hn => ?_, h.ext.keep.trans keep, h.ext.rnew⟩
    refine (hh b fun e => ?_).trans (h.ext.heap b hb hn)
    subst e
    rcases hmine with hm' | hm'
    · exact hn hm'
    · omega

/-- A NEW PRIVATE SLICE goes into a slot. -/
theorem Sim.putPriv (h : Sim C D σ γ a w) {d k s : Nat} {v : Value} {x : AV} (hd : d < C.nt) (hk : γ (lk k) = .no) (ht : TipOK D.R w v s) (hp : PrivOK D.R w v s x) (hg : ∀ g, v.ownBlock = some g → C.mine g ∧ ∀ key, blk D γ key ≠ some g) :
    Sim C { D with τ := upd D.τ (lk k) v } (updL σ [d, lk k] [.pt, x]) (updL γ [d, lk k] [.tip k s, .pv s]) (a.put (some d) v) w := by
  have h1 := h.newTip hk ht hg
  -- from a tip to a private slice
  have h2 : Sim C { D with τ := upd D.τ (lk k) v } (upd σ (lk k) x) (upd γ (lk k) (.pv s)) a w := by
    have hγ : ∀ j, j ≠ lk k → upd γ (lk k) (.pv s) j = upd γ (lk k) (.live s) j := fun j hj => by rw [upd_ne _ _ hj, upd_ne _ _ hj]
    have hb : ∀ key, blk { D with τ := upd D.τ (lk k) v } (upd γ (lk k) (.pv s)) key = blk { D with τ := upd D.τ (lk k) v } (upd γ (lk k) (.live s)) key := fun key => by
      unfold blk
      by_cases e : key = lk k
      · subst e; rw [upd_same, upd_same]
      · rw [hγ _ e]
    have hpar : ∀ key, (upd γ (lk k) (.pv s) key).par = (upd γ (lk k) (.live s) key).par := fun key => by
      by_cases e : key = lk k
      · subst e; rw [upd_same, upd_same]; rfl
      · rw [hγ _ e]
    have hcl : ∀ key, (upd γ (lk k) (.pv s) key).isCl = (upd γ (lk k) (.live s) key).isCl := fun key => by
      by_cases e : key = lk k
      · subst e; rw [upd_same, upd_same]; rfl
      · rw [hγ _ e]
    have hlk : ∀ key, (upd γ (lk k) (.pv s) key).isLk = (upd γ (lk k) (.live s) key).isLk := fun key => by
      by_cases e : key = lk k
      · subst e; rw [upd_same, upd_same]; rfl
      · rw [hγ _ e]
    have hM : ∀ g, Ment (upd γ (lk k) (.live s)) g → Ment (upd γ (lk k) (.pv s)) g := fun g hg => by
      cases g <;> simp only [Ment, hcl, hlk] at hg ⊢ <;> first | exact hg | skip
      rename_i q s'
      have e : q ≠ lk k := fun e => by subst e; rw [upd_same] at hg; rcases hg with e | ⟨_, e⟩ <;> cases e
      rw [hγ _ e]; exact hg
    have hlt : lk k < C.nt → False := fun hl => by have := lk_ge k; have := h.ntlt; omega
    refine ⟨h1.size, h1.defers, h1.ntlt, fun m hm => h1.rng m (by rwa [hcl] at hm), fun m hm => h1.lrng m (by rwa [hlk] at hm), fun t ht' => ?_, fun m ts hm => ?_, fun key s' hk' => ?_, fun key s' hs => ?_, fun p q g hp' hq => (by rw [hpar, hpar]; exact h1.sep p q g (by rwa [hb] at hp') (by rwa [hb] at hq)), fun p g hp' => h1.own p g (by rwa [hb] at hp'), fun key => ?_, h1.ext, h1.rlt, h1.gl, h1.fix⟩
    · have e : t ≠ lk k := fun e => hlt (e ▸ ht')
      rw [upd_ne _ _ e, hγ _ e]; exact h1.slot t ht'
    · have e : m ≠ lk k := fun e => by subst e; rw [upd_same] at hm; cases hm
      rw [hγ _ e] at hm
      rw [upd_ne _ _ e]; exact h1.mem m ts hm
    · have e : key ≠ lk k := fun e => by subst e; rw [upd_same] at hk'; cases hk'
      rw [hγ _ e] at hk'; exact h1.tip key s' hk'
    · by_cases e : key = lk k
      · subst e
        rw [upd_same] at hs
        cases hs
        simp only [upd_same]
        exact ⟨ht, hp⟩
      · rw [hγ _ e] at hs
        rw [upd_ne _ _ e]; exact h1.ps key s' hs
    · by_cases e : key = lk k
      · subst e; rw [upd_same]; trivial
      · rw [hγ _ e]; exact hM _ (h1.inv key)
  refine h2.put (g := .tip k s) hd (.inr ⟨.pt _, ?_⟩) rfl rfl ?_
  · intro _; show v = upd D.τ (lk k) v (lk k) ∧ v.oneCell' = true
    rw [upd_same]
    exact ⟨rfl, by rcases ht with rfl | ⟨_, _, _, _, _, _, rfl, _⟩ <;> rfl⟩
  · show (upd γ (lk k) (.pv s) (lk k)).isLk = true
    rw [upd_same]; rfl
end
end Go.Eng
