/- How an abstract state goes on standing to the machine's when the machine's world or a slot turns. -/
import Derived.Test.YtenbejbhjgkibaaEngC
set_option linter.unusedVariables false
set_option linter.unusedSimpArgs false
namespace Go.Eng
open Go.RowKit

theorem upd_same {X : Type} (σ : Nat → X) (t : Nat) (x : X) : upd σ t x t = x := by simp [upd]
theorem upd_ne {X : Type} (σ : Nat → X) {t k : Nat} (x : X) (h : k ≠ t) : upd σ t x k = σ k := by simp [upd, h]

theorem VarAt.lt {R : Reach} {w : World} {x : AV} {b : Nat} {cs : List Value} (h : VarAt R w x b cs) : b < w.heap.size := by
  obtain ⟨_, h, _⟩ := h
  exact (Array.getElem?_eq_some_iff.1 h).1
theorem VarAt.noR {R : Reach} {w : World} {x : AV} {b : Nat} {cs : List Value} (h : VarAt R w x b cs) : ∀ o, ¬ R b o := h.elim fun _ h => h.2.2
theorem VarAt.ag {R : Reach} {w : World} {acs : List AV} {b : Nat} {cs : List Value} (h : VarAt R w (.ag acs) b cs) : ∃ elem, w.heap[b]? = some (.cells ⟨cs⟩ elem (0, 0)) ∧ RepL R w acs (cs.take acs.length) := by
  obtain ⟨elem, h1, h2 | ⟨acs', h2, h3⟩, _⟩ := h
  · cases h2
  · cases h2; exact ⟨elem, h1, h3⟩
theorem TipOK.lt {R : Reach} {w : World} {x : Value} {s g : Nat} (h : TipOK R w x s) (hg : x.ownBlock = some g) : g < w.heap.size := by
  rcases h with rfl | ⟨g', n, cap, cur, e, fz, rfl, h, _⟩
  · simp [Value.ownBlock] at hg
  · simp [Value.ownBlock] at hg; subst hg; exact (Array.getElem?_eq_some_iff.1 h).1

/-- A variable stays where its block is as it was and no more of it is read. -/
theorem VarAt.keep {R R' : Reach} {w w' : World} {x : AV} {b : Nat} {cs : List Value} (h : VarAt R w x b cs) (k : Keeps R w R' w') (hh : w'.heap[b]? = w.heap[b]?) (hr : ∀ o, ¬ R' b o) : VarAt R' w' x b cs := by
  obtain ⟨e, h1, h2, _⟩ := h
  exact ⟨e, hh.trans h1, h2.imp id (fun ⟨acs, h2, h3⟩ => ⟨acs, h2, h3.mono k⟩), hr⟩
theorem TipOK.keep {R R' : Reach} {w w' : World} {x : Value} {s : Nat} (h : TipOK R w x s) (hh : ∀ g, x.ownBlock = some g → w'.heap[g]? = w.heap[g]? ∧ ∀ o, R' g o → R g o) : TipOK R' w' x s := by
  rcases h with rfl | ⟨g, n, cap, cur, e, fz, rfl, h1, h2, h3, h4, h5, h6⟩
  · exact .inl rfl
  · obtain ⟨e1, e2⟩ := hh g rfl
    exact .inr ⟨g, n, cap, cur, e, fz, rfl, e1.trans h1, h2, h3, h4, h5, fun o ho hr => h6 o ho (e2 o hr)⟩

theorem GhOK.congr {D D' : Dyn} {γ : Ga} {g : Gh} {x : Value} (hm : Ment γ g) (hβ : ∀ m, (γ m).isCl = true → D'.β m = D.β m) (hτ : ∀ k, (γ (lk k)).isLk = true → D'.τ (lk k) = D.τ (lk k)) (h : GhOK D g x) : GhOK D' g x := by
  cases g with
  | ptr m o => simp only [GhOK, Ment] at *; rw [hβ m hm]; exact h
  | tip k s => simp only [GhOK, Ment] at *; rw [hτ k hm]; exact h
  | pe k => simp only [GhOK, Ment] at *; rw [hτ k hm]; exact h
  | tup ts p =>
    simp only [GhOK, Ment] at *
    obtain ⟨ys, h1, h2, h3⟩ := h
    exact ⟨ys, h1, fun t ht => by rw [hτ _ (hm.1 t ht)]; exact h2 t ht, fun q hq => by rw [hβ _ (hm.2 q hq)]; exact h3 q hq⟩
  | _ => trivial

theorem PrivOK.keep {R R' : Reach} {w w' : World} {v : Value} {s : Nat} {x : AV} (h : PrivOK R w v s x) (k : Keeps R w R' w') (hh : ∀ g, v.ownBlock = some g → w'.heap[g]? = w.heap[g]? ∧ ∀ o, R' g o → R g o) : PrivOK R' w' v s x := by
  refine ⟨fun g hg o hr => h.1 g hg o ((hh g hg).2 o hr), h.2.imp id ?_⟩
  rintro ⟨es, e1, e2, e3⟩
  refine ⟨es, e1, e2, e3.imp id ?_⟩
  rintro ⟨g, cap, cur, e, fz, rfl, f1, f2⟩
  exact ⟨g, cap, cur, e, fz, rfl, (hh g rfl).1.trans f1, f2.mono k⟩
theorem PSOK.keep {D D' : Dyn} {σ σ' : Sg} {γ γ' : Ga} {w w' : World} (h : PSOK D σ γ w) (k : Keeps D.R w D'.R w')
    (hp : ∀ key, (γ' key).isP = true → (γ key).psz = (γ' key).psz ∧ σ' key = σ key ∧ D'.τ key = D.τ key ∧ ∀ g, (D.τ key).ownBlock = some g → w'.heap[g]? = w.heap[g]? ∧ ∀ o, D'.R g o → D.R g o) : PSOK D' σ' γ' w' := by
  intro key s hk
  obtain ⟨e1, e2, e3, e4⟩ := hp key (by cases e : γ' key <;> rw [e] at hk <;> simp [Gh.psz] at hk <;> rfl)
  have := h key s (e1.trans hk)
  rw [e2, e3]
  exact ⟨this.1.keep e4, this.2.keep k e4⟩
theorem PSOK.same {D D' : Dyn} {σ σ' : Sg} {γ γ' : Ga} {w : World} (h : PSOK D σ γ w) (hR : D'.R = D.R) (hp : ∀ key, (γ' key).isP = true → (γ key).psz = (γ' key).psz ∧ σ' key = σ key ∧ D'.τ key = D.τ key) : PSOK D' σ' γ' w :=
  h.keep (hR ▸ Keeps.refl _ _) fun key hk => ⟨(hp key hk).1, (hp key hk).2.1, (hp key hk).2.2, fun _ _ => ⟨rfl, fun o hr => hR ▸ hr⟩⟩
theorem Gh.psz_isP {g : Gh} {s : Nat} (h : g.psz = some s) : g.isP = true := by cases g <;> simp [Gh.psz] at h <;> rfl
theorem Gh.isP_lk {g : Gh} (h : g.isP = true) : g.isLk = true ∧ g.isCl = false := by cases g <;> simp [Gh.isP] at h <;> exact ⟨rfl, rfl⟩

theorem Ext.refl (w : World) (R : Reach) (io : Nat → Prop) : Ext w R io w R := ⟨rfl, rfl, rfl, Nat.le_refl _, fun _ _ _ => rfl, Keeps.refl _ _, fun _ _ h => .inl h⟩
theorem Ext.trans {w0 w1 w2 : World} {R0 R1 R2 : Reach} {io io' : Nat → Prop} (h : Ext w0 R0 io w1 R1) (k : Ext w1 R1 io' w2 R2) (hi : ∀ b, io' b → io b ∨ w0.heap.size ≤ b) : Ext w0 R0 io w2 R2 where
  os := k.os.trans h.os
  tape := k.tape.trans h.tape
  output := k.output.trans h.output
  size := Nat.le_trans h.size k.size
  heap b hb hn := (k.heap b (Nat.lt_of_lt_of_le hb h.size) (fun c => by rcases hi b c with c | c <;> first | exact hn c | omega)).trans (h.heap b hb hn)
  keep := h.keep.trans k.keep
  rnew b o hr := by
    rcases k.rnew b o hr with r | r | r
    · exact h.rnew b o r
    · exact .inr (.inl (Nat.le_trans h.size r))
    · rcases hi b r with r | r
      · exact .inr (.inr r)
      · exact .inr (.inl r)

section
variable {C : Ctx} {D : Dyn} {σ : Sg} {γ : Ga} {a : Act} {w : World}

theorem blk_isP {key : Nat} (h : (γ key).isP = true) : blk D γ key = (D.τ key).ownBlock := by
  unfold blk; cases hg : γ key <;> rw [hg] at h <;> first | cases h | rfl
theorem Sim.psAt (h : Sim C D σ γ a w) {key : Nat} (hp : (γ key).isP = true) : ∃ s, (γ key).psz = some s ∧ TipOK D.R w (D.τ key) s ∧ PrivOK D.R w (D.τ key) s (σ key) := by
  cases hg : γ key <;> rw [hg] at hp <;> first | cases hp | skip
  all_goals exact ⟨_, rfl, h.ps key _ (by rw [hg]; rfl)⟩
theorem Sim.lt (h : Sim C D σ γ a w) {key g : Nat} (hb : blk D γ key = some g) : g < w.heap.size := by
  cases hp : (γ key).isP with
  | true =>
    rw [blk_isP hp] at hb
    obtain ⟨s, _, ht, _⟩ := h.psAt hp
    exact ht.lt hb
  | false =>
    unfold blk at hb
    split at hb
    · rename_i ts hg
      cases hb
      obtain ⟨cs, hv, _⟩ := h.mem _ _ hg
      exact hv.lt
    · rename_i s hg
      exact (h.tip _ _ hg).lt hb
    · rename_i s hg; rw [hg] at hp; cases hp
    · rename_i d s hg; rw [hg] at hp; cases hp
    · rename_i s hg; rw [hg] at hp; cases hp
    · cases hb
/-- Of an owner that is no private slice nobody else has the block. -/
theorem Sim.sepN (h : Sim C D σ γ a w) {key key' g : Nat} (hn : (γ key).isP = false) (h1 : blk D γ key = some g) (h2 : blk D γ key' = some g) : key = key' := by
  rcases h.sep key key' g h1 h2 with e | e | e
  · exact e
  · cases hg : γ key <;> rw [hg] at e hn <;> first | (cases hn; done) | (cases e; done)
  · cases hg : γ key' <;> rw [hg] at e <;> first | (cases e; done) | skip
    cases e
    have := h.inv key'
    rw [hg] at this
    rcases this with e | ⟨s, e⟩
    · unfold blk at h1; rw [e] at h1; cases h1
    · rw [e] at hn; cases hn

theorem blk_cl {key : Nat} {ts : List (Nat × (Nat × Nat))} (h : γ key = .cl ts) : blk D γ key = some (D.β key) := by simp [blk, h]
theorem blk_live {key s : Nat} (h : γ key = .live s) : blk D γ key = (D.τ key).ownBlock := by simp [blk, h]

/-- THE WORLD TURNS where no owner's block is, in blocks that are the call's own, and more may be read. -/
theorem Sim.world (h : Sim C D σ γ a w) {w' : World} {R' : Reach} (os : w'.os = w.os) (tape : w'.tape = w.tape) (out : w'.output = w.output) (size : w.heap.size ≤ w'.heap.size)
    (hh : ∀ b, b < w.heap.size → ((∃ key, blk D γ key = some b) ∨ ¬ C.mine b) → w'.heap[b]? = w.heap[b]?) (keep : Keeps D.R w R' w')
    (new : ∀ b o, R' b o → D.R b o ∨ (C.mine b ∧ ∀ key, blk D γ key ≠ some b)) (lt : ∀ b o, R' b o → b < w'.heap.size) : Sim C { D with R := R' } σ γ a w' where
  size := h.size
  defers := h.defers
  ntlt := h.ntlt
  rng := h.rng
  lrng := h.lrng
  slot t ht := (h.slot t ht).imp id fun ⟨r, g⟩ => ⟨r.mono keep, by cases hg : γ t <;> rw [hg] at g <;> exact g⟩
  mem m ts hm := by
    obtain ⟨cs, hv, ht⟩ := h.mem m ts hm
    refine ⟨cs, hv.keep keep (hh _ hv.lt (.inl ⟨m, blk_cl hm⟩)) (fun o hr => ?_), ht⟩
    rcases new _ _ hr with r | ⟨_, r⟩
    · exact hv.noR o r
    · exact r m (blk_cl hm)
  tip key s hk := (h.tip key s hk).keep fun g hg => by
    have hb : blk D γ key = some g := (blk_live hk).trans hg
    refine ⟨hh g (h.lt hb) (.inl ⟨key, hb⟩), fun o hr => ?_⟩
    rcases new _ _ hr with r | ⟨_, r⟩
    · exact r
    · exact (r key hb).elim
  ps := h.ps.keep keep fun key hp => ⟨rfl, rfl, rfl, fun g hg => by
    have hb : blk D γ key = some g := (blk_isP hp).trans hg
    refine ⟨hh g (h.lt hb) (.inl ⟨key, hb⟩), fun o hr => ?_⟩
    rcases new _ _ hr with r | ⟨_, r⟩
    · exact r
    · exact (r key hb).elim⟩
  sep := h.sep
  own := h.own
  inv := h.inv
  ext := by
    refine ⟨os.trans h.ext.os, tape.trans h.ext.tape, out.trans h.ext.output, Nat.le_trans h.ext.size size, fun b hb hn => ?_, h.ext.keep.trans keep, fun b o hr => ?_⟩
    · exact (hh b (Nat.lt_of_lt_of_le hb h.ext.size) (.inr fun hm => by rcases hm with hm | hm <;> first | exact hn hm | omega)).trans (h.ext.heap b hb hn)
    · rcases new b o hr with r | ⟨r, _⟩
      · exact h.ext.rnew b o r
      · rcases r with r | r
        · exact .inr (.inr r)
        · exact .inr (.inl r)
  rlt := lt
  gl n := (h.gl n).mono keep
  fix := h.fix

/-- New blocks behind the old ones; what is read of them is new, too. -/
theorem Sim.grow (h : Sim C D σ γ a w) {w' : World} {R' : Reach} (os : w'.os = w.os) (tape : w'.tape = w.tape) (out : w'.output = w.output) (size : w.heap.size ≤ w'.heap.size)
    (hh : ∀ b, b < w.heap.size → w'.heap[b]? = w.heap[b]?) (sub : ∀ b o, D.R b o → R' b o) (new : ∀ b o, R' b o → D.R b o ∨ w.heap.size ≤ b) (lt : ∀ b o, R' b o → b < w'.heap.size) : Sim C { D with R := R' } σ γ a w' :=
  h.world os tape out size (fun b hb _ => hh b hb) (fun b o hr => ⟨sub b o hr, World.cell?_of_block (w := w) (hh b (h.rlt b o hr))⟩)
    (fun b o hr => (new b o hr).imp id fun hb => ⟨.inr (Nat.le_trans h.ext.size hb), fun key hk => by have := h.lt hk; omega⟩) lt

/-- A draw. -/
theorem Sim.drew (h : Sim C D σ γ a w) : Sim C D σ γ a { w with drawn := w.drawn + 1 } :=
  h.grow (w' := { w with drawn := w.drawn + 1 }) (R' := D.R) rfl rfl rfl (Nat.le_refl _) (fun _ _ => rfl) (fun _ _ h => h) (fun _ _ h => .inl h) h.rlt

theorem Act.getD_put (a : Act) (d t : Nat) (v : Value) (hd : d < a.tmps.size) : (a.put (some d) v).tmps.getD t undef = if t = d then v else a.tmps.getD t undef := by
  simp only [Act.put, Array.getD_eq_getD_getElem?, Array.getElem?_setIfInBounds]
  by_cases h : d = t
  · subst h; simp [hd]
  · simp [h, Ne.symm h]
theorem Act.size_put (a : Act) (d : Option Nat) (v : Value) : (a.put d v).tmps.size = a.tmps.size := by cases d <;> simp [Act.put]
theorem Act.defers_put (a : Act) (d : Option Nat) (v : Value) : (a.put d v).defers = a.defers := by cases d <;> simp [Act.put]

theorem Gh.not_cl {g : Gh} (h : g.isCl = false) : ∀ ts, g ≠ .cl ts := by intro ts e; subst e; simp [Gh.isCl] at h
theorem Gh.not_live {g : Gh} (h : g.isLk = false) : ∀ s, g ≠ .live s := by intro s e; subst e; simp [Gh.isLk] at h

theorem Sim.noClk (h : Sim C D σ γ a w) {d : Nat} (hd : d < C.nt) : (γ d).isCl = false ∧ (γ d).isLk = false := by
  constructor
  · cases hc : (γ d).isCl with
    | false => rfl
    | true => have := (h.rng d hc).1; omega
  · cases hc : (γ d).isLk with
    | false => rfl
    | true => have := h.lrng d hc; have := h.ntlt; omega

theorem Ment.upd_slot {γ : Ga} {d : Nat} {g : Gh} (h1 : (γ d).isCl = false) (h2 : (γ d).isLk = false) : ∀ {x : Gh}, Ment γ x → Ment (upd γ d g) x := by
  have hc : ∀ m, (γ m).isCl = true → (upd γ d g m).isCl = true := fun m hm => by
    by_cases e : m = d
    · subst e; rw [h1] at hm; cases hm
    · rw [upd_ne _ _ e]; exact hm
  have hl : ∀ m, (γ m).isLk = true → (upd γ d g m).isLk = true := fun m hm => by
    by_cases e : m = d
    · subst e; rw [h2] at hm; cases hm
    · rw [upd_ne _ _ e]; exact hm
  intro x hx
  cases x with
  | ptr m o => exact hc m hx
  | tip k s => exact hl _ hx
  | cl ts => exact fun t ht => hl _ (hx t ht)
  | tup ts p => exact ⟨fun t ht => hl _ (hx.1 t ht), fun q hq => hc _ (hx.2 q hq)⟩
  | pe k => exact hl _ hx
  | sus k s =>
    have hk : k ≠ d := fun e => by subst e; rcases hx with e | ⟨s', e⟩ <;> rw [e] at h2 <;> cases h2
    simp only [Ment, upd_ne _ _ hk]; exact hx
  | _ => trivial

theorem par_upd {γ : Ga} {d : Nat} {g : Gh} (h2 : (γ d).isP = false) (g2 : g.isP = false) (key : Nat) : (upd γ d g key).par = (γ key).par := by
  by_cases e : key = d
  · subst e; rw [upd_same]
    have f : ∀ g : Gh, g.isP = false → g.par = none := fun g h => by cases g <;> first | rfl | cases h
    rw [f _ g2, f _ h2]
  · rw [upd_ne _ _ e]
theorem Gh.notP {g : Gh} (h : g.isLk = false) : g.isP = false := by cases g <;> first | rfl | cases h

theorem blk_upd_slot {D : Dyn} {γ : Ga} {d : Nat} {g : Gh} (h1 : (γ d).isCl = false) (h2 : (γ d).isLk = false) (g1 : g.isCl = false) (g2 : g.isLk = false) (key : Nat) : blk D (upd γ d g) key = blk D γ key := by
  unfold blk
  by_cases e : key = d
  · subst e
    rw [upd_same]
    cases g <;> simp [Gh.isCl, Gh.isLk] at g1 g2 <;> cases hg : γ key <;> simp [hg, Gh.isCl, Gh.isLk] at h1 h2 <;> rfl
  · rw [upd_ne _ _ e]

/-- A SLOT IS WRITTEN. -/
theorem Sim.put (h : Sim C D σ γ a w) {d : Nat} (hd : d < C.nt) {s : AV} {g : Gh} {v : Value} (hs : SlotOK D w s g v) (g1 : g.isCl = false) (g2 : g.isLk = false) (gm : Ment γ g) :
    Sim C D (upd σ d s) (upd γ d g) (a.put (some d) v) w := by
  obtain ⟨h1, h2⟩ := h.noClk hd
  have hlt : d < a.tmps.size := by rw [h.size]; exact hd
  have hne : ∀ m, C.nt ≤ m → m ≠ d := fun m hm => by omega
  have hcl : ∀ m, (upd γ d g m).isCl = true → m ≠ d := fun m hm e => by subst e; rw [upd_same, g1] at hm; cases hm
  have hlv : ∀ m, (upd γ d g m).isLk = true → m ≠ d := fun m hm e => by subst e; rw [upd_same, g2] at hm; cases hm
  refine ⟨by rw [Act.size_put, h.size], by rw [Act.defers_put, h.defers], h.ntlt, fun m hm => ?_, fun m hm => ?_, fun t ht => ?_, fun m ts hm => ?_, fun key s' hk => ?_, h.ps.same rfl (fun key hp => ?_), fun k k' g' hk hk' => ?_, fun k g' hk => ?_, fun key => ?_, h.ext, h.rlt, h.gl, h.fix⟩
  · have e := hcl m hm; rw [upd_ne _ _ e] at hm; exact h.rng m hm
  · have e := hlv m hm; rw [upd_ne _ _ e] at hm; exact h.lrng m hm
  · rw [Act.getD_put _ _ _ _ hlt]
    by_cases e : t = d
    · subst e; rw [upd_same, upd_same, if_pos rfl]; exact hs
    · rw [upd_ne _ _ e, upd_ne _ _ e, if_neg e]; exact h.slot t ht
  · have e := hcl m (by rw [hm]; rfl); rw [upd_ne _ _ e] at hm ⊢; exact h.mem m ts hm
  · have e := hlv key (by rw [hk]; rfl); rw [upd_ne _ _ e] at hk; exact h.tip key s' hk
  · have e := hlv key (Gh.isP_lk hp).1; rw [upd_ne _ _ e, upd_ne _ _ e]; exact ⟨rfl, rfl, rfl⟩
  · rw [blk_upd_slot h1 h2 g1 g2] at hk hk'; rw [par_upd (Gh.notP h2) (Gh.notP g2), par_upd (Gh.notP h2) (Gh.notP g2)]; exact h.sep k k' g' hk hk'
  · rw [blk_upd_slot h1 h2 g1 g2] at hk; exact h.own k g' hk
  · by_cases e : key = d
    · subst e; rw [upd_same]; exact Ment.upd_slot h1 h2 gm
    · rw [upd_ne _ _ e]; exact Ment.upd_slot h1 h2 (h.inv key)

/-- A key that is no slot and of which nothing is known is given a dead value. -/
theorem Sim.dead (h : Sim C D σ γ a w) {k : Nat} (hk : (γ k).isCl = false) : Sim C D (upd σ k .dead) γ a w := by
  refine ⟨h.size, h.defers, h.ntlt, h.rng, h.lrng, fun t ht => ?_, fun m ts hm => ?_, h.tip, fun key s hs => ?_, h.sep, h.own, h.inv, h.ext, h.rlt, h.gl, h.fix⟩
  · by_cases e : t = k
    · subst e; rw [upd_same]; exact .inl rfl
    · rw [upd_ne _ _ e]; exact h.slot t ht
  · have e : m ≠ k := fun e => by subst e; rw [hm] at hk; cases hk
    rw [upd_ne _ _ e]; exact h.mem m ts hm
  · obtain ⟨h1, h2⟩ := h.ps key s hs
    by_cases e : key = k
    · subst e; rw [upd_same]; exact ⟨h1, h2.1, .inl rfl⟩
    · rw [upd_ne _ _ e]; exact ⟨h1, h2⟩

/-- A tip is used up. -/
theorem Sim.kill (h : Sim C D σ γ a w) {k s : Nat} (hk : γ k = .live s) : Sim C D σ (upd γ k .used) a w := by
  have hkr := h.lrng k (by rw [hk]; rfl)
  have hlk : ∀ m, (upd γ k .used m).isLk = (γ m).isLk := fun m => by
    by_cases e : m = k
    · subst e; rw [upd_same, hk]; rfl
    · rw [upd_ne _ _ e]
  have hcl : ∀ m, (upd γ k .used m).isCl = (γ m).isCl := fun m => by
    by_cases e : m = k
    · subst e; rw [upd_same, hk]; rfl
    · rw [upd_ne _ _ e]
  have hm : ∀ g, Ment γ g → Ment (upd γ k .used) g := fun g hg => by
    cases g <;> simp only [Ment, hlk, hcl] at hg ⊢ <;> first | exact hg | skip
    rename_i d s'
    have hd : d ≠ k := fun e => by subst e; rcases hg with e | ⟨s'', e⟩ <;> rw [hk] at e <;> cases e
    rw [upd_ne _ _ hd]; exact hg
  have hb : ∀ key g, blk D (upd γ k .used) key = some g → blk D γ key = some g := fun key g hg => by
    unfold blk at hg ⊢
    by_cases e : key = k
    · subst e; rw [upd_same] at hg; cases hg
    · rw [upd_ne _ _ e] at hg; exact hg
  refine ⟨h.size, h.defers, h.ntlt, fun m hm => h.rng m (by rwa [hcl] at hm), fun m hm => h.lrng m (by rwa [hlk] at hm), fun t ht => ?_, fun m ts hm' => ?_, fun key s' hk' => ?_, h.ps.same rfl (fun key hp => ?_), fun p q g hp hq => (by rw [par_upd (by rw [hk]; rfl) rfl, par_upd (by rw [hk]; rfl) rfl]; exact h.sep p q g (hb p g hp) (hb q g hq)), fun p g hp => h.own p g (hb p g hp), fun key => ?_, h.ext, h.rlt, h.gl, h.fix⟩
  · have e : t ≠ k := by have := h.ntlt; omega
    rw [upd_ne _ _ e]; exact h.slot t ht
  · have e : m ≠ k := fun e => by subst e; rw [upd_same] at hm'; cases hm'
    rw [upd_ne _ _ e] at hm'; exact h.mem m ts hm'
  · have e : key ≠ k := fun e => by subst e; rw [upd_same] at hk'; cases hk'
    rw [upd_ne _ _ e] at hk'; exact h.tip key s' hk'
  · have e : key ≠ k := fun e => by subst e; rw [upd_same] at hp; cases hp
    rw [upd_ne _ _ e]; exact ⟨rfl, rfl, rfl⟩
  · by_cases e : key = k
    · subst e; rw [upd_same]; trivial
    · rw [upd_ne _ _ e]; exact hm _ (h.inv key)

/-- A NEW TIP, as yet in no slot. -/
theorem Sim.newTip (h : Sim C D σ γ a w) {k s : Nat} {v : Value} (hk : γ (lk k) = .no) (ht : TipOK D.R w v s) (hg : ∀ g, v.ownBlock = some g → C.mine g ∧ ∀ key, blk D γ key ≠ some g) :
    Sim C { D with τ := upd D.τ (lk k) v } σ (upd γ (lk k) (.live s)) a w := by
  have hτ : ∀ j, (γ (lk j)).isLk = true → upd D.τ (lk k) v (lk j) = D.τ (lk j) := fun j hj => by
    have e : lk j ≠ lk k := fun e => by rw [e, hk] at hj; cases hj
    exact upd_ne _ _ e
  have hlk : ∀ m, (γ m).isLk = true → (upd γ (lk k) (.live s) m).isLk = true := fun m hm => by
    by_cases e : m = lk k
    · subst e; rw [upd_same]; rfl
    · rw [upd_ne _ _ e]; exact hm
  have hcl : ∀ m, (upd γ (lk k) (.live s) m).isCl = (γ m).isCl := fun m => by
    by_cases e : m = lk k
    · subst e; rw [upd_same, hk]; rfl
    · rw [upd_ne _ _ e]
  have hm : ∀ g, Ment γ g → Ment (upd γ (lk k) (.live s)) g := fun g hg => by
    cases g with
    | ptr m o => simp only [Ment, hcl] at hg ⊢; exact hg
    | tip j s' => exact hlk _ hg
    | cl ts => exact fun t ht => hlk _ (hg t ht)
    | tup ts p => exact ⟨fun t ht => hlk _ (hg.1 t ht), fun q hq => by rw [hcl]; exact hg.2 q hq⟩
    | pe j => exact hlk _ hg
    | sus d s' =>
      have hd : d ≠ lk k := fun e => by subst e; rcases hg with e | ⟨s'', e⟩ <;> rw [hk] at e <;> cases e
      simp only [Ment, upd_ne _ _ hd]; exact hg
    | _ => trivial
  have hb : ∀ key, blk { D with τ := upd D.τ (lk k) v } (upd γ (lk k) (.live s)) key = if key = lk k then v.ownBlock else blk D γ key := fun key => by
    unfold blk
    by_cases e : key = lk k
    · subst e; rw [upd_same]; simp [upd_same]
    · rw [upd_ne _ _ e, if_neg e]
      cases hg : γ key with
      | live s' => simp [upd_ne _ _ e]
      | pv s' => simp [upd_ne _ _ e]
      | pc s' => simp [upd_ne _ _ e]
      | sus d s' => simp [upd_ne _ _ e]
      | _ => rfl
  refine ⟨h.size, h.defers, h.ntlt, fun m hm => h.rng m (by rwa [hcl] at hm), fun m hm => ?_, fun t ht => ?_, fun m ts hm' => ?_, fun key s' hk' => ?_, h.ps.same rfl (fun key hp => ?_), fun p q g hp hq => ?_, fun p g hp => ?_, fun key => ?_, h.ext, h.rlt, h.gl, h.fix⟩
  · by_cases e : m = lk k
    · subst e; exact lk_ge k
    · rw [upd_ne _ _ e] at hm; exact h.lrng m hm
  · have e : t ≠ lk k := by have := h.ntlt; have := lk_ge k; omega
    rw [upd_ne _ _ e]
    rcases h.slot t ht with e | ⟨r, g⟩
    · exact .inl e
    · exact .inr ⟨r, fun hs => GhOK.congr (D := D) (h.inv t) (fun _ _ => rfl) hτ (g hs)⟩
  · have e : m ≠ lk k := fun e => by subst e; rw [upd_same] at hm'; cases hm'
    rw [upd_ne _ _ e] at hm'
    obtain ⟨cs, hv, hts⟩ := h.mem m ts hm'
    refine ⟨cs, hv, fun t ht => ?_⟩
    have hi := h.inv m
    rw [hm'] at hi
    show cs[t.1]? = some (upd D.τ (lk k) v (lk t.2.1))
    rw [hτ _ (hi t ht)]; exact hts t ht
  · by_cases e : key = lk k
    · subst e; rw [upd_same] at hk'; cases hk'; simpa [upd_same] using ht
    · rw [upd_ne _ _ e] at hk'
      have := h.tip key s' hk'
      rw [← upd_ne D.τ v e] at this
      exact this
  · have e : key ≠ lk k := fun e => by subst e; rw [upd_same] at hp; cases hp
    rw [upd_ne _ _ e]; exact ⟨rfl, rfl, upd_ne _ _ e⟩
  · rw [par_upd (by rw [hk]; rfl) rfl, par_upd (by rw [hk]; rfl) rfl]
    rw [hb] at hp hq
    split at hp <;> split at hq
    · rename_i e1 e2; left; rw [e1, e2]
    · exact ((hg g hp).2 q hq).elim
    · exact ((hg g hq).2 p hp).elim
    · exact h.sep p q g hp hq
  · rw [hb] at hp
    split at hp
    · exact (hg g hp).1
    · exact h.own p g hp
  · by_cases e : key = lk k
    · subst e; rw [upd_same]; trivial
    · rw [upd_ne _ _ e]; exact hm _ (h.inv key)

/-- A NEW LOCAL VARIABLE, some of whose cells are tips that are there already, in no slot as yet. -/
theorem Sim.newVar (h : Sim C D σ γ a w) {m b : Nat} {x : AV} {cs : List Value} {ts : List (Nat × (Nat × Nat))} (hm : γ m = .no) (h1 : C.nt ≤ m) (h2 : m < 999999) (hv : VarAt D.R w x b cs)
    (hts : ∀ t ∈ ts, (γ (lk t.2.1)).isLk = true ∧ cs[t.1]? = some (D.τ (lk t.2.1))) (hb : C.mine b ∧ ∀ key, blk D γ key ≠ some b) :
    Sim C { D with β := upd D.β m b } (upd σ m x) (upd γ m (.cl ts)) a w := by
  have hβ : ∀ j, (γ j).isCl = true → upd D.β m b j = D.β j := fun j hj => by
    have e : j ≠ m := fun e => by subst e; rw [hm] at hj; cases hj
    exact upd_ne _ _ e
  have hcl : ∀ j, (γ j).isCl = true → (upd γ m (.cl ts) j).isCl = true := fun j hj => by
    by_cases e : j = m
    · subst e; rw [upd_same]; rfl
    · rw [upd_ne _ _ e]; exact hj
  have hlk : ∀ j, (upd γ m (.cl ts) j).isLk = (γ j).isLk := fun j => by
    by_cases e : j = m
    · subst e; rw [upd_same, hm]; rfl
    · rw [upd_ne _ _ e]
  have hM : ∀ g, Ment γ g → Ment (upd γ m (.cl ts)) g := fun g hg => by
    cases g with
    | ptr j o => exact hcl _ hg
    | tip j s' => simp only [Ment, hlk] at hg ⊢; exact hg
    | cl us => exact fun t ht => by rw [hlk]; exact hg t ht
    | tup us p => exact ⟨fun t ht => by rw [hlk]; exact hg.1 t ht, fun q hq => hcl _ (hg.2 q hq)⟩
    | pe j => simp only [Ment, hlk] at hg ⊢; exact hg
    | sus d s' =>
      have hd : d ≠ m := fun e => by subst e; rcases hg with e | ⟨s'', e⟩ <;> rw [hm] at e <;> cases e
      simp only [Ment, upd_ne _ _ hd]; exact hg
    | _ => trivial
  have hB : ∀ key, blk { D with β := upd D.β m b } (upd γ m (.cl ts)) key = if key = m then some b else blk D γ key := fun key => by
    unfold blk
    by_cases e : key = m
    · subst e; rw [upd_same]; simp [upd_same]
    · rw [upd_ne _ _ e, if_neg e]
      cases hg : γ key with
      | cl us => simp [upd_ne _ _ e]
      | _ => rfl
  refine ⟨h.size, h.defers, h.ntlt, fun j hj => ?_, fun j hj => h.lrng j (by rwa [hlk] at hj), fun t ht => ?_, fun j us hj => ?_, fun key s' hk' => ?_, h.ps.same rfl (fun key hp => ?_), fun p q g hp hq => ?_, fun p g hp => ?_, fun key => ?_, h.ext, h.rlt, h.gl, fun b' hb' => by
    have e : 999999 ≠ m := by omega
    show upd D.β m b 999999 = b'
    rw [upd_ne _ _ e]; exact h.fix b' hb'⟩
  · by_cases e : j = m
    · subst e; exact ⟨h1, by omega⟩
    · rw [upd_ne _ _ e] at hj; exact h.rng j hj
  · have e : t ≠ m := by omega
    rw [upd_ne _ _ e, upd_ne _ _ e]
    rcases h.slot t ht with e | ⟨r, g⟩
    · exact .inl e
    · exact .inr ⟨r, fun hs => GhOK.congr (D := D) (h.inv t) hβ (fun _ _ => rfl) (g hs)⟩
  · by_cases e : j = m
    · subst e; rw [upd_same] at hj; cases hj; rw [upd_same]
      exact ⟨cs, by simpa [upd_same] using hv, fun t ht => (hts t ht).2⟩
    · rw [upd_ne _ _ e] at hj; rw [upd_ne _ _ e]
      simpa [upd_ne _ _ e] using h.mem j us hj
  · have e : key ≠ m := fun e => by subst e; rw [upd_same] at hk'; cases hk'
    rw [upd_ne _ _ e] at hk'; exact h.tip key s' hk'
  · have e : key ≠ m := fun e => by subst e; rw [upd_same] at hp; cases hp
    rw [upd_ne _ _ e, upd_ne _ _ e]; exact ⟨rfl, rfl, rfl⟩
  · rw [par_upd (by rw [hm]; rfl) rfl, par_upd (by rw [hm]; rfl) rfl]
    rw [hB] at hp hq
    split at hp <;> split at hq
    · rename_i e1 e2; left; rw [e1, e2]
    · cases hp; exact (hb.2 q hq).elim
    · cases hq; exact (hb.2 p hp).elim
    · exact h.sep p q g hp hq
  · rw [hB] at hp
    split at hp
    · cases hp; exact hb.1
    · exact h.own p g hp
  · by_cases e : key = m
    · subst e; rw [upd_same]; exact fun t ht => by rw [hlk]; exact (hts t ht).1
    · rw [upd_ne _ _ e]; exact hM _ (h.inv key)

/-- A LOCAL VARIABLE IS WRITTEN. -/
theorem Sim.store (h : Sim C D σ γ a w) {m : Nat} {w' : World} {x : AV} {cs : List Value} {ts us : List (Nat × (Nat × Nat))} (hm : γ m = .cl ts)
    (os : w'.os = w.os) (tape : w'.tape = w.tape) (out : w'.output = w.output) (size : w'.heap.size = w.heap.size) (hh : ∀ b, b ≠ D.β m → w'.heap[b]? = w.heap[b]?)
    (hv : VarAt D.R w' x (D.β m) cs) (hus : ∀ t ∈ us, (γ (lk t.2.1)).isLk = true ∧ cs[t.1]? = some (D.τ (lk t.2.1))) : Sim C D (upd σ m x) (upd γ m (.cl us)) a w' := by
  obtain ⟨cs0, hv0, _⟩ := h.mem m ts hm
  have hnR : ∀ o, ¬ D.R (D.β m) o := hv0.noR
  have keep : Keeps D.R w D.R w' := fun b o hr => ⟨hr, World.cell?_of_block (w := w) (hh b (fun e => hnR o (e ▸ hr)))⟩
  have hcl : ∀ j, (upd γ m (.cl us) j).isCl = (γ j).isCl := fun j => by
    by_cases e : j = m
    · subst e; rw [upd_same, hm]; rfl
    · rw [upd_ne _ _ e]
  have hlk : ∀ j, (upd γ m (.cl us) j).isLk = (γ j).isLk := fun j => by
    by_cases e : j = m
    · subst e; rw [upd_same, hm]; rfl
    · rw [upd_ne _ _ e]
  have hM : ∀ g, Ment γ g → Ment (upd γ m (.cl us)) g := fun g hg => by
    cases g <;> simp only [Ment, hcl, hlk] at hg ⊢ <;> first | exact hg | skip
    rename_i d s'
    have hd : d ≠ m := fun e => by subst e; rcases hg with e | ⟨s'', e⟩ <;> rw [hm] at e <;> cases e
    rw [upd_ne _ _ hd]; exact hg
  have hB : ∀ key, blk D (upd γ m (.cl us)) key = blk D γ key := fun key => by
    unfold blk
    by_cases e : key = m
    · subst e; rw [upd_same, hm]
    · rw [upd_ne _ _ e]
  refine ⟨h.size, h.defers, h.ntlt, fun j hj => h.rng j (by rwa [hcl] at hj), fun j hj => h.lrng j (by rwa [hlk] at hj), fun t ht => ?_, fun j vs hj => ?_, fun key s' hk' => ?_, h.ps.keep keep (fun key hp => ?_), fun p q g hp hq => (by rw [par_upd (by rw [hm]; rfl) rfl, par_upd (by rw [hm]; rfl) rfl]; exact h.sep p q g (by rwa [hB] at hp) (by rwa [hB] at hq)), fun p g hp => h.own p g (by rwa [hB] at hp), fun key => ?_, ?_, fun b o hr => by rw [size]; exact h.rlt b o hr, fun n => (h.gl n).mono keep, h.fix⟩
  · have e : t ≠ m := by have := (h.rng m (by rw [hm]; rfl)).1; omega
    rw [upd_ne _ _ e, upd_ne _ _ e]
    exact (h.slot t ht).imp id fun ⟨r, g⟩ => ⟨r.mono keep, g⟩
  · by_cases e : j = m
    · subst e; rw [upd_same] at hj; cases hj; rw [upd_same]; exact ⟨cs, hv, fun t ht => (hus t ht).2⟩
    · rw [upd_ne _ _ e] at hj; rw [upd_ne _ _ e]
      obtain ⟨cs', hv', ht'⟩ := h.mem j vs hj
      have hne : D.β j ≠ D.β m := fun he => e (h.sepN (by rw [hj]; rfl) (by rw [blk_cl hj, he]) (blk_cl hm))
      exact ⟨cs', hv'.keep keep (hh _ hne) hv'.noR, ht'⟩
  · have e : key ≠ m := fun e => by subst e; rw [upd_same] at hk'; cases hk'
    rw [upd_ne _ _ e] at hk'
    refine (h.tip key s' hk').keep fun g hg => ⟨hh g fun he => e (h.sepN (by rw [hk']; rfl) (by rw [blk_live hk', hg, he]) (blk_cl hm)), fun _ hr => hr⟩
  · have e : key ≠ m := fun e => by subst e; rw [upd_same] at hp; cases hp
    rw [upd_ne _ _ e] at hp ⊢
    rw [upd_ne _ _ e]
    exact ⟨rfl, rfl, rfl, fun g hg => ⟨hh g fun he => e (h.sepN (by rw [hm]; rfl) (by rw [blk_cl hm, ← he]) ((blk_isP hp).trans hg)).symm, fun _ hr => hr⟩⟩
  · by_cases e : key = m
    · subst e; rw [upd_same]; exact fun t ht => by rw [hlk]; exact (hus t ht).1
    · rw [upd_ne _ _ e]; exact hM _ (h.inv key)
  · have hmine := h.own m _ (blk_cl hm)
    refine ⟨os.trans h.ext.os, tape.trans h.ext.tape, out.trans h.ext.output, by rw [size]; exact h.ext.size, fun b hb hn => ?_, h.ext.keep.trans keep, h.ext.rnew⟩
    refine (hh b fun e => ?_).trans (h.ext.heap b hb hn)
    subst e
    rcases hmine with hm' | hm'
    · exact hn hm'
    · omega
end
end Go.Eng
