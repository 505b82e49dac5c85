/- What is known may be forgotten, and names of tips may be turned; a function's code is what its MIR says (chk_ok). -/
import Derived.Test.YtenbejbhjgkibaaEngT
import Derived.Deep.LoopGhost
import Derived.ScopeJumps
set_option linter.unusedVariables false
set_option linter.unusedSimpArgs false
namespace Go.Eng
open Go.RowKit

theorem GL.mem_of_get {G : GL} {k : Nat} : ∀ {g : Gh}, G.get k = g → g ≠ .no → (k, g) ∈ G := by
  induction G with
  | nil => intro g h hn; exact absurd h.symm hn
  | cons p r ih =>
    intro g h hn
    obtain ⟨j, x⟩ := p
    simp only [GL.get] at h
    split at h
    · rename_i e; subst e; subst h; exact List.mem_cons_self ..
    · exact List.mem_cons_of_mem _ (ih h hn)

def rename (ρ : List (Nat × Nat)) (τ : Nat → Value) (key : Nat) : Value :=
  match ρ.find? (fun p => lk p.1 == key) with
  | some p => τ (lk p.2)
  | none => τ key

theorem lk_beq (i j : Nat) : (lk i == lk j) = (i == j) := by
  by_cases h : i = j
  · subst h; simp
  · have : lk i ≠ lk j := fun e => h (lk_inj e)
    rw [beq_eq_false_iff_ne.2 this, beq_eq_false_iff_ne.2 h]

section
variable {C : Ctx} {D : Dyn} {σ : Sg} {a : Act} {w : World} {G H : GL}

theorem Sim.weaken (h : Sim C D σ G.get a w) (hr : refines G H = true) : ∃ D', Sim C D' σ H.get a w := by
  unfold refines at hr
  simp only [Bool.and_eq_true] at hr
  obtain ⟨hinj, hall⟩ := hr
  generalize hρ : pairsOf G H = ρ at hinj hall
  have hinj' : ∀ p ∈ ρ, ∀ q ∈ ρ, (p.1 = q.1 ↔ p.2 = q.2) := by
    intro p hp q hq
    have := List.all_eq_true.1 (List.all_eq_true.1 hinj p hp) q hq
    by_cases e1 : p.1 = q.1 <;> by_cases e2 : p.2 = q.2 <;> simp [e1, e2] at this ⊢
  have hren : ∀ p ∈ ρ, rename ρ D.τ (lk p.1) = D.τ (lk p.2) := by
    intro p hp
    simp only [rename, lk_beq]
    cases hf : ρ.find? (fun q => q.1 == p.1) with
    | none => exact absurd (List.find?_eq_none.1 hf p hp) (by simp)
    | some q =>
      have h1 : q.1 = p.1 := by simpa using List.find?_some hf
      have h2 := (hinj' q (List.mem_of_find?_eq_some hf) p hp).1 h1
      simp only [h2]
  have hnm : ∀ {i j : Nat}, (ρ.find? (fun p => p.1 == i)).map (·.2) = some j → rename ρ D.τ (lk i) = D.τ (lk j) := by
    intro i j hf
    simp only [Option.map_eq_some_iff] at hf
    obtain ⟨q, hf, rfl⟩ := hf
    have h1 : q.1 = i := by simpa using List.find?_some hf
    rw [← h1]
    exact hren q (List.mem_of_find?_eq_some hf)
  have hget : ∀ k, H.get k ≠ .no → (match H.get k, G.get k with
    | .no, _ => true
    | .ptr m o, .ptr m' o' => m == m' && o == o' && (match H.get m with | .cl _ => true | _ => false)
    | .tip i s, .tip j s' => s == s' && (ρ.find? (fun p => p.1 == i)).map (·.2) == some j && (H.get (lk i)).isLk
    | .cl ts, .cl us => ts.all fun t => (match us.find? (fun u => u.1 == t.1) with | some u => (ρ.find? (fun p => p.1 == t.2.1)).map (·.2) == some u.2.1 && t.2.2 == u.2.2 | none => false) && (H.get (lk t.2.1)).isLk
    | .live s, _ => ρ.any fun p => lk p.1 == k && G.get (lk p.2) == .live s
    | .pv s, .pv s' => s == s' && ρ.any fun p => lk p.1 == k && p.1 == p.2
    | .pv s, .sus d s' => s == s' && !(H.get d).isLk && ρ.any fun p => lk p.1 == k && p.1 == p.2
    | .used, _ => decide (1000000 ≤ k)
    | _, _ => false) = true := fun k hk => List.all_eq_true.1 hall (k, H.get k) (GL.mem_of_get rfl hk)
  have hcl : ∀ m ts, H.get m = .cl ts → ∃ us, G.get m = .cl us ∧ ∀ t ∈ ts, (∃ u ∈ us, u.1 = t.1 ∧ rename ρ D.τ (lk t.2.1) = D.τ (lk u.2.1)) ∧ (H.get (lk t.2.1)).isLk = true := by
    intro m ts e
    have := hget m (by rw [e]; simp)
    rw [e] at this
    cases hg : G.get m with
    | cl us =>
      rw [hg] at this
      refine ⟨us, rfl, fun t ht => ?_⟩
      have h1 := List.all_eq_true.1 this t ht
      simp only [Bool.and_eq_true] at h1
      refine ⟨?_, h1.2⟩
      have h2 := h1.1
      split at h2
      · rename_i u hu
        simp only [Bool.and_eq_true, beq_iff_eq] at h2
        exact ⟨u, List.mem_of_find?_eq_some hu, by simpa using List.find?_some hu, hnm h2.1⟩
      · cases h2
    | _ => rw [hg] at this; simp at this
  have hlive : ∀ k s, H.get k = .live s → ∃ p ∈ ρ, lk p.1 = k ∧ G.get (lk p.2) = .live s := by
    intro k s e
    have := hget k (by rw [e]; simp)
    rw [e] at this
    simp only [List.any_eq_true, Bool.and_eq_true, beq_iff_eq] at this
    exact this
  have hpv : ∀ k s, H.get k = .pv s → (∃ p ∈ ρ, lk p.1 = k ∧ p.1 = p.2) ∧ (G.get k).psz = some s ∧ ∀ d, (G.get k).par = some d → (H.get d).isLk = false := by
    intro k s e
    have := hget k (by rw [e]; simp)
    rw [e] at this
    cases hg : G.get k with
    | pv s' =>
      rw [hg] at this
      simp only [Bool.and_eq_true, beq_iff_eq, List.any_eq_true] at this
      exact ⟨this.2, by rw [this.1]; rfl, fun d hd => by cases hd⟩
    | sus d s' =>
      rw [hg] at this
      simp only [Bool.and_eq_true, beq_iff_eq, List.any_eq_true, Bool.not_eq_true'] at this
      exact ⟨this.2, by rw [this.1.1]; rfl, fun d hd => by cases hd; exact this.1.2⟩
    | _ => rw [hg] at this; simp at this
  have hblk : ∀ key g, blk { D with τ := rename ρ D.τ } H.get key = some g → (∃ ts, H.get key = .cl ts ∧ blk D G.get key = some g) ∨ (∃ p ∈ ρ, lk p.1 = key ∧ blk D G.get (lk p.2) = some g ∧
      (∀ d, (G.get (lk p.2)).par = some d → (H.get d).isLk = false) ∧ (H.get key).isLk = true ∧ ((p.1 = p.2) ∨ ∃ s, G.get (lk p.2) = .live s)) := by
    intro key g hb
    cases hk : H.get key with
    | cl ts =>
      left
      obtain ⟨us, hu, _⟩ := hcl key ts hk
      refine ⟨ts, rfl, ?_⟩
      rw [blk_cl hk] at hb
      rw [blk_cl hu]
      exact hb
    | live s =>
      right
      obtain ⟨p, hp, h1, h2⟩ := hlive key s hk
      refine ⟨p, hp, h1, ?_, fun d hd => (by rw [h2] at hd; cases hd), rfl, .inr ⟨s, h2⟩⟩
      rw [blk_live hk, ← h1] at hb
      rw [blk_live h2]
      dsimp only at hb
      rw [hren p hp] at hb
      exact hb
    | pv s =>
      right
      obtain ⟨⟨p, hp, h1, h2⟩, h3, h4⟩ := hpv key s hk
      have e : lk p.2 = key := by rw [← h2]; exact h1
      refine ⟨p, hp, h1, ?_, by rw [e]; exact h4, rfl, .inl h2⟩
      rw [blk_isP (by rw [hk]; rfl), ← h1] at hb
      rw [e, blk_isP (Gh.psz_isP h3)]
      dsimp only at hb
      rw [hren p hp, e] at hb
      exact hb
    | sus d s =>
      have := hget key (by rw [hk]; simp)
      rw [hk] at this
      simp at this
    | pc s =>
      have := hget key (by rw [hk]; simp)
      rw [hk] at this
      simp at this
    | _ => simp [blk, hk] at hb
  have hrng : ∀ m, (H.get m).isCl = true → C.nt ≤ m ∧ m < 1000000 := by
    intro m hm
    cases hk : H.get m with
    | cl ts =>
      obtain ⟨us, hu, _⟩ := hcl m ts hk
      exact h.rng m (by rw [hu]; rfl)
    | _ => rw [hk] at hm; simp [Gh.isCl] at hm
  refine ⟨{ D with τ := rename ρ D.τ }, { size := h.size, defers := h.defers, ntlt := h.ntlt, rng := hrng, lrng := ?_, slot := ?_, mem := ?_, tip := ?_, ps := ?_, sep := ?_, own := ?_, inv := ?_, ext := h.ext, rlt := h.rlt, gl := h.gl, fix := h.fix }⟩
  · intro m hm
    cases hk : H.get m with
    | live s =>
      obtain ⟨p, _, rfl, _⟩ := hlive m s hk
      exact lk_ge _
    | pv s =>
      obtain ⟨⟨p, _, h1, _⟩, _⟩ := hpv m s hk
      rw [← h1]; exact lk_ge _
    | sus d s =>
      have := hget m (by rw [hk]; simp)
      rw [hk] at this
      simp at this
    | pc s =>
      have := hget m (by rw [hk]; simp)
      rw [hk] at this
      simp at this
    | used =>
      have := hget m (by rw [hk]; simp)
      rw [hk] at this
      simpa using this
    | _ => rw [hk] at hm; simp [Gh.isLk] at hm
  · intro t ht
    rcases h.slot t ht with e | ⟨e1, e2⟩
    · exact .inl e
    · refine .inr ⟨e1, fun hsk => ?_⟩
      replace e2 := e2 hsk
      cases hk : H.get t with
      | ptr m o =>
        have := hget t (by rw [hk]; simp)
        rw [hk] at this
        cases hg : G.get t with
        | ptr m' o' =>
          rw [hg] at this e2
          simp only [Bool.and_eq_true, beq_iff_eq] at this
          obtain ⟨⟨rfl, rfl⟩, _⟩ := this
          exact e2
        | _ => rw [hg] at this; simp at this
      | tip i s =>
        have := hget t (by rw [hk]; simp)
        rw [hk] at this
        cases hg : G.get t with
        | tip j s' =>
          rw [hg] at this e2
          simp only [Bool.and_eq_true, beq_iff_eq] at this
          obtain ⟨⟨rfl, hj⟩, _⟩ := this
          simp only [GhOK] at e2 ⊢
          rw [hnm hj]
          exact e2
        | _ => rw [hg] at this; simp at this
      | tup ts p =>
        have := hget t (by rw [hk]; simp)
        rw [hk] at this
        simp at this
      | pe k =>
        have := hget t (by rw [hk]; simp)
        rw [hk] at this
        simp at this
      | _ => trivial
  · intro m ts hk
    obtain ⟨us, hu, ht⟩ := hcl m ts hk
    obtain ⟨cs, hv, hc⟩ := h.mem m us hu
    refine ⟨cs, hv, fun t htm => ?_⟩
    obtain ⟨⟨u, hum, h1, h2⟩, _⟩ := ht t htm
    dsimp only
    rw [h2, ← h1]
    exact hc u hum
  · intro key s hk
    obtain ⟨p, hp, rfl, hg⟩ := hlive key s hk
    dsimp only
    rw [hren p hp]
    exact h.tip _ s hg
  · intro key s hs
    have hk : H.get key = .pv s := by
      cases hk : H.get key with
      | pv s' => rw [hk] at hs; cases hs; rfl
      | sus d s' =>
        have := hget key (by rw [hk]; simp)
        rw [hk] at this
        simp at this
      | pc s' =>
        have := hget key (by rw [hk]; simp)
        rw [hk] at this
        simp at this
      | _ => rw [hk] at hs; cases hs
    obtain ⟨⟨p, hp, h1, h2⟩, h3, _⟩ := hpv key s hk
    have := h.ps key s h3
    dsimp only
    rw [← h1, hren p hp, ← h2, h1]
    exact this
  · intro key key' g h1 h2
    left
    have hclP : ∀ m ts, H.get m = .cl ts → (G.get m).isP = false := fun m ts e => by
      obtain ⟨us, hu, _⟩ := hcl m ts e; rw [hu]; rfl
    rcases hblk key g h1 with ⟨ts, k1, b1⟩ | ⟨p, hp, k1, b1, c1, c1', c1''⟩ <;> rcases hblk key' g h2 with ⟨us, k2, b2⟩ | ⟨q, hq, k2, b2, c2, c2', c2''⟩
    · exact h.sepN (hclP _ _ k1) b1 b2
    · have := h.sepN (hclP _ _ k1) b1 b2
      have h3 := hrng key (by rw [k1]; rfl)
      have h4 := lk_ge q.2
      omega
    · have := h.sepN (hclP _ _ k2) b2 b1
      have h3 := hrng key' (by rw [k2]; rfl)
      have h4 := lk_ge p.2
      omega
    · have parNo : ∀ (p q : Nat × Nat) (key' : Nat), lk q.1 = key' → (H.get key').isLk = true → (q.1 = q.2 ∨ ∃ s, G.get (lk q.2) = .live s) → (∀ d, (G.get (lk p.2)).par = some d → (H.get d).isLk = false) → (G.get (lk p.2)).par ≠ some (lk q.2) := by
        intro p q key' e1 e2 e3 e4 e5
        have h6 := e4 _ e5
        rcases e3 with e3 | ⟨s, e3⟩
        · rw [← e3, e1, e2] at h6; cases h6
        · cases hg : G.get (lk p.2) with
          | sus d s' =>
            rw [hg] at e5
            cases e5
            have := h.inv (lk p.2)
            rw [hg] at this
            rcases this with e | ⟨s', e⟩ <;> rw [e3] at e <;> cases e
          | _ => rw [hg] at e5; cases e5
      rcases h.sep _ _ g b1 b2 with e | e | e
      · have := lk_inj e
        rw [← k1, ← k2, (hinj' p hp q hq).2 this]
      · exact (parNo p q key' k2 c2' c2'' c1 e).elim
      · exact (parNo q p key k1 c1' c1'' c2 e).elim
  · intro key g hb
    rcases hblk key g hb with ⟨_, _, b1⟩ | ⟨_, _, _, b1, _⟩
    · exact h.own _ _ b1
    · exact h.own _ _ b1
  · intro key
    cases hk : H.get key with
    | ptr m o =>
      have := hget key (by rw [hk]; simp)
      rw [hk] at this
      cases hg : G.get key with
      | ptr m' o' =>
        rw [hg] at this
        simp only [Bool.and_eq_true] at this
        have h3 := this.2
        simp only [Ment]
        split at h3
        · rename_i e; rw [e]; rfl
        · cases h3
      | _ => rw [hg] at this; simp at this
    | tip i s =>
      have := hget key (by rw [hk]; simp)
      rw [hk] at this
      cases hg : G.get key with
      | tip j s' =>
        rw [hg] at this
        simp only [Bool.and_eq_true] at this
        exact this.2
      | _ => rw [hg] at this; simp at this
    | cl ts =>
      obtain ⟨us, hu, ht⟩ := hcl key ts hk
      exact fun t htm => (ht t htm).2
    | tup ts p =>
      have := hget key (by rw [hk]; simp)
      rw [hk] at this
      simp at this
    | pe k =>
      have := hget key (by rw [hk]; simp)
      rw [hk] at this
      simp at this
    | sus d s =>
      have := hget key (by rw [hk]; simp)
      rw [hk] at this
      simp at this
    | _ => trivial

/-- What is read may be forgotten. -/
theorem Sim.forget {γ : Ga} (h : Sim C D σ γ a w) {σ' : Sg} (h1 : Le σ' σ) : Sim C D σ' γ a w :=
  { h with
    slot := fun t ht => by
      rcases h1 t with e | e
      · rw [e]; exact h.slot t ht
      · exact .inl e
    mem := fun m ts hm => by
      obtain ⟨cs, hv, ht⟩ := h.mem m ts hm
      refine ⟨cs, ?_, ht⟩
      rcases h1 m with e | e
      · rw [e]; exact hv
      · rw [e]
        obtain ⟨elem, hh, _, hn⟩ := hv
        exact ⟨elem, hh, .inl rfl, hn⟩
    ps := fun key s hs => by
      obtain ⟨e1, e2⟩ := h.ps key s hs
      rcases h1 key with e | e
      · rw [e]; exact ⟨e1, e2⟩
      · rw [e]; exact ⟨e1, e2.1, .inl rfl⟩ }

theorem head_eq {σ : Sg} : ∀ {keep : List Nat} {vals : List AV}, Agr σ keep vals → ∀ k, head keep vals k = if k ∈ keep then σ k else .dead
  | [], [], _, k => rfl
  | j :: ks, v :: vs, h, k => by
    have ih := head_eq h.2 k
    simp only [head] at ih
    simp only [head, Eng.updL, upd, List.mem_cons]
    by_cases e : k = j
    · subst e
      simp [h.1]
    · simp only [e, if_false, false_or]
      exact ih
  | [], _ :: _, h, _ => h.elim
  | _ :: _, [], h, _ => h.elim

/-- The exit that a number stands for. -/
def toEx (i : Nat) : Exit := if i < 1000000 then .exit i else .goto (i - 1000000)
theorem toEx_lt {i : Nat} (h : i < 1000000) : toEx i = .exit i := if_pos h
theorem toEx_gid (l : Nat) : toEx (gid l) = .goto l := by
  have h : ¬ gid l < 1000000 := by unfold gid; omega
  unfold toEx
  rw [if_neg h]
  have : gid l - 1000000 = l := by unfold gid; exact Nat.add_sub_cancel_left ..
  rw [this]
theorem toEx_goto {i l : Nat} (h : toEx i = .goto l) : i = gid l := by
  unfold toEx at h
  split at h
  · cases h
  · have e : i - 1000000 = l := Exit.goto.inj h
    unfold gid
    omega
theorem toEx_then {i : Nat} {n : Act → World → Prop} {Q : Exit → Act → World → Prop} {a : Act} {w : World} (h : Q (toEx i) a w) : Exit.then n Q (toEx i) a w := by
  unfold toEx at h ⊢
  split at h
  · rename_i e; rw [if_pos e]; exact h
  · rename_i e; rw [if_neg e]; exact h
theorem toEx_cases (i : Nat) : (∃ l, i = gid l ∧ toEx i = .goto l) ∨ (i < 1000000 ∧ toEx i = .exit i) := by
  by_cases h : i < 1000000
  · exact .inr ⟨h, toEx_lt h⟩
  · refine .inl ⟨i - 1000000, ?_, if_neg h⟩
    unfold gid; omega
theorem gid_inj {a b : Nat} (h : gid a = gid b) : a = b := by unfold gid at h; omega

section
variable {P : Program} {a : Act} {w : World} {Q : Exit → Act → World → Prop}
/-- Wherever a goto leads within a scope: 'Inv' holds there, and either the rank falls or it stays and the measure falls. -/
theorem wp_scope_many {c : Code} {ι : Type} (lb rk mu : ι → Nat) (Inv : ι → Act → World → Prop)
    (first : c.wp P (fun e a w => match e with | .goto l => ∃ i, lb i = l ∧ Inv i a w | e => Q e a w) a w)
    (pass : ∀ i a w, Inv i a w → ∃ rest, findLabel c (lb i) = some rest ∧ rest.wp P (fun e a' w' => match e with | .goto l => ∃ j, lb j = l ∧ Inv j a' w' ∧ (rk j < rk i ∨ rk j = rk i ∧ mu j < mu i) | e => Q e a' w') a w) :
    (Code.scope c).wp P Q a w := by
  intro b k cs
  have key : ∀ m n i a w, rk i = m → mu i = n → Inv i a w → ∀ rest, findLabel c (lb i) = some rest → ∃ e a' w', Q e a' w' ∧ Arrives P (lone (b.at a (.code rest :: .inScope c :: k)) cs w) b k cs e a' w' := by
    intro m
    induction m using Nat.strongRecOn with
    | _ m ihm =>
      intro n
      induction n using Nat.strongRecOn with
      | _ n ih =>
        intro i a w hm hn hI rest hf
        obtain ⟨rest', hf', hp⟩ := pass i a w hI
        rw [hf] at hf'
        cases hf'
        obtain ⟨e, a₁, w₁, hq, harr⟩ := hp b (.inScope c :: k) cs
        cases e with
        | normal => exact ⟨.normal, a₁, w₁, hq, Steps.trans harr (.one step_inScope)⟩
        | exit id => exact ⟨.exit id, a₁, w₁, hq, fun k' hk => harr k' (by simp [exitTo, hk])⟩
        | goto l' =>
          obtain ⟨j, rfl, hJ, hlt⟩ := hq
          obtain ⟨rest2, hf2, _⟩ := pass j a₁ w₁ hJ
          have hg : gotoIn (lb j) (.inScope c :: k) = some (.code rest2 :: .inScope c :: k) := by simp [gotoIn, hf2]
          have : ∃ e a' w', Q e a' w' ∧ Arrives P (lone (b.at a₁ (.code rest2 :: .inScope c :: k)) cs w₁) b k cs e a' w' := by
            rcases hlt with hlt | ⟨he, hlt⟩
            · exact ihm (rk j) (by omega) (mu j) j a₁ w₁ rfl rfl hJ rest2 hf2
            · exact ih (mu j) (by omega) j a₁ w₁ (by omega) rfl hJ rest2 hf2
          obtain ⟨e₂, a₂, w₂, hq₂, harr₂⟩ := this
          exact ⟨e₂, a₂, w₂, hq₂, .of_steps (harr _ hg) harr₂⟩
        | ret => exact ⟨_, a₁, w₁, hq, harr⟩
        | panic ch => exact ⟨_, a₁, w₁, hq, harr⟩
        | outgrown => exact ⟨_, a₁, w₁, hq, harr⟩
  obtain ⟨e, a₁, w₁, hq, harr⟩ := first b (.inScope c :: k) cs
  cases e with
  | normal => exact ⟨.normal, a₁, w₁, hq, .head step_scope (Steps.trans harr (.one step_inScope))⟩
  | exit id => exact ⟨.exit id, a₁, w₁, hq, fun k' hk => .head step_scope (harr k' (by simp [exitTo, hk]))⟩
  | goto l' =>
    obtain ⟨j, rfl, hJ⟩ := hq
    obtain ⟨rest2, hf2, _⟩ := pass j a₁ w₁ hJ
    have hg : gotoIn (lb j) (.inScope c :: k) = some (.code rest2 :: .inScope c :: k) := by simp [gotoIn, hf2]
    obtain ⟨e₂, a₂, w₂, hq₂, harr₂⟩ := key _ _ j a₁ w₁ rfl rfl hJ rest2 hf2
    exact ⟨e₂, a₂, w₂, hq₂, .of_steps (.head step_scope (harr _ hg)) harr₂⟩
  | ret => exact ⟨_, a₁, w₁, hq, .of_steps (.one step_scope) harr⟩
  | panic ch => exact ⟨_, a₁, w₁, hq, .of_steps (.one step_scope) harr⟩
  | outgrown => exact ⟨_, a₁, w₁, hq, .of_steps (.one step_scope) harr⟩
end

structure PostOK (C : Ctx) (rt : GL → Bool) (n : Option GL) (ex : List (Nat × GL)) (Qm : MX → Sg → Prop) (Q : Exit → Act → World → Prop) : Prop where
  nrm : ∀ G' D' σ' a' w', n = some G' → Qm .normal σ' → Sim C D' σ' G'.get a' w' → Q .normal a' w'
  exi : ∀ i G' D' σ' a' w', (i, G') ∈ ex → Qm (.exit i) σ' → Sim C D' σ' G'.get a' w' → Q (toEx i) a' w'
  ret : ∀ G' D' σ' a' w', rt G' = true → Qm .ret σ' → Sim C D' σ' G'.get a' w' → Q .ret a' w'

/-- In a scope: what holds at its labels. -/
def ScopeOK (P : Program) (c : Code) (Q : Exit → Act → World → Prop) (a : Act) (w : World) : Prop :=
  ∃ (ι : Type) (lb rk mu : ι → Nat) (Inv : ι → Act → World → Prop),
    c.wp P (fun e a w => match e with | .goto l => (∃ i, lb i = l ∧ Inv i a w) ∨ Q (.goto l) a w | e => Q e a w) a w ∧
    ∀ i a w, Inv i a w → ∃ rest, findLabel c (lb i) = some rest ∧
      rest.wp P (fun e a' w' => match e with | .goto l => (∃ j, lb j = l ∧ Inv j a' w' ∧ (rk j < rk i ∨ rk j = rk i ∧ mu j < mu i)) ∨ Q (.goto l) a' w' | e => Q e a' w') a w

variable {sg : Nat → FSig}

theorem chk_ok' (hE : ∀ f, SpecOK C.P C.E.gl f (C.E.fs f) ∧ (C.E.fs f).sg = sg f) {rt : GL → Bool} : ∀ (m : M),
    (∀ {c : Code} {G : GL} {r : Option GL × List (Nat × GL)} {D : Dyn} {σ : Sg} {a : Act} {w : World} {Qm : MX → Sg → Prop} {Q : Exit → Act → World → Prop},
      chk C.P sg C.nt rt c m G = some r → Sim C D σ G.get a w → wpm C.E m Qm σ → PostOK C rt r.1 r.2 Qm Q → c.wp C.P Q a w) ∧
    (∀ {c : Code} {G : GL} {r : Option GL × List (Nat × GL)} {D : Dyn} {σ : Sg} {a : Act} {w : World} {Qm : MX → Sg → Prop} {Q : Exit → Act → World → Prop},
      chkS C.P sg C.nt rt c m G = some r → Sim C D σ G.get a w → wpm C.E m Qm σ → PostOK C rt r.1 r.2 Qm Q → ScopeOK C.P c Q a w) := by
  intro m
  induction m with
  | skip =>
    refine ⟨?_, fun hc => by simp only [chkS, reduceCtorEq] at hc⟩
    intro c G r D σ a w Qm Q hc h hm hp
    cases c <;> simp only [chk, reduceCtorEq, Option.some.injEq] at hc
    · subst hc
      exact wp_skip (hp.nrm _ _ _ _ _ rfl hm h)
    · subst hc
      exact wp_label (hp.nrm _ _ _ _ _ rfl hm h)
  | reg ms =>
    refine ⟨?_, fun hc => by simp only [chkS, reduceCtorEq] at hc⟩
    intro c G r D σ a w Qm Q hc h hm hp
    cases c <;> simp only [chk, reduceCtorEq] at hc
    rw [Option.ite_none_right_eq_some] at hc
    obtain ⟨h1, h2⟩ := hc
    rw [Option.map_eq_some_iff] at h2
    obtain ⟨G', hg, rfl⟩ := h2
    obtain ⟨σ', hs, hq⟩ := hm
    exact region_ok hE h1 hg h hs fun D' a' w' h' => hp.nrm _ _ _ _ _ rfl hq h'
  | seq x y ihx ihy =>
    refine ⟨?_, fun hc => by simp only [chkS, reduceCtorEq] at hc⟩
    intro c G r D σ a w Qm Q hc h hm hp
    cases c <;> simp only [chk, reduceCtorEq] at hc
    rw [Option.bind_eq_some_iff] at hc
    obtain ⟨⟨n1, e1⟩, h1, h2⟩ := hc
    refine wp_seq (ihx.1 h1 h hm ?_)
    cases n1 with
    | none =>
      simp only [Option.some.injEq] at h2
      subst h2
      exact { nrm := fun _ _ _ _ _ e => (by cases e), exi := fun i G' D' σ' a' w' hi hq h' => toEx_then (hp.exi i G' D' σ' a' w' hi hq h'), ret := fun G' D' σ' a' w' hi hq h' => hp.ret G' D' σ' a' w' hi hq h' }
    | some G1 =>
      simp only [Option.map_eq_some_iff] at h2
      obtain ⟨q, hq, rfl⟩ := h2
      refine { nrm := fun G' D' σ' a' w' e hm' h' => ?_, exi := fun i G' D' σ' a' w' hi hq h' => toEx_then (hp.exi i G' D' σ' a' w' (List.mem_append_left _ hi) hq h'), ret := fun G' D' σ' a' w' hi hq h' => hp.ret G' D' σ' a' w' hi hq h' }
      cases e
      obtain ⟨σ2, hle, hm'⟩ := hm'
      exact ihy.1 hq (h'.forget hle) hm' { nrm := hp.nrm, exi := fun i G' D' σ' a' w' hi hq h' => hp.exi i G' D' σ' a' w' (List.mem_append_right _ hi) hq h', ret := hp.ret }
  | cond x J y z ihy ihz =>
    refine ⟨?_, fun hc => by simp only [chkS, reduceCtorEq] at hc⟩
    intro c G r D σ a w Qm Q hc h hm hp
    cases c <;> simp only [chk, reduceCtorEq] at hc
    rename_i cx ca cb
    rw [Option.ite_none_right_eq_some] at hc
    obtain ⟨h1, h2⟩ := hc
    simp only [Bool.and_eq_true] at h1
    rw [Option.bind_eq_some_iff] at h2
    obtain ⟨⟨n1, e1⟩, hr1, h2⟩ := h2
    rw [Option.bind_eq_some_iff] at h2
    obtain ⟨⟨n2, e2⟩, hr2, h2⟩ := h2
    obtain ⟨t, ht, m1, m2⟩ := hm
    have hev : a.eval cx = .bool t := by
      have h0 := h.opd h1.1 h1.2
      rw [ht] at h0
      rcases h0 with e | ⟨e, _⟩
      · cases e
      · generalize a.eval cx = v at e ⊢
        cases e
        rfl
    have key : (∀ D' σ' a' w' G', n1 = some G' → Qm .normal σ' → Sim C D' σ' G'.get a' w' → Q .normal a' w') ∧ (∀ D' σ' a' w' G', n2 = some G' → Qm .normal σ' → Sim C D' σ' G'.get a' w' → Q .normal a' w') ∧ r.2 = e1 ++ e2 := by
      cases n1 with
      | none =>
        simp only [Option.some.injEq] at h2
        subst h2
        exact ⟨fun _ _ _ _ _ e => (by cases e), fun D' σ' a' w' G' e hq h' => hp.nrm G' D' σ' a' w' e hq h', rfl⟩
      | some A =>
        cases n2 with
        | none =>
          simp only [Option.some.injEq] at h2
          subst h2
          exact ⟨fun D' σ' a' w' G' e hq h' => hp.nrm G' D' σ' a' w' e hq h', fun _ _ _ _ _ e => (by cases e), rfl⟩
        | some B =>
          simp only at h2
          rw [Option.ite_none_right_eq_some] at h2
          obtain ⟨h3, h4⟩ := h2
          simp only [Bool.and_eq_true] at h3
          simp only [Option.some.injEq] at h4
          subst h4
          refine ⟨fun D' σ' a' w' G' e hq h' => ?_, fun D' σ' a' w' G' e hq h' => ?_, rfl⟩
          · cases e
            obtain ⟨D'', h''⟩ := h'.weaken h3.1
            exact hp.nrm _ _ _ _ _ rfl hq h''
          · cases e
            obtain ⟨D'', h''⟩ := h'.weaken h3.2
            exact hp.nrm _ _ _ _ _ rfl hq h''
    obtain ⟨k1, k2, k3⟩ := key
    refine wp_cond_split hev (fun e => ?_) (fun e => ?_)
    · exact ihy.1 hr1 h (m1 e) { nrm := fun G' D' σ' a' w' e => k1 D' σ' a' w' G' e, exi := fun i G' D' σ' a' w' hi hq h' => hp.exi i G' D' σ' a' w' (by rw [k3]; exact List.mem_append_left _ hi) hq h', ret := hp.ret }
    · exact ihz.1 hr2 h (m2 e) { nrm := fun G' D' σ' a' w' e => k2 D' σ' a' w' G' e, exi := fun i G' D' σ' a' w' hi hq h' => hp.exi i G' D' σ' a' w' (by rw [k3]; exact List.mem_append_right _ hi) hq h', ret := hp.ret }
  | block id J y ih =>
    refine ⟨?_, fun hc => by simp only [chkS, reduceCtorEq] at hc⟩
    intro c G r D σ a w Qm Q hc h hm hp
    cases c <;> simp only [chk, reduceCtorEq] at hc
    rename_i i b
    rw [Option.ite_none_right_eq_some] at hc
    obtain ⟨⟨rfl, hid⟩, h2⟩ := hc
    rw [Option.bind_eq_some_iff] at h2
    obtain ⟨⟨n1, e1⟩, hr1, h2⟩ := h2
    rw [Option.ite_none_right_eq_some] at h2
    obtain ⟨hall, h2⟩ := h2
    simp only [Option.some.injEq] at h2
    subst h2
    have hend : ∀ G' D' σ' a' w', G' ∈ n1.toList ++ (e1.filter (·.1 == i)).map (·.2) → Qm .normal σ' → Sim C D' σ' G'.get a' w' → Q .normal a' w' := by
      intro G' D' σ' a' w' hG hq h'
      obtain ⟨D'', h''⟩ := h'.weaken (List.all_eq_true.1 hall _ hG)
      refine hp.nrm J D'' σ' a' w' ?_ hq h''
      cases n1 with
      | some x => simp
      | none =>
        have : (e1.filter (·.1 == i)).isEmpty = false := by
          cases hf : e1.filter (·.1 == i) with
          | nil => rw [hf] at hG; simp at hG
          | cons _ _ => rfl
        simp only [this, Bool.and_false]
        rfl
    refine wp_block (ih.1 hr1 h hm { nrm := fun G' D' σ' a' w' e hq h' => ?_, exi := fun j G' D' σ' a' w' hi hq h' => ?_, ret := fun G' D' σ' a' w' hi hq h' => hp.ret G' D' σ' a' w' hi hq h' })
    · exact hend G' D' σ' a' w' (List.mem_append_left _ (by simp at e; simp [e])) hq h'
    · simp only at hq hi
      by_cases e : j = i
      · subst e
        rw [if_pos rfl] at hq
        rw [toEx_lt hid]
        simp only [Exit.inBlock, if_true]
        exact hend G' D' σ' a' w' (List.mem_append_right _ (List.mem_map.2 ⟨_, List.mem_filter.2 ⟨hi, by simp⟩, rfl⟩)) hq h'
      · rw [if_neg e] at hq
        have := hp.exi j G' D' σ' a' w' (List.mem_filter.2 ⟨hi, by simpa using e⟩) hq h'
        rcases toEx_cases j with ⟨l, _, e2⟩ | ⟨_, e2⟩
        · rw [e2] at this ⊢; exact this
        · rw [e2] at this ⊢
          simp only [Exit.inBlock]
          rw [if_neg e]; exact this
  | loop keep J y ih =>
    refine ⟨?_, fun hc => by simp only [chkS, reduceCtorEq] at hc⟩
    intro c G r D σ a w Qm Q hc h hm hp
    cases c <;> simp only [chk, reduceCtorEq] at hc
    rename_i b
    rw [Option.ite_none_right_eq_some] at hc
    obtain ⟨h1, h2⟩ := hc
    simp only [Bool.and_eq_true] at h1
    obtain ⟨⟨hrf, hkeep⟩, _⟩ := h1
    rw [Option.bind_eq_some_iff] at h2
    obtain ⟨⟨n1, e1⟩, hr1, h2⟩ := h2
    rw [Option.ite_none_right_eq_some] at h2
    obtain ⟨hall, h2⟩ := h2
    simp only [Option.some.injEq] at h2
    subst h2
    obtain ⟨ι, vals, μ, i0, hag, hbody⟩ := hm
    have hhead : ∀ {G' : GL} {D' : Dyn} {σ' : Sg} {a' : Act} {w' : World} {i : ι}, refines G' J = true → Sim C D' σ' G'.get a' w' → Agr σ' keep (vals i) → ∃ D'', Sim C D'' (head keep (vals i)) (GL.get J) a' w' := by
      intro G' D' σ' a' w' i hrf' h' hag'
      obtain ⟨D'', h''⟩ := h'.weaken hrf'
      refine ⟨D'', h''.forget (fun k => ?_)⟩
      rw [head_eq hag' k]
      split
      · exact .inl rfl
      · exact .inr rfl
    refine wp_loop_ghost (fun n a w => ∃ i D, μ i = n ∧ Sim C D (head keep (vals i)) (GL.get J) a w) (μ i0) ?_ ?_
    · obtain ⟨D'', h''⟩ := hhead hrf h hag
      exact ⟨i0, D'', rfl, h''⟩
    · rintro n a1 w1 ⟨i, D1, rfl, hs⟩
      refine ih.1 hr1 hs (hbody i) { nrm := fun G' D' σ' a' w' e hq h' => ?_, exi := fun j G' D' σ' a' w' hi hq h' => toEx_then (hp.exi j G' D' σ' a' w' hi hq h'), ret := fun G' D' σ' a' w' hi hq h' => hp.ret G' D' σ' a' w' hi hq h' }
      simp only at e
      subst e
      simp only [Option.all_some] at hall
      obtain ⟨j, hlt, hag'⟩ := hq
      obtain ⟨D'', h''⟩ := hhead hall h' hag'
      exact ⟨μ j, hlt, j, D'', rfl, h''⟩
  | exit id =>
    refine ⟨?_, fun hc => by simp only [chkS, reduceCtorEq] at hc⟩
    intro c G r D σ a w Qm Q hc h hm hp
    cases c <;> simp only [chk, reduceCtorEq] at hc
    · rw [Option.ite_none_right_eq_some] at hc
      obtain ⟨⟨rfl, hid⟩, h2⟩ := hc
      simp only [Option.some.injEq] at h2
      subst h2
      exact wp_exit (by have := hp.exi _ _ _ _ _ _ (List.mem_singleton.2 rfl) hm h; rwa [toEx_lt hid] at this)
    · rw [Option.ite_none_right_eq_some] at hc
      obtain ⟨rfl, h2⟩ := hc
      simp only [Option.some.injEq] at h2
      subst h2
      exact wp_goto (by have := hp.exi _ _ _ _ _ _ (List.mem_singleton.2 rfl) hm h; rwa [toEx_gid] at this)
  | ret =>
    refine ⟨?_, fun hc => by simp only [chkS, reduceCtorEq] at hc⟩
    intro c G r D σ a w Qm Q hc h hm hp
    cases c <;> simp only [chk, reduceCtorEq] at hc
    rw [Option.ite_none_right_eq_some] at hc
    obtain ⟨h1, h2⟩ := hc
    exact wp_ret (hp.ret _ _ _ _ _ h1 hm h)
  | sco x ih =>
    refine ⟨?_, fun hc => by simp only [chkS, reduceCtorEq] at hc⟩
    intro c G r D σ a w Qm Q hc h hm hp
    cases c <;> simp only [chk, reduceCtorEq] at hc
    rename_i c
    rw [Option.bind_eq_some_iff] at hc
    obtain ⟨r', h1, h2⟩ := hc
    rw [Option.ite_none_right_eq_some] at h2
    obtain ⟨hall, h2⟩ := h2
    cases h2
    obtain ⟨ι, lb, rk, mu, Inv, h3, h4⟩ := ih.2 (Q := fun e a w => match e with | .goto _ => False | e => Q e a w) h1 h hm
      { nrm := fun G' D' σ' a' w' e hq h' => hp.nrm G' D' σ' a' w' e hq h', ret := fun G' D' σ' a' w' e hq h' => hp.ret G' D' σ' a' w' e hq h',
        exi := fun i G' D' σ' a' w' hi hq h' => by
          have hlt : i < 1000000 := by simpa using List.all_eq_true.1 hall _ hi
          have := hp.exi i G' D' σ' a' w' hi hq h'
          rw [toEx_lt hlt] at this ⊢
          exact this }
    refine wp_scope_many lb rk mu Inv (wp_mono h3 fun e a w q => ?_) fun i a w hI => ?_
    · cases e <;> first | exact q | exact q.resolve_right id
    · obtain ⟨rest, e1, e2⟩ := h4 i a w hI
      refine ⟨rest, e1, wp_mono e2 fun e a w q => ?_⟩
      cases e <;> first | exact q | exact q.resolve_right id
  | scp x ih =>
    refine ⟨fun hc => by rename_i c _ _ _ _ _ _ _ _; cases c <;> simp only [chk, reduceCtorEq] at hc, ?_⟩
    intro c G r D σ a w Qm Q hc h hm hp
    simp only [chkS] at hc
    refine ⟨Empty, Empty.elim, Empty.elim, Empty.elim, fun i => i.elim, wp_mono (ih.1 hc h hm hp) fun e a w q => ?_, fun i => i.elim⟩
    cases e <;> first | exact q | exact .inr q
  | lab l keep J x y ihx ihy =>
    refine ⟨fun hc => by rename_i c _ _ _ _ _ _ _ _; cases c <;> simp only [chk, reduceCtorEq] at hc, ?_⟩
    intro c G r D σ a w Qm Q hc h hm hp
    simp only [chkS] at hc
    split at hc
    · rename_i rest hfl
      rw [Option.bind_eq_some_iff] at hc
      obtain ⟨⟨n1, e1⟩, hr1, hc⟩ := hc
      rw [Option.bind_eq_some_iff] at hc
      obtain ⟨⟨n2, e2⟩, hr2, hc⟩ := hc
      rw [Option.ite_none_right_eq_some] at hc
      obtain ⟨hcond, hc⟩ := hc
      simp only [Option.some.injEq] at hc
      subst hc
      simp only [Bool.and_eq_true] at hcond
      obtain ⟨hall, hnn⟩ := hcond
      obtain ⟨ι0, vals, μ, hb, hr⟩ := hm
      let Inv0 : ι0 → Act → World → Prop := fun i a w => ∃ D', Sim C D' (head keep (vals i)) (GL.get J) a w
      have hhead : ∀ {G' : GL} {D' : Dyn} {σ' : Sg} {a' : Act} {w' : World} {i : ι0}, (gid l, G') ∈ e1 ++ e2 → Sim C D' σ' G'.get a' w' → Agr σ' keep (vals i) → Inv0 i a' w' := by
        intro G' D' σ' a' w' i hi h' hag'
        obtain ⟨D'', h''⟩ := h'.weaken (List.all_eq_true.1 hall _ (List.mem_filter.2 ⟨hi, by simp⟩))
        refine ⟨D'', h''.forget (fun k => ?_)⟩
        rw [head_eq hag' k]
        split
        · exact .inl rfl
        · exact .inr rfl
      have hn1 : ∀ G', n1 = some G' → (if n1.isNone then n2 else n1) = some G' := by rintro G' rfl; rfl
      have hn2 : ∀ G', n2 = some G' → (if n1.isNone then n2 else n1) = some G' := by
        rintro G' rfl
        simp at hnn
        simp [hnn]
      obtain ⟨ι1, lb, rk, mu, Inv, h3, h4⟩ := ihy.2 (Q := fun e a w => match e with | .goto l' => if l' = l then ∃ i, Inv0 i a w else Q (.goto l') a w | e => Q e a w) hr2 h hb
        { nrm := fun G' D' σ' a' w' e hq h' => hp.nrm G' D' σ' a' w' (hn2 G' e) hq h', ret := fun G' D' σ' a' w' e hq h' => hp.ret G' D' σ' a' w' e hq h',
          exi := fun i G' D' σ' a' w' hi hq h' => by
            simp only at hq
            by_cases e : i = gid l
            · subst e
              rw [if_pos rfl] at hq
              obtain ⟨j, hj⟩ := hq
              rw [toEx_gid]
              simp only [if_true]
              exact ⟨j, hhead (List.mem_append_right _ hi) h' hj⟩
            · rw [if_neg e] at hq
              have := hp.exi i G' D' σ' a' w' (List.mem_filter.2 ⟨List.mem_append_right _ hi, by simpa using e⟩) hq h'
              rcases toEx_cases i with ⟨l', rfl, e2⟩ | ⟨_, e2⟩
              · rw [e2] at this ⊢
                have hne : l' ≠ l := fun h => e (by rw [h])
                simp only [hne, if_false]; exact this
              · rw [e2] at this ⊢; exact this }
      refine ⟨ι1 ⊕ ι0, Sum.elim lb (fun _ => l), Sum.elim (fun i => rk i + 1) (fun _ => 0), Sum.elim mu μ, Sum.elim Inv Inv0, wp_mono h3 fun e a w q => ?_, ?_⟩
      · cases e <;> first | exact q | skip
        rename_i l'
        rcases q with ⟨i, q1, q2⟩ | q
        · exact .inl ⟨.inl i, q1, q2⟩
        · simp only at q
          by_cases e : l' = l
          · rw [if_pos e] at q
            obtain ⟨i, q⟩ := q
            exact .inl ⟨.inr i, e.symm, q⟩
          · rw [if_neg e] at q
            exact .inr q
      · rintro (i | i) a w hI
        · obtain ⟨rest', f1, f2⟩ := h4 i a w hI
          refine ⟨rest', f1, wp_mono f2 fun e a w q => ?_⟩
          cases e <;> first | exact q | skip
          rename_i l'
          rcases q with ⟨j, q1, q2, q3⟩ | q
          · exact .inl ⟨.inl j, q1, q2, by simp only [Sum.elim_inl]; omega⟩
          · simp only at q
            by_cases e : l' = l
            · rw [if_pos e] at q
              obtain ⟨j, q⟩ := q
              exact .inl ⟨.inr j, e.symm, q, .inl (by simp only [Sum.elim_inl, Sum.elim_inr]; omega)⟩
            · rw [if_neg e] at q
              exact .inr q
        · obtain ⟨D', hs⟩ := hI
          refine ⟨rest, hfl, ihx.1 hr1 hs (hr i) { nrm := fun G' D' σ' a' w' e hq h' => hp.nrm G' D' σ' a' w' (hn1 G' e) hq h', ret := fun G' D' σ' a' w' e hq h' => hp.ret G' D' σ' a' w' e hq h', exi := fun j G' D' σ' a' w' hi hq h' => ?_ }⟩
          simp only at hq
          by_cases e : j = gid l
          · subst e
            rw [if_pos rfl] at hq
            obtain ⟨k, hk, hag⟩ := hq
            rw [toEx_gid]
            exact .inl ⟨.inr k, rfl, hhead (List.mem_append_left _ hi) h' hag, .inr ⟨rfl, hk⟩⟩
          · rw [if_neg e] at hq
            have := hp.exi j G' D' σ' a' w' (List.mem_filter.2 ⟨List.mem_append_left _ hi, by simpa using e⟩) hq h'
            rcases toEx_cases j with ⟨l', rfl, e2⟩ | ⟨_, e2⟩
            · rw [e2] at this ⊢; exact .inr this
            · rw [e2] at this ⊢; exact this
    · cases hc

theorem chk_ok (hE : ∀ f, SpecOK C.P C.E.gl f (C.E.fs f) ∧ (C.E.fs f).sg = sg f) {rt : GL → Bool} (m : M) {c : Code} {G : GL} {r : Option GL × List (Nat × GL)} {D : Dyn} {σ : Sg} {a : Act} {w : World} {Qm : MX → Sg → Prop} {Q : Exit → Act → World → Prop}
    (hc : chk C.P sg C.nt rt c m G = some r) (h : Sim C D σ G.get a w) (hm : wpm C.E m Qm σ) (hp : PostOK C rt r.1 r.2 Qm Q) : c.wp C.P Q a w := (chk_ok' hE m).1 hc h hm hp
end
end Go.Eng
