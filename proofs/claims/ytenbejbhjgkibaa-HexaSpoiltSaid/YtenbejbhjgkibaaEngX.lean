/- The small language, stepped through by 'simp'. -/
import Derived.Test.YtenbejbhjgkibaaEngW
set_option linter.unusedVariables false
set_option linter.unusedSimpArgs false
namespace Go.Eng

section
variable {E : Env} {Q : MX → Sg → Prop} {σ : Sg}

theorem wpm_skip : wpm E .skip Q σ = Q .normal σ := rfl
theorem wpm_reg_nil : wpm E (.reg []) Q σ = Q .normal σ := by simp [wpm, runS]
theorem wpm_reg_cons {m : MOp} {ms : List MOp} : wpm E (.reg (m :: ms)) Q σ = ∃ ws, (match guardV σ m.gd with
    | some true => sem E m.k (m.rs.map (Opd.ev E σ)) ws
    | some false => ws = m.ds.map fun _ => .sk
    | none => False) ∧ ws.length = m.ds.length ∧ wpm E (.reg ms) Q (updL σ m.ds ws) := by
  simp only [wpm, runS, stepS, eq_iff_iff]
  constructor
  · rintro ⟨σ', ⟨σ1, ⟨ws, h1, h2, rfl⟩, h3⟩, h4⟩
    exact ⟨ws, h1, h2, σ', h3, h4⟩
  · rintro ⟨ws, h1, h2, σ', h3, h4⟩
    exact ⟨σ', ⟨_, ⟨ws, h1, h2, rfl⟩, h3⟩, h4⟩
theorem wpm_seq {a b : M} : wpm E (.seq a b) Q σ = wpm E a (fun e σ' => match e with | .normal => ∃ σ2, Le σ2 σ' ∧ wpm E b Q σ2 | e => Q e σ') σ := rfl
theorem wpm_cond {x : Opd} {G : List (Nat × Gh)} {a b : M} : wpm E (.cond x G a b) Q σ = ∃ t, x.ev E σ = .v (.bool t) ∧ (t = true → wpm E a Q σ) ∧ (t = false → wpm E b Q σ) := rfl
theorem wpm_block {id : Nat} {G : List (Nat × Gh)} {b : M} : wpm E (.block id G b) Q σ = wpm E b (fun e σ' => match e with | .exit j => if j = id then Q .normal σ' else Q (.exit j) σ' | e => Q e σ') σ := rfl
theorem wpm_exit {id : Nat} : wpm E (.exit id) Q σ = Q (.exit id) σ := rfl
theorem wpm_ret : wpm E .ret Q σ = Q .ret σ := rfl

/-- Where two ways meet again: what both leave. -/
theorem wpm_mono {m : M} {Q' : MX → Sg → Prop} (h : ∀ e σ, Q e σ → Q' e σ) : ∀ {σ : Sg}, wpm E m Q σ → wpm E m Q' σ := by
  induction m generalizing Q Q' with
  | skip => exact fun q => h _ _ q
  | reg ms => exact fun ⟨σ', h1, h2⟩ => ⟨σ', h1, h _ _ h2⟩
  | seq a b iha ihb => exact fun q => iha (fun e σ' q => by cases e <;> first | exact q.elim fun σ2 q => ⟨σ2, q.1, ihb h q.2⟩ | exact h _ _ q) q
  | cond x G a b iha ihb => exact fun ⟨t, h1, h2, h3⟩ => ⟨t, h1, fun e => iha h (h2 e), fun e => ihb h (h3 e)⟩
  | block id G b ih => exact fun q => ih (fun e σ' q => by
      cases e with
      | exit j =>
        simp only at q ⊢
        by_cases e : j = id
        · rw [if_pos e] at q ⊢; exact h _ _ q
        · rw [if_neg e] at q ⊢; exact h _ _ q
      | normal => exact h _ _ q
      | ret => exact h _ _ q) q
  | loop keep G b ih => exact fun ⟨ι, vals, μ, i0, h1, h2⟩ => ⟨ι, vals, μ, i0, h1, fun i => ih (fun e σ' q => by cases e <;> first | exact q | exact h _ _ q) (h2 i)⟩
  | exit id => exact fun q => h _ _ q
  | ret => exact fun q => h _ _ q
  | sco b ih => exact fun q => ih h q
  | scp b ih => exact fun q => ih h q
  | lab l keep G r b ihr ihb => exact fun ⟨ι, vals, μ, h1, h2⟩ => ⟨ι, vals, μ, ihb (fun e σ' q => by
      cases e with
      | exit j =>
        simp only at q ⊢
        by_cases e : j = gid l
        · rw [if_pos e] at q ⊢; exact q
        · rw [if_neg e] at q ⊢; exact h _ _ q
      | normal => exact h _ _ q
      | ret => exact h _ _ q) h1, fun i => ihr (fun e σ' q => by
      cases e with
      | exit j =>
        simp only at q ⊢
        by_cases e : j = gid l
        · rw [if_pos e] at q ⊢; exact q
        · rw [if_neg e] at q ⊢; exact h _ _ q
      | normal => exact h _ _ q
      | ret => exact h _ _ q) (h2 i)⟩
end

theorem ev_s {E : Env} {σ : Sg} (t : Nat) : Opd.ev E σ (.s t) = σ t := rfl
theorem ev_c {E : Env} {σ : Sg} (x : AV) : Opd.ev E σ (.c x) = x := rfl
theorem ev_g {E : Env} {σ : Sg} (n : Nat) : Opd.ev E σ (.g n) = E.gl n := rfl
theorem upd_at {X : Type} (σ : Nat → X) (t k : Nat) (x : X) : upd σ t x k = if k = t then x else σ k := rfl
theorem updL_nil {X : Type} (σ : Nat → X) : updL σ [] [] = σ := rfl
theorem updL_cons {X : Type} (σ : Nat → X) (t : Nat) (ts : List Nat) (x : X) (xs : List X) : updL σ (t :: ts) (x :: xs) = upd (updL σ ts xs) t x := rfl
theorem guardV_none (σ : Sg) : guardV σ none = some true := rfl
theorem guardV_some (σ : Sg) (t : Nat) (b x : Bool) (h : σ t = .v (.bool x)) : guardV σ (some (t, b)) = some (x == b) := by simp [guardV, h]
end Go.Eng
