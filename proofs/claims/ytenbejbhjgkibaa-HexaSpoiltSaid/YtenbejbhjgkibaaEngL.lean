/- A call: what it is for the caller. -/
import Derived.Test.YtenbejbhjgkibaaEngK
set_option linter.unusedVariables false
set_option linter.unusedSimpArgs false
namespace Go.Eng
open Go.RowKit

theorem zipW_get {L : List (Nat × (Nat × Nat))} {vs : List Value} {p : Nat} {t : Nat × (Nat × Value)} (h : (List.zipWith (fun t v => (t.2.1, (t.2.2, v))) L vs)[p]? = some t) :
    ∃ q v, L[p]? = some q ∧ vs[p]? = some v ∧ t = (q.2.1, (q.2.2, v)) := by
  rw [List.getElem?_zipWith] at h
  cases h1 : L[p]? with
  | none => simp [h1] at h
  | some q =>
    cases h2 : vs[p]? with
    | none => simp [h1, h2] at h
    | some v => simp [h1, h2] at h; exact ⟨q, v, rfl, rfl, h.symm⟩
theorem zipW_map {β : Type} (f : Nat × Nat → β) : ∀ {L : List (Nat × (Nat × Nat))} {vs : List Value}, L.length = vs.length →
    (List.zipWith (fun t v => (t.2.1, (t.2.2, v))) L vs).map (fun t => f (t.1, t.2.1)) = L.map fun t => f (t.2.1, t.2.2)
  | [], [], _ => rfl
  | q :: L, v :: vs, h => by
    simp only [List.zipWith_cons_cons, List.map_cons]
    rw [zipW_map f (by simpa using h)]
  | [], _ :: _, h => by simp at h
  | _ :: _, [], h => by simp at h

theorem cut3_get {L : List (Nat × (Nat × Nat))} {p : Nat} {q : Nat × (Nat × Nat)} (h : L[p]? = some q) : (cut3 L)[p]? = some (q.1, q.2.2) := by simp [cut3, h]

section
variable {C : Ctx} {D : Dyn} {σ : Sg} {γ : Ga} {a : Act} {w : World}
variable {o : Oper} {d : Nat} {K : Act → World → Prop} {Q : Exit → Act → World → Prop}

/-- The run of a call of a plain function: by what is asked of it. -/
theorem call_run {f : Nat} {args : Array Operand} {ts : Array TypeId} (ho : o.op = .call { callee := .value (.func f), args, argTypes := ts }) (hp : plainFn C.P f = true) : (execOp a.eval o).run C.P w = .ok (.enter f (args.map a.eval)) w := by
  unfold plainFn at hp
  cases hf : C.P.funcs[f]? with
  | none => simp [hf] at hp
  | some fn =>
    simp only [hf, Option.any_some, Bool.and_eq_true, Bool.not_eq_true', beq_eq_false_iff_ne, ne_eq] at hp
    obtain ⟨h1, h2⟩ := hp
    have h1' : fn.body.isNone = false := by cases hb : fn.body <;> simp [hb] at h1 ⊢
    have he : a.eval (.func f) = .func (.func f) #[] #[] := rfl
    simp [execOp, ho, resolve, Deferred.ofValue, he, invoke, callFunc, hf]
    rw [if_neg h2, if_neg (by intro e; rw [e] at h1; cases h1)]

theorem Sim.callOp (h : Sim C D σ γ a w) (hd : o.dst = some d) {f : Nat} {args : Array Operand} {ts : Array TypeId} (ho : o.op = .call { callee := .value (.func f), args, argTypes := ts }) (hp : plainFn C.P f = true)
    {S : FS} (hS : SpecOK C.P C.E.gl f S) {ins outs : List AV} (hG : S.G ins outs) (hA : ArgsOK S.sg D.R w ins (args.toList.map a.eval))
    (hK : ∀ x R' w', Ext w D.R (ioOf S.sg w (args.toList.map a.eval)) w' R' → (∀ b o, R' b o → b < w'.heap.size) →
      OutOK S.sg R' w' (fun b => ioOf S.sg w (args.toList.map a.eval) b ∨ w.heap.size ≤ b) (args.toList.map a.eval) outs x → K (a.put (some d) x) w') : o.wp C.P a w K Q := by
  unfold Oper.wp
  rw [call_run ho hp, Oper.upon_enter]
  have := hS w D.R ins outs (args.toList.map a.eval) hG h.rlt h.gl hA
  have e : (⟨args.toList.map a.eval⟩ : Array Value) = args.map a.eval := by apply Array.ext'; simp
  rw [e] at this
  refine this.mono ?_
  rintro e w' ⟨x, R', rfl, h1, h2, h3⟩
  simp only
  rw [hd]
  exact hK x R' w' h1 h2 h3

theorem CS.dg_flat (c : CS) : c.dg.isCl = false ∧ c.dg.isLk = false := by
  unfold CS.dg
  repeat' split
  all_goals exact ⟨rfl, rfl⟩

theorem CS.dg_ment {c : CS} (h1 : ∀ t ∈ c.own, (γ (lk t.2.1)).isLk = true) (h2 : ∀ q, c.new = some q → (γ q.2).isCl = true) : Ment γ c.dg := by
  unfold CS.dg
  split
  · split
    · rename_i hn; exact h2 _ hn
    · rename_i ho; exact h1 _ (by rw [ho]; exact List.mem_singleton.2 rfl)
    · trivial
  · exact ⟨h1, h2⟩

theorem CS.dg_ok {c : CS} {rvs : List Value} {x : Value} (hl : rvs.length = c.nres) (hx : x = if c.nres = 1 then rvs.headD undef else .tuple ⟨rvs⟩)
    (h1 : ∀ t ∈ c.own, rvs[t.1]? = some (D.τ (lk t.2.1)) ∧ (D.τ (lk t.2.1)).oneCell' = true) (h2 : ∀ q, c.new = some q → rvs[q.1]? = some (.pointer (some ⟨D.β q.2, 0, none⟩))) : GhOK D c.dg x := by
  unfold CS.dg
  split
  · rename_i e
    rw [if_pos e] at hx
    rw [e] at hl
    match rvs, hl with
    | [y], _ =>
      simp at hx; subst hx
      cases hn : c.new with
      | some q =>
        obtain ⟨j, m⟩ := q
        have := h2 _ hn
        have hj : j = 0 := by
          have := (List.getElem?_eq_some_iff.1 this).1
          simp at this; exact this
        subst hj
        simpa [GhOK] using this
      | none =>
        split
        · rename_i e; cases e
        · rename_i q k s _ ho
          have := h1 (0, k, s) (by rw [ho]; simp)
          simp at this
          exact ⟨this.1, by rw [this.1]; exact this.2⟩
        · trivial
  · rename_i e
    rw [if_neg e] at hx
    exact ⟨rvs, hx, h1, h2⟩

theorem main_rep {c : CS} {g : FSig} {R : Reach} {w : World} {outs : List AV} {rvs : List Value} {x : Value} (hn : c.nres = g.nres) (hnew : c.new.map (·.1) = g.new) (hl : rvs.length = g.nres) (hx : x = if g.nres = 1 then rvs.headD undef else .tuple ⟨rvs⟩)
    (hj : ∀ q ∈ c.new.toList, q.1 < c.nres) (hT : RepT R w ((outs.take g.nres).mapIdx fun i y => if g.new = some i then .pt else y) rvs) : Rep R w (c.main outs) x := by
  have hfun : (fun (i : Nat) (y : AV) => if g.new = some i then AV.pt else y) = fun i y => if c.new.any (·.1 == i) then .pt else y := by
    funext i y
    rw [← hnew]
    cases c.new with
    | none => simp
    | some q => simp
  rw [hfun] at hT
  unfold CS.main
  rw [hn]
  by_cases e : g.nres = 1
  · rw [if_pos e] at hx ⊢
    rw [e] at hl hT
    match rvs, hl with
    | [y], _ =>
      simp at hx; subst hx
      cases hc : c.new with
      | some q => simp; exact .pt _
      | none =>
        simp only [hc, Option.isSome_none, Bool.false_eq_true, if_false]
        rw [hc] at hT
        cases outs with
        | nil => simp at hT; cases hT
        | cons o1 os =>
          simp at hT
          cases hT with
          | cons h1 _ => simpa using h1
  · rw [if_neg e] at hx ⊢
    subst hx
    exact .tu hT
end
end Go.Eng
