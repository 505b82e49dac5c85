/- A call: the caller's state behind it. -/
import Derived.Test.YtenbejbhjgkibaaEngL
set_option linter.unusedVariables false
set_option linter.unusedSimpArgs false
namespace Go.Eng
open Go.RowKit

theorem cut3_nil {L : List (Nat × (Nat × Nat))} (h : cut3 L = []) : L = [] := by cases L with | nil => rfl | cons => simp [cut3] at h

section
variable {C : Ctx} {D : Dyn} {σ : Sg} {γ : Ga} {a : Act} {w : World}
variable {o : Oper} {d : Nat} {K : Act → World → Prop} {Q : Exit → Act → World → Prop}

/-- The tips that a call hands back, brought in. -/
theorem Sim.tipsBack (h : Sim C D σ γ a w) {L : List (Nat × (Nat × Nat))} {vs : List Value} (hl : L.length = vs.length) (hno : ∀ t ∈ L, γ (lk t.2.1) = .no) (hnd : (L.map (·.2.1)).Nodup)
    (hT : ∀ (p : Nat) (t : Nat × Nat) (v : Value), (cut3 L)[p]? = some t → vs[p]? = some v → TipOK D.R w v t.2)
    (hown : ∀ v ∈ vs, ∀ g, v.ownBlock = some g → C.mine g ∧ ∀ key, blk D γ key ≠ some g) (hsep : ∀ (p q g : Nat), (vs.map Value.ownBlock)[p]? = some (some g) → (vs.map Value.ownBlock)[q]? = some (some g) → p = q) :
    ∃ D', Sim C D' (updL σ (L.map fun t => lk t.2.1) (L.map fun _ => .dead)) (updL γ (L.map fun t => lk t.2.1) (L.map fun t => .live t.2.2)) a w ∧ D'.R = D.R ∧ D'.β = D.β ∧
      (∀ (p : Nat) (t : Nat × (Nat × Nat)) (v : Value), L[p]? = some t → vs[p]? = some v → D'.τ (lk t.2.1) = v) ∧ (∀ k, (∀ t ∈ L, k ≠ lk t.2.1) → D'.τ k = D.τ k) ∧
      (∀ key g, blk D' (updL γ (L.map fun t => lk t.2.1) (L.map fun t => .live t.2.2)) key = some g → blk D γ key = some g ∨ ∃ v ∈ vs, v.ownBlock = some g) := by
  let T := List.zipWith (fun t v => (t.2.1, (t.2.2, v))) L vs
  have e1 : (T.map fun t => lk t.1) = L.map fun t => lk t.2.1 := zipW_map (fun p => lk p.1) hl
  have e2 : (T.map fun t => Gh.live t.2.1) = L.map fun t => .live t.2.2 := zipW_map (fun p => Gh.live p.2) hl
  have e3 : T.map (·.1) = L.map (·.2.1) := zipW_map (fun p => p.1) hl
  have hmem : ∀ t ∈ T, ∃ (p : Nat) (q : Nat × (Nat × Nat)) (v : Value), T[p]? = some t ∧ L[p]? = some q ∧ vs[p]? = some v ∧ t = (q.2.1, (q.2.2, v)) := fun t ht => by
    obtain ⟨p, hp⟩ := List.getElem?_of_mem ht
    obtain ⟨q, v, h1, h2, h3⟩ := zipW_get hp
    exact ⟨p, q, v, hp, h1, h2, h3⟩
  obtain ⟨D', h1, hR, hβ, hτ, hτ', hb⟩ := h.tips T (fun t ht => by obtain ⟨p, q, v, _, h1, _, rfl⟩ := hmem t ht; exact hno q (List.mem_of_getElem? h1)) (by rw [e3]; exact hnd)
    (fun t ht => by obtain ⟨p, q, v, _, h1, h2, rfl⟩ := hmem t ht; exact hT p (q.1, q.2.2) v (cut3_get h1) h2)
    (fun t ht g hg => by obtain ⟨p, q, v, _, h1, h2, rfl⟩ := hmem t ht; exact hown v (List.mem_of_getElem? h2) g hg)
    (fun i j t u g hi hj ht hu => by
      obtain ⟨q, v, h1, h2, rfl⟩ := zipW_get hi
      obtain ⟨q', v', h1', h2', rfl⟩ := zipW_get hj
      exact hsep i j g (by simp [h2]; exact ht) (by simp [h2']; exact hu))
  rw [e1, e2] at h1 hb
  have h2 := h1.deads (L.map fun t => lk t.2.1) (fun k hk => by
    cases hc : (updL γ (L.map fun t => lk t.2.1) (L.map fun t => Gh.live t.2.2) k).isCl with
    | false => rfl
    | true =>
      have := (h1.rng k hc).2
      obtain ⟨t, _, e⟩ := List.mem_map.1 hk
      have := lk_ge t.2.1
      omega)
  rw [List.map_map] at h2
  refine ⟨D', h2, hR, hβ, fun p t v ht hv => ?_, fun k hk => ?_, fun key g hk => ?_⟩
  · have hp : T[p]? = some (t.2.1, (t.2.2, v)) := by simp only [T]; rw [List.getElem?_zipWith]; simp [ht, hv]
    exact hτ _ (List.mem_of_getElem? hp)
  · exact hτ' k (fun t ht => by obtain ⟨p, q, v, _, h1, _, rfl⟩ := hmem t ht; exact hk q (List.mem_of_getElem? h1))
  · rcases hb key g hk with hk | ⟨t, ht, hg⟩
    · exact .inl hk
    · obtain ⟨p, q, v, _, h1, h2, rfl⟩ := hmem t ht
      exact .inr ⟨v, List.mem_of_getElem? h2, hg⟩

theorem fits_spec {c : CS} {g : FSig} (h : c.fits g = true) : c.ref.map (·.1) = g.ref ∧ cut3 c.tin = g.tips ∧ cut3 c.tout = g.tips ∧ c.nres = g.nres ∧ cut3 c.own = g.own ∧ c.new.map (·.1) = g.new ∧ cut3 c.tnew = g.tnew ∧
    ((c.tin ++ c.tout ++ c.own ++ c.tnew).map (·.2.1)).Nodup ∧ (c.ref = none → c.tin = []) ∧ (c.new = none → c.tnew = []) ∧ (c.ref = none ∨ c.new = none) ∧ (∀ q ∈ c.new.toList, q.1 < c.nres ∧ q.2 < 999999) := by
  unfold CS.fits at h; exact of_decide_eq_true h

theorem nodup_tail {α : Type} : ∀ (A : List α) {B : List α}, (A ++ B).Nodup → B.Nodup := fun A B h => (List.nodup_append.1 h).2.1

variable (h : Sim C D σ γ a w) (hd : o.dst = some d) (hl : d < C.nt)
include h hd hl

/-- A CALL to which no variable is handed. -/
theorem op_callA {f : Nat} {args : Array Operand} {ts : Array TypeId} {c : CS} {rs : List Opd} (ho : o.op = .call { callee := .value (.func f), args, argTypes := ts }) (hp : plainFn C.P f = true)
    {S : FS} (hS : SpecOK C.P C.E.gl f S) (hc : c.fits S.sg = true) (href : c.ref = none) (hx : opdsOK args.toList rs = true) (hsm : small C.nt args.toList = true) {outs : List AV}
    (hG : S.G (rs.map (Opd.ev C.E σ)) outs) (hol : outs.length = c.nres + c.mems.length)
    (hnew : ∀ q, c.new = some q → γ q.2 = .no ∧ C.nt ≤ q.2 ∧ q.2 < 1000000) (hno : ∀ t ∈ c.own ++ c.tnew, γ (lk t.2.1) = .no)
    (hK : ∀ D' a' w', Sim C D' (updL σ (d :: (c.mems ++ c.lks)) (c.main outs :: (outs.drop c.nres ++ c.lks.map fun _ => .dead)))
      (updL γ (d :: (c.mems ++ c.lks)) (c.dg :: (c.new.toList.map (fun _ => .cl c.tnew) ++ c.ref.toList.map (fun _ => .cl c.tout) ++ c.tin.map (fun _ => .used) ++ (c.tout ++ c.own ++ c.tnew).map fun t => .live t.2.2))) a' w' → K a' w') : o.wp C.P a w K Q := by
  obtain ⟨f1, f2, f3, f4, f5, f6, f7, f8, f9, f10, f11, f12⟩ := fits_spec hc
  have htin := f9 href
  have hgref : S.sg.ref = none := by rw [← f1, href]; rfl
  have htips : S.sg.tips = [] := by rw [← f2, htin]; rfl
  have htout : c.tout = [] := cut3_nil (by rw [f3, htips])
  have hlks : c.lks = (c.own ++ c.tnew).map fun t => lk t.2.1 := by simp [CS.lks, htin, htout]
  have hnd : ((c.own ++ c.tnew).map (·.2.1)).Nodup := by simpa [htin, htout] using f8
  have hA : ArgsOK S.sg D.R w (rs.map (Opd.ev C.E σ)) (args.toList.map a.eval) := by
    unfold ArgsOK; rw [hgref]; exact h.opds hx hsm
  refine h.callOp hd ho hp hS hG hA ?_
  intro x R' w' hE hlt hO
  have hio : ioOf S.sg w (args.toList.map a.eval) = fun _ => False := by funext b; simp [ioOf, hgref]
  rw [hio] at hE
  obtain ⟨rvs, tr, to_, tn, bn, br, cn, cr, o1, o2, o3, o4, o5, _, o7, o8, o9, _, o11, o12, o13, o14, o15⟩ := hO
  have htr : tr = [] := List.eq_nil_of_length_eq_zero (by rw [o7, htips]; rfl)
  subst htr
  have h1 := h.callPure hE hlt
  have hLlen : (c.own ++ c.tnew).length = (to_ ++ tn).length := by
    simp only [List.length_append, o8, o9, ← f5, ← f7, cut3, List.length_map]
  have hcut : cut3 (c.own ++ c.tnew) = S.sg.own ++ S.sg.tnew := by rw [← f5, ← f7]; simp [cut3]
  -- whose blocks these are
  have hown0 : owners S.sg bn br ([] ++ to_ ++ tn) = (if S.sg.new.isSome then [some bn] else []) ++ (to_ ++ tn).map Value.ownBlock := by
    simp [owners, hgref]
  rw [hown0] at o14 o15
  have hmine : ∀ g, some g ∈ (if S.sg.new.isSome then [some bn] else []) ++ (to_ ++ tn).map Value.ownBlock → w.heap.size ≤ g := fun g hg => by
    rcases o15 g hg with e | e
    · rw [hio] at e; exact e.elim
    · exact e
  obtain ⟨D2, h2, hR2, hβ2, hτ2, _, hb2⟩ := h1.tipsBack (L := c.own ++ c.tnew) (vs := to_ ++ tn) hLlen hno hnd
    (fun p t v ht hv => by rw [hcut] at ht; exact o13 p t v (by rw [htips]; exact ht) hv)
    (fun v hv g hg => by
      have hge := hmine g (List.mem_append.2 (.inr (List.mem_map.2 ⟨v, hv, hg⟩)))
      exact ⟨.inr (Nat.le_trans h.ext.size hge), fun key hk => by have := h.lt (show blk D γ key = some g from hk); omega⟩)
    (fun p q g hp hq => by
      have := o14 ((if S.sg.new.isSome then [some bn] else []).length + p) ((if S.sg.new.isSome then [some bn] else []).length + q) g
        (by rw [List.getElem?_append_right (by omega), Nat.add_sub_cancel_left]; exact hp) (by rw [List.getElem?_append_right (by omega), Nat.add_sub_cancel_left]; exact hq)
      omega)
  have hlive : ∀ t ∈ c.own ++ c.tnew, (updL γ ((c.own ++ c.tnew).map fun t => lk t.2.1) ((c.own ++ c.tnew).map fun t => .live t.2.2) (lk t.2.1)).isLk = true := by
    intro t ht
    have : ∀ (L : List (Nat × (Nat × Nat))), t ∈ L → (updL γ (L.map fun t => lk t.2.1) (L.map fun t => .live t.2.2) (lk t.2.1)).isLk = true := by
      intro L
      induction L with
      | nil => intro hm; cases hm
      | cons u L ih =>
        intro hm
        simp only [List.map_cons, updL]
        by_cases e : lk t.2.1 = lk u.2.1
        · rw [e, upd_same]; rfl
        · rw [upd_ne _ _ e]
          rcases List.mem_cons.1 hm with rfl | hm
          · exact (e rfl).elim
          · exact ih hm
    exact this _ ht
  have hone : ∀ (p : Nat) (t : Nat × (Nat × Nat)) (v : Value), (c.own ++ c.tnew)[p]? = some t → (to_ ++ tn)[p]? = some v → v.oneCell' = true := fun p t v ht hv => by
    have hcp := cut3_get ht
    rw [hcut] at hcp
    rcases o13 p _ v (by rw [htips]; exact hcp) hv with rfl | ⟨_, _, _, _, _, _, rfl, _⟩ <;> rfl
  have hownv : ∀ t ∈ c.own, rvs[t.1]? = some (D2.τ (lk t.2.1)) ∧ (D2.τ (lk t.2.1)).oneCell' = true := fun t ht => by
    obtain ⟨p, hp'⟩ := List.getElem?_of_mem ht
    have hlt' := (List.getElem?_eq_some_iff.1 hp').1
    have hlo : to_.length = c.own.length := by rw [o8, ← f5]; simp [cut3]
    have hv : to_[p]? = some to_[p] := List.getElem?_eq_getElem (by omega)
    have e1 : (c.own ++ c.tnew)[p]? = some t := by rw [List.getElem?_append_left hlt']; exact hp'
    have e2 : (to_ ++ tn)[p]? = some to_[p] := by rw [List.getElem?_append_left (by omega)]; exact hv
    have e3 := o11 p _ _ (by rw [← f5]; exact cut3_get hp') hv
    rw [hτ2 p t _ e1 e2]
    exact ⟨e3, hone p t _ e1 e2⟩
  have hrep := main_rep (R := R') (w := w') f4 f6 o1 o2 (fun q hq => (f12 q hq).1) o4
  cases hn : c.new with
  | none =>
    have hmems : c.mems = [] := by simp [CS.mems, hn, href]
    have htnew := f10 hn
    have hdrop : outs.drop c.nres = [] := List.drop_of_length_le (by rw [hol, hmems]; simp)
    have h3 := h2.put (d := d) (s := c.main outs) (g := c.dg) (v := x) hl (.inr ⟨by rw [hR2]; exact hrep, fun _ => CS.dg_ok (by rw [o1, f4]) (by rw [f4]; exact o2) hownv (by simp [hn])⟩)
      (CS.dg_flat c).1 (CS.dg_flat c).2 (CS.dg_ment (fun t ht => hlive t (by simp [ht])) (by simp [hn]))
    refine hK D2 (a.put (some d) x) w' ?_
    simp only [hmems, hlks, hdrop, hn, href, htin, htout, Option.toList, List.map_nil, List.nil_append, updL]
    simpa [Function.comp_def] using h3
  | some q =>
    obtain ⟨j, m⟩ := q
    obtain ⟨hm1, hm2, hm3⟩ := hnew _ hn
    have hgn : S.sg.new = some j := by rw [← f6, hn]; rfl
    have hmems : c.mems = [m] := by simp [CS.mems, hn, href]
    obtain ⟨p1, p2⟩ := o5 j hgn
    have hol' : outs.length = c.nres + 1 := by rw [hol, hmems]; rfl
    have hlt1 : c.nres < outs.length := by omega
    have hdrop : outs.drop c.nres = [outs.getD S.sg.nres .dead] := by
      rw [List.drop_eq_getElem_cons hlt1, List.drop_of_length_le (by omega), ← f4]
      simp [List.getD, hlt1]
    have hmne : m ∉ (c.own ++ c.tnew).map fun t => lk t.2.1 := fun hm => by
      obtain ⟨t, _, e⟩ := List.mem_map.1 hm
      have := lk_ge t.2.1
      simp at e hm3
      omega
    have hm1' : updL γ ((c.own ++ c.tnew).map fun t => lk t.2.1) ((c.own ++ c.tnew).map fun t => .live t.2.2) m = .no := by rw [updL_out hmne]; exact hm1
    have hbn : w.heap.size ≤ bn := hmine bn (by simp [hgn])
    have h3 := h2.newVar (m := m) (b := bn) (x := outs.getD S.sg.nres .dead) (cs := cn) (ts := c.tnew) hm1' hm2 (f12 (j, m) (by rw [hn]; exact List.mem_singleton.2 rfl)).2 (by rw [hR2]; exact p2)
      (fun t ht => ⟨hlive t (by simp [ht]), by
        obtain ⟨p, hp'⟩ := List.getElem?_of_mem ht
        have hlt' := (List.getElem?_eq_some_iff.1 hp').1
        have hlo : to_.length = c.own.length := by rw [o8, ← f5]; simp [cut3]
        have hln : tn.length = c.tnew.length := by rw [o9, ← f7]; simp [cut3]
        have hv : tn[p]? = some tn[p] := List.getElem?_eq_getElem (by omega)
        rw [hτ2 (c.own.length + p) t tn[p] (by rw [List.getElem?_append_right (by omega), Nat.add_sub_cancel_left]; exact hp') (by rw [List.getElem?_append_right (by omega), hlo, Nat.add_sub_cancel_left]; exact hv)]
        exact o12 p _ _ (by rw [← f7]; exact cut3_get hp') hv⟩)
      ⟨.inr (Nat.le_trans h.ext.size hbn), fun key hk => by
        rcases hb2 key bn hk with e | ⟨v, hv, e⟩
        · have := h.lt (show blk D γ key = some bn from e); omega
        · obtain ⟨p, hp'⟩ := List.getElem?_of_mem hv
          have := o14 0 (1 + p) bn (by simp [hgn]) (by simp only [hgn, Option.isSome_some, if_true]; rw [List.getElem?_append_right (by simp), show 1 + p - [some bn].length = p by simp, List.getElem?_map, hp']; simp [e])
          omega⟩
    have h4 := h3.put (d := d) (s := c.main outs) (g := c.dg) (v := x) hl (.inr ⟨by show Rep D2.R w' _ _; rw [hR2]; exact hrep, fun _ => CS.dg_ok (by rw [o1, f4]) (by rw [f4]; exact o2) hownv (fun q hq => by
        rw [hn] at hq; cases hq
        show rvs[j]? = some (.pointer (some ⟨upd D2.β m bn m, 0, none⟩))
        rw [upd_same]; exact p1)⟩)
      (CS.dg_flat c).1 (CS.dg_flat c).2 (CS.dg_ment (fun t ht => by
        have hne : lk t.2.1 ≠ m := by have := lk_ge t.2.1; simp at hm3; omega
        rw [upd_ne _ _ hne]; exact hlive t (by simp [ht])) (fun q hq => by rw [hn] at hq; cases hq; rw [upd_same]; rfl))
    refine hK { D2 with β := upd D2.β m bn } (a.put (some d) x) w' ?_
    simp only [hmems, hlks, hdrop, hn, href, htin, htout, Option.toList, List.map_nil, List.nil_append, List.map_cons, List.cons_append, updL]
    simpa [Function.comp_def] using h4
end
end Go.Eng
