/- A call to which a local variable's address is handed. -/
import Derived.Test.YtenbejbhjgkibaaEngM
set_option linter.unusedVariables false
set_option linter.unusedSimpArgs false
namespace Go.Eng
open Go.RowKit

theorem set_get {α : Type} {l : List α} {i : Nat} {x : α} (h : l[i]? = some x) : l.set i x = l := by
  apply List.ext_getElem?
  intro j
  rw [List.getElem?_set]
  split
  · rename_i e; subst e
    rw [if_pos (List.getElem?_eq_some_iff.1 h).1, h]
  · rfl

theorem nodup_idx {α : Type} : ∀ {l : List α} {i j : Nat} {x : α}, l.Nodup → l[i]? = some x → l[j]? = some x → i = j
  | [], i, j, x, _, h, _ => by simp at h
  | a :: l, 0, 0, x, _, _, _ => rfl
  | a :: l, 0, j + 1, x, hn, h, k => by
    simp at h k
    subst h
    exact ((List.nodup_cons.1 hn).1 (List.mem_of_getElem? k)).elim
  | a :: l, i + 1, 0, x, hn, h, k => by
    simp at h k
    subst k
    exact ((List.nodup_cons.1 hn).1 (List.mem_of_getElem? h)).elim
  | a :: l, i + 1, j + 1, x, hn, h, k => by
    have := nodup_idx (i := i) (j := j) (List.nodup_cons.1 hn).2 (by simpa using h) (by simpa using k)
    omega

section
variable {C : Ctx} {D : Dyn} {σ : Sg} {γ : Ga} {a : Act} {w : World}
variable {o : Oper} {d : Nat} {K : Act → World → Prop} {Q : Exit → Act → World → Prop}
variable (h : Sim C D σ γ a w) (hd : o.dst = some d) (hl : d < C.nt)
include h hd hl

theorem op_callB {f : Nat} {args : Array Operand} {ats : Array TypeId} {c : CS} {rs : List Opd} {i m : Nat} {ts : List (Nat × (Nat × Nat))} (ho : o.op = .call { callee := .value (.func f), args, argTypes := ats }) (hp : plainFn C.P f = true)
    {S : FS} (hS : SpecOK C.P C.E.gl f S) (hc : c.fits S.sg = true) (href : c.ref = some (i, m)) (hx : opdsOK args.toList rs = true) (hsm : small C.nt args.toList = true) {outs : List AV}
    (hpt : (rs.map (Opd.ev C.E σ))[i]? = some .pt) (hgh : (rs.map (Opd.gh γ))[i]? = some (.ptr m 0)) (hm : γ m = .cl ts) (hts : ∀ t ∈ c.tin, t ∈ ts) (hlive : ∀ t ∈ c.tin, γ (lk t.2.1) = .live t.2.2)
    (hG : S.G ((rs.map (Opd.ev C.E σ)).set i (σ m)) outs) (hol : outs.length = c.nres + c.mems.length) (hno : ∀ t ∈ c.tout ++ c.own, γ (lk t.2.1) = .no)
    (hK : ∀ D' a' w', Sim C D' (updL σ (d :: (c.mems ++ c.lks)) (c.main outs :: (outs.drop c.nres ++ c.lks.map fun _ => .dead)))
      (updL γ (d :: (c.mems ++ c.lks)) (c.dg :: (c.new.toList.map (fun _ => .cl c.tnew) ++ c.ref.toList.map (fun _ => .cl c.tout) ++ c.tin.map (fun _ => .used) ++ (c.tout ++ c.own ++ c.tnew).map fun t => .live t.2.2))) a' w' → K a' w') : o.wp C.P a w K Q := by
  obtain ⟨f1, f2, f3, f4, f5, f6, f7, f8, f9, f10, f11, f12⟩ := fits_spec hc
  have hnew : c.new = none := by rcases f11 with e | e; · rw [href] at e; cases e
                                 · exact e
  have htnew := f10 hnew
  have hgref : S.sg.ref = some i := by rw [← f1, href]; rfl
  have hgnew : S.sg.new = none := by rw [← f6, hnew]; rfl
  have hgtnew : S.sg.tnew = [] := by rw [← f7, htnew]; rfl
  have hmems : c.mems = [m] := by simp [CS.mems, hnew, href]
  have hlks : c.lks = (c.tin.map fun t => lk t.2.1) ++ (c.tout ++ c.own).map fun t => lk t.2.1 := by simp [CS.lks, htnew]
  simp only [htnew, List.append_nil] at f8
  have hndT : (c.tin.map (·.2.1)).Nodup := by
    rw [List.append_assoc, List.map_append] at f8; exact (List.nodup_append.1 f8).1
  have hndL : ((c.tout ++ c.own).map (·.2.1)).Nodup := by
    rw [List.append_assoc, List.map_append] at f8; exact (List.nodup_append.1 f8).2.1
  have hdis : ∀ t ∈ c.tin, ∀ u ∈ c.tout ++ c.own, t.2.1 ≠ u.2.1 := by
    rw [List.append_assoc, List.map_append] at f8
    intro t ht u hu
    exact (List.nodup_append.1 f8).2.2 _ (List.mem_map.2 ⟨t, ht, rfl⟩) _ (List.mem_map.2 ⟨u, hu, rfl⟩)
  obtain ⟨hm1, hm2⟩ := h.rng m (by rw [hm]; rfl)
  have hmlk : ∀ k, m ≠ lk k := fun k => by have := lk_ge k; omega
  -- the arguments
  obtain ⟨cs, hV, hcs⟩ := h.mem m ts hm
  have hT := h.opds hx hsm
  have hilt := (List.getElem?_eq_some_iff.1 hpt).1
  obtain ⟨y, hy1, _⟩ := hT.get i .pt hpt
  have hptr : (args.toList.map a.eval)[i]? = some (.pointer (some ⟨D.β m, 0, none⟩)) := by
    have key : ∀ {l : List Operand} {qs : List Opd} {i : Nat}, opdsOK l qs = true → small C.nt l = true → (qs.map (Opd.ev C.E σ))[i]? = some .pt → (qs.map (Opd.gh γ))[i]? = some (.ptr m 0) → (l.map a.eval)[i]? = some (.pointer (some ⟨D.β m, 0, none⟩)) := by
      intro l
      induction l with
      | nil => intro qs i hq _ hp'; cases qs with
        | nil => simp at hp'
        | cons => simp [opdsOK] at hq
      | cons x l ih =>
        intro qs i hq hs' hp' hg'
        cases qs with
        | nil => simp [opdsOK] at hq
        | cons q qs =>
          simp [opdsOK] at hq
          have s1 : small C.nt [x] = true := by simp [small] at hs' ⊢; exact hs'.1
          have s2 : small C.nt l = true := by simp only [small, List.all_cons, Bool.and_eq_true] at hs'; exact hs'.2
          cases i with
          | zero =>
            simp at hp' hg'
            have := (h.opd hq.1 s1).gh (by rw [hp']; simp) (by rw [hp']; simp)
            rw [hg'] at this
            simpa [GhOK] using this
          | succ i => simpa using ih hq.2 s2 (by simpa using hp') (by simpa using hg')
    exact key hx hsm hpt hgh
  let tv : List Value := c.tin.map fun t => D.τ (lk t.2.1)
  have htv : ∀ (p : Nat) (t : Nat × (Nat × Nat)), c.tin[p]? = some t → tv[p]? = some (D.τ (lk t.2.1)) := fun p t ht => by simp [tv, ht]
  have hblkT : ∀ t ∈ c.tin, blk D γ (lk t.2.1) = (D.τ (lk t.2.1)).ownBlock := fun t ht => blk_live (hlive t ht)
  have hA : ArgsOK S.sg D.R w ((rs.map (Opd.ev C.E σ)).set i (σ m)) (args.toList.map a.eval) := by
    unfold ArgsOK
    rw [hgref]
    refine ⟨D.β m, cs, σ m, tv, hptr, List.getElem?_set_self hilt, hV, ?_, ?_, ?_, ?_⟩
    · rw [List.set_set, set_get hpt]; exact hT
    · simp [tv, ← f2, cut3]
    · intro p t v ht hv
      rw [← f2] at ht
      simp only [cut3, List.getElem?_map] at ht
      cases hq : c.tin[p]? with
      | none => simp [hq] at ht
      | some q =>
        simp [hq] at ht
        subst ht
        have e := htv p q hq
        rw [hv] at e
        cases e
        have hmem := List.mem_of_getElem? hq
        exact ⟨hcs q (hts q hmem), h.tip _ _ (hlive q hmem)⟩
    · have hkey : ∀ (p g : Nat), (some (D.β m) :: tv.map Value.ownBlock)[p]? = some (some g) → ∃ key, blk D γ key = some g ∧ ((p = 0 ∧ key = m) ∨ ∃ p' t, p = p' + 1 ∧ c.tin[p']? = some t ∧ key = lk t.2.1) := by
        intro p g hp'
        cases p with
        | zero => simp at hp'; exact ⟨m, by rw [blk_cl hm, hp'], .inl ⟨rfl, rfl⟩⟩
        | succ p =>
          simp only [List.getElem?_cons_succ, tv, List.map_map, List.getElem?_map] at hp'
          cases hq : c.tin[p]? with
          | none => simp [hq] at hp'
          | some q =>
            simp [hq] at hp'
            exact ⟨lk q.2.1, by rw [hblkT q (List.mem_of_getElem? hq)]; exact hp', .inr ⟨p, q, rfl, hq, rfl⟩⟩
      intro p q g hp' hq'
      obtain ⟨k1, e1, c1⟩ := hkey p g hp'
      obtain ⟨k2, e2, c2⟩ := hkey q g hq'
      have hkk : k1 = k2 := h.sepN (by
        rcases c1 with ⟨_, e⟩ | ⟨p', t, _, ht, e⟩
        · rw [e, hm]; rfl
        · rw [e, hlive t (List.mem_of_getElem? ht)]; rfl) e1 e2
      rcases c1 with ⟨rfl, rfl⟩ | ⟨p', t, rfl, ht, rfl⟩ <;> rcases c2 with ⟨rfl, rfl⟩ | ⟨q', u, rfl, hu, rfl⟩
      · rfl
      · exact (hmlk _ hkk).elim
      · exact (hmlk _ hkk.symm).elim
      · have hid := lk_inj hkk
        have h1 : (c.tin.map (·.2.1))[p']? = some t.2.1 := by simp [ht]
        have h2 : (c.tin.map (·.2.1))[q']? = some t.2.1 := by simp [hu, hid]
        have := nodup_idx hndT h1 h2
        omega
  refine h.callOp hd ho hp hS hG hA ?_
  intro x R' w' hE hlt hO
  obtain ⟨rvs, tr, to_, tn, bn, br, cn, cr, o1, o2, o3, o4, _, o6, o7, o8, o9, o10, o11, _, o13, o14, o15⟩ := hO
  have htn : tn = [] := List.eq_nil_of_length_eq_zero (by rw [o9, hgtnew]; rfl)
  subst htn
  obtain ⟨p1, p2⟩ := o6 i hgref
  rw [hptr] at p1
  cases p1
  simp only [hgnew, Option.isSome_none, Bool.false_eq_true, if_false, Nat.add_zero] at p2 o3
  -- what the call may have written
  have hio : ∀ b, ioOf S.sg w (args.toList.map a.eval) b → b = D.β m ∨ ∃ t ∈ c.tin, (D.τ (lk t.2.1)).ownBlock = some b := by
    intro b hb
    unfold ioOf at hb
    rw [hgref] at hb
    obtain ⟨b', cs', e', q1, q2, q3⟩ := hb
    rw [hptr] at q1
    cases q1
    rcases q3 with q3 | ⟨t, ht, v, hv, hvb⟩
    · exact .inl q3
    · right
      obtain ⟨_, hh, _⟩ := hV
      rw [hh] at q2
      cases q2
      rw [← f2] at ht
      obtain ⟨q, hq, rfl⟩ := List.mem_map.1 ht
      have := hcs q (hts q hq)
      simp only at hv
      rw [this] at hv
      cases hv
      exact ⟨q, hq, hvb⟩
  -- the old tips are used up
  have h1 := h.kills (c.tin.map fun t => (lk t.2.1, t.2.2)) (fun u hu => by obtain ⟨t, ht, rfl⟩ := List.mem_map.1 hu; exact hlive t ht) (by
    rw [List.map_map]
    have : ((fun x : Nat × Nat => x.1) ∘ fun t : Nat × (Nat × Nat) => (lk t.2.1, t.2.2)) = lk ∘ fun t => t.2.1 := rfl
    rw [this, ← List.map_map]
    exact List.Pairwise.map _ (fun _ _ hne e => hne (lk_inj e)) hndT)
  simp only [List.map_map] at h1
  have eT : (c.tin.map ((fun x : Nat × Nat => x.1) ∘ fun t : Nat × (Nat × Nat) => (lk t.2.1, t.2.2))) = c.tin.map fun t => lk t.2.1 := rfl
  have eU : (c.tin.map ((fun _ : Nat × Nat => Gh.used) ∘ fun t : Nat × (Nat × Nat) => (lk t.2.1, t.2.2))) = c.tin.map fun _ => Gh.used := rfl
  rw [eT, eU] at h1
  have hmT : m ∉ c.tin.map fun t => lk t.2.1 := fun hm' => by obtain ⟨t, _, e⟩ := List.mem_map.1 hm'; exact hmlk _ e.symm
  have hmL : m ∉ (c.tout ++ c.own).map fun t => lk t.2.1 := fun hm' => by obtain ⟨t, _, e⟩ := List.mem_map.1 hm'; exact hmlk _ e.symm
  have hblk1 : ∀ key g, blk D (updL γ (c.tin.map fun t => lk t.2.1) (c.tin.map fun _ => Gh.used)) key = some g → blk D γ key = some g ∧ ∀ t ∈ c.tin, key ≠ lk t.2.1 := by
    intro key g hk
    have hnot : key ∉ c.tin.map fun t => lk t.2.1 := fun hmem => by
      have : ∀ (L : List (Nat × (Nat × Nat))), key ∈ (L.map fun t => lk t.2.1) → updL γ (L.map fun t => lk t.2.1) (L.map fun _ => Gh.used) key = .used := by
        intro L
        induction L with
        | nil => intro hm'; cases hm'
        | cons u L ih =>
          intro hm'
          simp only [List.map_cons, updL]
          by_cases e : key = lk u.2.1
          · rw [e, upd_same]
          · rw [upd_ne _ _ e]
            rcases List.mem_cons.1 hm' with e' | hm'
            · exact (e e').elim
            · exact ih hm'
      unfold blk at hk
      rw [this _ hmem] at hk
      cases hk
    refine ⟨by unfold blk at hk ⊢; rwa [updL_out hnot] at hk, fun t ht e => hnot (List.mem_map.2 ⟨t, ht, e.symm⟩)⟩
  have hm1' : updL γ (c.tin.map fun t => lk t.2.1) (c.tin.map fun _ => Gh.used) m = .cl ts := by rw [updL_out hmT]; exact hm
  have h2 := h1.callWorld hm1' hE (fun b hb => by
      rcases hio b hb with e | ⟨t, ht, e⟩
      · exact .inl e
      · refine .inr ⟨h.own (lk t.2.1) b (by rw [hblkT t ht]; exact e), fun key hk => ?_⟩
        obtain ⟨k1, k2⟩ := hblk1 key b hk
        exact k2 t ht (h.sepN (key := lk t.2.1) (by rw [hlive t ht]; rfl) (by rw [hblkT t ht]; exact e) k1).symm) p2 hlt
  -- the new tips
  have hown0 : owners S.sg bn (D.β m) (tr ++ to_ ++ []) = some (D.β m) :: (tr ++ to_).map Value.ownBlock := by simp [owners, hgref, hgnew]
  rw [hown0] at o14 o15
  simp only [List.append_nil] at o13
  have hLlen : (c.tout ++ c.own).length = (tr ++ to_).length := by simp only [List.length_append, o7, o8, ← f3, ← f5, cut3, List.length_map]
  have hcut : cut3 (c.tout ++ c.own) = S.sg.tips ++ S.sg.own := by rw [← f3, ← f5]; simp [cut3]
  have hblk2 : ∀ key g, blk { D with R := R' } (upd (updL γ (c.tin.map fun t => lk t.2.1) (c.tin.map fun _ => Gh.used)) m (.cl [])) key = some g → blk D γ key = some g ∧ ∀ t ∈ c.tin, key ≠ lk t.2.1 := by
    intro key g hk
    apply hblk1
    unfold blk at hk ⊢
    by_cases e : key = m
    · subst e; rw [upd_same] at hk; rw [hm1']; exact hk
    · rw [upd_ne _ _ e] at hk; exact hk
  obtain ⟨D3, h3, hR3, hβ3, hτ3, _, _⟩ := h2.tipsBack (L := c.tout ++ c.own) (vs := tr ++ to_) hLlen
    (fun t ht => by
      rw [upd_ne _ _ (hmlk _).symm, updL_out (fun hmem => by obtain ⟨u, hu, e⟩ := List.mem_map.1 hmem; exact hdis u hu t ht (lk_inj e))]
      exact hno t ht) hndL
    (fun p t v ht hv => by rw [hcut] at ht; exact o13 p t v (by rw [hgtnew, List.append_nil]; exact ht) hv)
    (fun v hv g hg => by
      have ho := o15 g (List.mem_cons.2 (.inr (List.mem_map.2 ⟨v, hv, hg⟩)))
      obtain ⟨p, hp'⟩ := List.getElem?_of_mem hv
      have hne : g ≠ D.β m := fun e => by
        have := o14 0 (p + 1) g (by simp [e]) (by rw [List.getElem?_cons_succ, List.getElem?_map, hp']; simp [hg])
        omega
      refine ⟨?_, fun key hk => ?_⟩
      · rcases ho with ho | ho
        · rcases hio g ho with e | ⟨t, ht, e⟩
          · exact (hne e).elim
          · exact h.own (lk t.2.1) g (by rw [hblkT t ht]; exact e)
        · exact .inr (Nat.le_trans h.ext.size ho)
      · obtain ⟨k1, k2⟩ := hblk2 key g hk
        rcases ho with ho | ho
        · rcases hio g ho with e | ⟨t, ht, e⟩
          · exact hne e
          · exact k2 t ht (h.sepN (key := lk t.2.1) (by rw [hlive t ht]; rfl) (by rw [hblkT t ht]; exact e) k1).symm
        · have := h.lt k1; omega)
    (fun p q g hp' hq' => by
      have := o14 (p + 1) (q + 1) g (by simpa using hp') (by simpa using hq')
      omega)
  have hliveL : ∀ (γ0 : Ga) (t : Nat × (Nat × Nat)) (L : List (Nat × (Nat × Nat))), t ∈ L → (updL γ0 (L.map fun t => lk t.2.1) (L.map fun t => .live t.2.2) (lk t.2.1)).isLk = true := by
    intro γ0 t L
    induction L with
    | nil => intro hm'; cases hm'
    | cons u L ih =>
      intro hm'
      simp only [List.map_cons, updL]
      by_cases e : lk t.2.1 = lk u.2.1
      · rw [e, upd_same]; rfl
      · rw [upd_ne _ _ e]
        rcases List.mem_cons.1 hm' with rfl | hm'
        · exact (e rfl).elim
        · exact ih hm'
  have hlo : tr.length = c.tout.length := by rw [o7, ← f3]; simp [cut3]
  have hloo : to_.length = c.own.length := by rw [o8, ← f5]; simp [cut3]
  have hone : ∀ (p : Nat) (t : Nat × (Nat × Nat)) (v : Value), (c.tout ++ c.own)[p]? = some t → (tr ++ to_)[p]? = some v → v.oneCell' = true := fun p t v ht hv => by
    have hcp := cut3_get ht
    rw [hcut] at hcp
    rcases o13 p _ v (by rw [hgtnew, List.append_nil]; exact hcp) hv with rfl | ⟨_, _, _, _, _, _, rfl, _⟩ <;> rfl
  have hm3 : updL (upd (updL γ (c.tin.map fun t => lk t.2.1) (c.tin.map fun _ => Gh.used)) m (.cl [])) ((c.tout ++ c.own).map fun t => lk t.2.1) ((c.tout ++ c.own).map fun t => .live t.2.2) m = .cl [] := by rw [updL_out hmL, upd_same]
  have h4 := h3.store (us := c.tout) (x := outs.getD S.sg.nres .dead) (cs := cr) hm3 rfl rfl rfl rfl (fun _ _ => rfl) (by rw [hβ3, hR3]; exact p2) (fun t ht => ⟨hliveL _ t _ (by simp [ht]), by
      obtain ⟨p, hp'⟩ := List.getElem?_of_mem ht
      have hlt' := (List.getElem?_eq_some_iff.1 hp').1
      have hv : tr[p]? = some tr[p] := List.getElem?_eq_getElem (by omega)
      rw [hτ3 p t tr[p] (by rw [List.getElem?_append_left hlt']; exact hp') (by rw [List.getElem?_append_left (by omega)]; exact hv)]
      exact o10 p _ _ (by rw [← f3]; exact cut3_get hp') hv⟩)
  have h5 := h4.deads (c.tin.map fun t => lk t.2.1) (fun k hk => by
    cases hcl : (upd (updL (upd (updL γ (c.tin.map fun t => lk t.2.1) (c.tin.map fun _ => Gh.used)) m (.cl [])) ((c.tout ++ c.own).map fun t => lk t.2.1) ((c.tout ++ c.own).map fun t => .live t.2.2)) m (.cl c.tout) k).isCl with
    | false => rfl
    | true =>
      have := (h4.rng k hcl).2
      obtain ⟨t, _, e⟩ := List.mem_map.1 hk
      have := lk_ge t.2.1
      omega)
  have hownv : ∀ t ∈ c.own, rvs[t.1]? = some (D3.τ (lk t.2.1)) ∧ (D3.τ (lk t.2.1)).oneCell' = true := fun t ht => by
    obtain ⟨p, hp'⟩ := List.getElem?_of_mem ht
    have hlt' := (List.getElem?_eq_some_iff.1 hp').1
    have hv : to_[p]? = some to_[p] := List.getElem?_eq_getElem (by omega)
    have e1 : (c.tout ++ c.own)[c.tout.length + p]? = some t := by rw [List.getElem?_append_right (by omega), Nat.add_sub_cancel_left]; exact hp'
    have e2 : (tr ++ to_)[c.tout.length + p]? = some to_[p] := by rw [List.getElem?_append_right (by omega), hlo, Nat.add_sub_cancel_left]; exact hv
    have e3 := o11 p _ _ (by rw [← f5]; exact cut3_get hp') hv
    rw [hτ3 _ t _ e1 e2]
    exact ⟨e3, hone _ t _ e1 e2⟩
  have hrep := main_rep (R := R') (w := w') f4 f6 o1 o2 (fun q hq => (f12 q hq).1) o4
  have h6 := h5.put (d := d) (s := c.main outs) (g := c.dg) (v := x) hl (.inr ⟨by rw [hR3]; exact hrep, fun _ => CS.dg_ok (by rw [o1, f4]) (by rw [f4]; exact o2) hownv (by simp [hnew])⟩)
    (CS.dg_flat c).1 (CS.dg_flat c).2 (CS.dg_ment (fun t ht => by rw [upd_ne _ _ (hmlk _).symm]; exact hliveL _ t _ (by simp [ht])) (by simp [hnew]))
  refine hK D3 (a.put (some d) x) w' ?_
  have hol' : outs.length = c.nres + 1 := by rw [hol, hmems]; rfl
  have hdrop : outs.drop c.nres = [outs.getD S.sg.nres .dead] := by
    rw [List.drop_eq_getElem_cons (by omega), List.drop_of_length_le (by omega), ← f4]
    simp [List.getD, show c.nres < outs.length by omega]
  have hdisk : ∀ k ∈ c.tin.map (fun t => lk t.2.1), k ∉ (c.tout ++ c.own).map fun t => lk t.2.1 := fun k hk hk' => by
    obtain ⟨t, ht, rfl⟩ := List.mem_map.1 hk
    obtain ⟨u, hu, e⟩ := List.mem_map.1 hk'
    exact hdis t ht u hu (lk_inj e).symm
  have eσ : updL σ (c.mems ++ c.lks) (outs.drop c.nres ++ c.lks.map fun _ => .dead) =
      updL (upd (updL (upd σ m (outs.getD S.sg.nres .dead)) ((c.tout ++ c.own).map fun t => lk t.2.1) ((c.tout ++ c.own).map fun _ => .dead)) m (outs.getD S.sg.nres .dead)) (c.tin.map fun t => lk t.2.1) ((c.tin.map fun t => lk t.2.1).map fun _ => .dead) := by
    rw [hmems, hdrop, hlks]
    simp only [List.cons_append, List.nil_append, updL]
    have e : ∀ (A B : List Nat), ((A ++ B).map fun _ => AV.dead) = (A.map fun _ => .dead) ++ B.map fun _ => .dead := fun A B => List.map_append
    rw [updL_upd hmT, updL_upd hmL, updL_upd hmT, upd_upd, e (c.tin.map fun t => lk t.2.1), updL_append (by simp), List.map_map (l := c.tout ++ c.own)]
    rfl
  have eγ : updL γ (c.mems ++ c.lks) (c.new.toList.map (fun _ => Gh.cl c.tnew) ++ c.ref.toList.map (fun _ => .cl c.tout) ++ c.tin.map (fun _ => .used) ++ (c.tout ++ c.own ++ c.tnew).map fun t => .live t.2.2) =
      upd (updL (upd (updL γ (c.tin.map fun t => lk t.2.1) (c.tin.map fun _ => Gh.used)) m (.cl [])) ((c.tout ++ c.own).map fun t => lk t.2.1) ((c.tout ++ c.own).map fun t => .live t.2.2)) m (.cl c.tout) := by
    rw [hmems, hlks, hnew, href, htnew]
    simp only [Option.toList, List.map_nil, List.nil_append, List.map_cons, List.cons_append, List.append_nil, updL]
    rw [updL_upd hmL, upd_upd, updL_comm hdisk, updL_append (by simp)]
  simp only [updL]
  rw [eσ, eγ]
  exact h6
end
end Go.Eng
