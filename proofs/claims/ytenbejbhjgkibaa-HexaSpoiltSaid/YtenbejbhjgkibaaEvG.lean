/- What is reckoned on typed values is what the code means. -/
import Derived.Test.YtenbejbhjgkibaaEvF
set_option linter.unusedVariables false
set_option linter.unusedSimpArgs false
namespace Go.Eng

theorem insT_av (c : CS) (vs : List TV) : (c.insT vs).map TV.av = c.ins (vs.map TV.av) := by
  unfold CS.insT CS.ins
  cases c.ref with
  | none => simp [List.map_take]
  | some q =>
    simp only [List.map_set, List.map_take]
    congr 1
    simp only [List.getD_eq_getElem?_getD, List.getElem?_map]
    cases vs[c.n + (c.new.map (·.2)).toList.length]? <;> rfl
theorem mainT_av (c : CS) (outs : List TV) : (c.mainT outs).av = c.main (outs.map TV.av) := by
  unfold CS.mainT CS.main
  cases h : Nat.beq c.nres 1 with
  | true =>
    rw [if_pos (Nat.eq_of_beq_eq_true h)]
    cases c.new with
    | some q => rfl
    | none => cases outs <;> rfl
  | false =>
    rw [if_neg (Nat.ne_of_beq_eq_false h)]
    simp only [TV.av, TV.avs_map, AV.tu.injEq]
    apply List.ext_getElem?
    intro i
    simp only [List.getElem?_map, List.getElem?_mapIdx, List.getElem?_take]
    split
    · cases outs[i]? with
      | none => rfl
      | some x =>
        simp only [Option.map_some, Option.some.injEq]
        cases h : (c.new.any fun q => q.1 == i) <;> simp
        rfl
    · rfl

section
variable {E : TEnv}
theorem callT_ok {f : Nat} {c : CS} {vs ws : List TV} (h : (callT (E.fs f).1 c vs).holds ws) : sem E.env (.call f c) (vs.map TV.av) (ws.map TV.av) := by
  unfold callT at h
  cases hr : c.refOK vs with
  | false => rw [hr] at h; exact h.elim
  | true =>
    rw [hr] at h
    have key : ∀ {outs : List TV}, ((E.fs f).1 (c.insT vs)).holds outs → Nat.beq outs.length (c.nres + c.mems.length) = true → ws = c.give outs → sem E.env (.call f c) (vs.map TV.av) (ws.map TV.av) := by
      intro outs h1 h2 h3
      subst h3
      refine ⟨?_, outs.map TV.av, ⟨_, _, (insT_av c vs).symm, rfl, h1⟩, by rw [List.length_map]; exact Nat.eq_of_beq_eq_true h2, ?_⟩
      · unfold CS.refOK at hr
        cases hc : c.ref with
        | none => trivial
        | some q =>
          rw [hc] at hr
          simp only at hr ⊢
          split at hr
          · rename_i e; rw [List.getElem?_map, e]; rfl
          · cases hr
      · simp only [CS.give, List.map_cons, mainT_av, List.map_append, List.map_drop, List.map_map]
        rfl
    simp only at h
    cases hC : (E.fs f).1 (c.insT vs) with
    | ok outs =>
      rw [hC] at h
      obtain ⟨h1, h2⟩ := needT_holds h
      exact key (outs := outs) (by rw [hC]; rfl) h1 h2
    | if_ p outs =>
      rw [hC] at h
      obtain ⟨h1, h2⟩ := needT_holds h
      exact key (outs := outs) (by rw [hC]; exact ⟨h2.1, rfl⟩) h1 h2.2
    | err => rw [hC] at h; exact h.elim

theorem sliceT_ok {t : STy} {vs rest ws : List TV} (h : (sliceT t vs rest).holds ws) : ∃ l, l.map t.av = vs.map TV.av ∧ (∀ x ∈ vs.map TV.av, x.plain = true ∧ x.cells.length = t.size) ∧ ws = .sl t l :: rest := by
  unfold sliceT at h
  split at h
  · rename_i l e
    obtain ⟨h1, h2⟩ := STy.els_av e
    exact ⟨l, h1, h2, h⟩
  · exact h.elim

theorem semT_ok {k : TK} {vs ws : List TV} (h : (semT E k vs).holds ws) : sem E.env k.erase (vs.map TV.av) (ws.map TV.av) := by
  cases k with
  | k x =>
    by_cases hc : ∃ f c, x = .call f c
    · obtain ⟨f, c, rfl⟩ := hc
      exact callT_ok h
    · have : semT E (.k x) vs = semK x vs := by
        cases x <;> first | rfl | exact (hc ⟨_, _, rfl⟩).elim
      rw [this] at h
      exact semK_ok _ h
  | bl t n =>
    obtain ⟨h0, h⟩ := needT_holds h
    obtain ⟨l, h1, h2, rfl⟩ := sliceT_ok h
    have h0 := Nat.eq_of_beq_eq_true h0
    simp only [TK.erase, sem, List.map, TV.av, h1, List.length_map]
    exact ⟨h0, h2, trivial⟩
  | blt t n d =>
    obtain ⟨h0, h⟩ := needT_holds h
    obtain ⟨l, h1, h2, rfl⟩ := sliceT_ok h
    have h0 := Nat.eq_of_beq_eq_true h0
    simp only [TK.erase, sem, List.map, TV.av, h1, List.length_map, ← List.map_take]
    exact ⟨h0, h2, trivial⟩
  | bd z pl =>
    simp only [semT] at h
    split at h
    · rename_i cs e
      cases h
      simp only [TK.erase, sem, List.map, TV.av, TV.avs_map]
      exact ⟨_, fillT_av e, rfl⟩
    · exact h.elim
  | al m z ts =>
    simp only [semT] at h
    cases h
    simp only [TK.erase, sem, List.map_cons, TV.av, List.map_map]
    rfl
  | mk d b t z =>
    simp only [semT] at h
    split at h
    · obtain ⟨h1, rfl⟩ := h
      obtain ⟨h1, h2, h3, h4⟩ := mkOK_iff.1 h1
      simp only [TK.erase, sem, List.map, TV.av]
      exact ⟨(STy.av_plain _ _).1, (STy.av_plain _ _).2, h1, h2, h3, h4, by simp⟩
    · exact h.elim
  | nl t d =>
    simp only [semT] at h
    split at h
    · cases h; rfl
    · exact h.elim

theorem cnds_all : ∀ {l : List TV}, (∀ q, cnds l = some q → q = true) → ∀ x ∈ l, ∀ q, x.cnd = some q → q = true
  | [], _, _, hx, _, _ => by cases hx
  | y :: r, h, x, hx, q, hq => by
    simp only [cnds] at h
    rcases List.mem_cons.1 hx with rfl | hx
    · rw [hq] at h
      cases e : cnds r with
      | none => rw [e] at h; exact h _ rfl
      | some p => rw [e] at h; exact (Bool.and_eq_true_iff.1 (h _ rfl)).1
    · refine cnds_all (l := r) ?_ x hx q hq
      intro p hp
      rw [hp] at h
      cases e : y.cnd with
      | none => rw [e] at h; exact h _ rfl
      | some p' => rw [e] at h; exact (Bool.and_eq_true_iff.1 (h _ rfl)).2

theorem underT_true {c : Bool} {q : Option Bool} {r : Res} {ws : List TV} (h : (underT c q r).holds ws) (hc : c = true) : ∃ vs, r.holds vs ∧ ws = vs.map (.gd c) ∧ ∀ p, q = some p → p = true := by
  subst hc
  cases r <;> cases q
  · exact ⟨_, rfl, h, by simp⟩
  · rename_i vs q
    obtain ⟨h1, rfl⟩ := h
    exact ⟨vs, rfl, rfl, by rintro _ ⟨⟩; simpa using h1⟩
  · rename_i p vs
    obtain ⟨h1, rfl⟩ := h
    exact ⟨vs, ⟨by simpa using h1, rfl⟩, rfl, by simp⟩
  · rename_i p vs q
    obtain ⟨h1, rfl⟩ := h
    simp at h1
    exact ⟨vs, ⟨h1.2, rfl⟩, rfl, by rintro _ ⟨⟩; exact h1.1⟩
  · exact h.elim
  · exact h.elim
theorem underT_false {c : Bool} {q : Option Bool} {r : Res} {ws : List TV} (h : (underT c q r).holds ws) : ∃ vs : List TV, ws = vs.map (.gd c) := by
  cases r <;> cases q <;> first | exact ⟨_, h⟩ | exact ⟨_, h.2⟩ | exact h.elim
theorem lenT_holds {n : Nat} {r : Res} {ws : List TV} (h : (lenT n r).holds ws) : r.holds ws ∧ ws.length = n := by
  cases r with
  | ok vs => obtain ⟨h1, h2⟩ := needT_holds h; cases h2; exact ⟨rfl, Nat.eq_of_beq_eq_true h1⟩
  | if_ p vs => obtain ⟨h1, h2⟩ := needT_holds h; obtain ⟨h2, rfl⟩ := h2; exact ⟨⟨h2, rfl⟩, Nat.eq_of_beq_eq_true h1⟩
  | err => exact h.elim
theorem guardT_ok {τ : TS} {t : Nat} {b c : Bool} (h : guardT τ t b = some c) : guardV τ.av (some (t, b)) = some c := by
  unfold guardT at h
  simp only [guardV, TS.av]
  split at h
  · rename_i x e; cases h; rw [e]; cases b <;> cases x <;> rfl
  · rename_i q x e; cases h; rw [e]; cases q <;> cases b <;> cases x <;> rfl
  · cases h

theorem bareT_av {k : TK} {vs : List TV} (h : ∀ p, cndT k vs = some p → p = true) : (bareT k vs).map TV.av = vs.map TV.av := by
  have base : (∀ p, cnds vs = some p → p = true) → (vs.map TV.bare).map TV.av = vs.map TV.av := fun h => by
    rw [List.map_map]; exact List.map_congr_left fun x hx => TV.bare_av (cnds_all h x hx)
  unfold cndT at h
  unfold bareT
  split at h
  · split at h
    · simp only [List.map_cons]; rw [TV.bare_av h]
    · rfl
  · exact base h

theorem stepT_ok {m : TOp} {τ : TS} {ws : List TV} (h : (stepT E m τ).holds ws) : stepS E.env m.erase τ.av (setT τ m.ds ws).av := by
  unfold stepT at h
  have hev : ∀ l : List TOpd, (l.map TOpd.erase).map (Opd.ev E.env τ.av) = (l.map (TOpd.ev E τ)).map TV.av := by
    intro l; simp only [List.map_map]; exact List.map_congr_left fun x _ => TOpd.ev_av E τ x
  cases hg : m.gd with
  | none =>
    rw [hg] at h
    obtain ⟨h1, h2⟩ := lenT_holds h
    refine ⟨ws.map TV.av, ?_, by simpa [TOp.erase] using h2, setT_av _ _ _⟩
    simp only [TOp.erase, hg, guardV, hev]
    exact semT_ok h1
  | some q =>
    obtain ⟨t, b⟩ := q
    rw [hg] at h
    simp only at h
    cases hc : guardT τ t b with
    | none => rw [hc] at h; exact h.elim
    | some c =>
      rw [hc] at h
      obtain ⟨h1, h2⟩ := lenT_holds h
      refine ⟨ws.map TV.av, ?_, by simpa [TOp.erase] using h2, setT_av _ _ _⟩
      simp only [TOp.erase, hg, guardT_ok hc]
      cases c with
      | true =>
        obtain ⟨vs, h3, rfl, h4⟩ := underT_true h1 rfl
        have e1 : (vs.map (TV.gd true)).map TV.av = vs.map TV.av := by simp only [List.map_map]; exact List.map_congr_left fun x _ => rfl
        have e2 := bareT_av h4
        simp only [hev, e1, ← e2]
        exact semT_ok h3
      | false =>
        obtain ⟨vs, rfl⟩ := underT_false h1
        simp only [List.map_map]
        apply List.ext_getElem?
        intro i
        simp only [List.length_map] at h2
        simp only [List.getElem?_map]
        by_cases hi : i < vs.length
        · rw [List.getElem?_eq_getElem hi, List.getElem?_eq_getElem (by omega)]; rfl
        · rw [List.getElem?_eq_none (by omega), List.getElem?_eq_none (by omega)]; rfl

theorem runT_ok {R : Type} {r : R} {K : TS → Option R} : ∀ {ms : List TOp} {τ : TS}, runT E ms τ K = some r → ∃ τ' : TS, runS E.env (ms.map TOp.erase) τ.av τ'.av ∧ K τ' = some r
  | [], τ, h => ⟨τ, rfl, h⟩
  | m :: ms, τ, h => by
    simp only [runT] at h
    cases hs : stepT E m τ with
    | ok ws =>
      rw [hs] at h
      obtain ⟨τ', h1, h2⟩ := runT_ok h
      exact ⟨τ', ⟨_, stepT_ok (ws := ws) (by rw [hs]; rfl), h1⟩, h2⟩
    | if_ p ws =>
      rw [hs] at h
      obtain ⟨hp, h⟩ := ck_some.1 h
      obtain ⟨τ', h1, h2⟩ := runT_ok h
      exact ⟨τ', ⟨_, stepT_ok (ws := ws) (by rw [hs]; exact ⟨hp, rfl⟩), h1⟩, h2⟩
    | err => rw [hs] at h; cases h

theorem restr_le (keep : Option (List Nat)) (τ : TS) : Le (restr keep τ).av τ.av := by
  cases keep with
  | none => exact fun _ => .inl rfl
  | some ks =>
    intro k
    have : ∀ ks : List Nat, headT ks (ks.map τ) k = τ k ∨ headT ks (ks.map τ) k = .dead := by
      intro ks
      induction ks with
      | nil => exact .inr rfl
      | cons j ks ih =>
        simp only [headT, List.map_cons, setT] at ih ⊢
        cases h : Nat.beq k j with
        | true => left; rw [Nat.eq_of_beq_eq_true h]; rfl
        | false => exact ih
    rcases this ks with e | e
    · left; simp only [TS.av, restr, e]
    · right; simp only [TS.av, restr, e]; rfl

theorem agr_map (σ : Sg) : ∀ keep : List Nat, Agr σ keep (keep.map σ)
  | [] => trivial
  | k :: ks => ⟨rfl, agr_map σ ks⟩

theorem ev_ok {R : Type} {r : R} {m : TM} : ∀ {τ : TS} {K : Cont R}, evO R E m τ K = some r → wpm E.env m.erase (fun e σ => ∃ τ' : TS, σ = τ'.av ∧ K e τ' = some r) τ.av := by
  induction m with
  | skip => exact fun h => ⟨_, rfl, h⟩
  | reg ops =>
    intro τ K h
    obtain ⟨τ', h1, h2⟩ := runT_ok (E := E) h
    exact ⟨_, h1, τ', rfl, h2⟩
  | seq a keep b iha ihb =>
    intro τ K h
    show wpm E.env a.erase _ τ.av
    refine wpm_mono (m := a.erase) (Q := fun e σ => ∃ τ' : TS, σ = τ'.av ∧ seqK (evO R E b) keep K e τ' = some r) (fun e σ q => ?_) (iha h)
    obtain ⟨τ', rfl, q⟩ := q
    cases e with
    | normal => exact ⟨_, restr_le keep τ', ihb q⟩
    | exit i => exact ⟨τ', rfl, q⟩
    | ret => exact ⟨τ', rfl, q⟩
  | cond x G a b iha ihb =>
    intro τ K h
    have h : (match x.ev E τ with | .b t => cond t (evO R E a τ K) (evO R E b τ K) | _ => none) = some r := h
    split at h
    · rename_i t e
      refine ⟨t, by rw [TOpd.ev_av, e]; rfl, ?_, ?_⟩
      · rintro rfl; exact iha h
      · rintro rfl; exact ihb h
    · cases h
  | block id G b ih =>
    intro τ K h
    show wpm E.env b.erase _ τ.av
    refine wpm_mono (m := b.erase) (Q := fun e σ => ∃ τ' : TS, σ = τ'.av ∧ blockK id K e τ' = some r) (fun e σ q => ?_) (ih h)
    obtain ⟨τ', rfl, q⟩ := q
    cases e with
    | normal => exact ⟨τ', rfl, q⟩
    | exit i =>
      simp only [blockK] at q ⊢
      cases hb : Nat.beq i id with
      | true => rw [hb] at q; rw [if_pos (Nat.eq_of_beq_eq_true hb)]; exact ⟨τ', rfl, q⟩
      | false => rw [hb] at q; rw [if_neg (Nat.ne_of_beq_eq_false hb)]; exact ⟨τ', rfl, q⟩
    | ret => exact ⟨τ', rfl, q⟩
  | loop keep G b ih =>
    intro τ K h
    have hl := (lim_some (fun n r => loopN_mono (ev_alg E b) n _ r)).1 h
    obtain ⟨n, hn⟩ := hl
    refine ⟨{ p : Nat × TS // loopN (evO R E b) isN keep p.1 (headT keep (keep.map p.2)) K = some r }, fun p => keep.map p.1.2.av, fun p => p.1.1, ⟨(n, τ), hn⟩, agr_map _ keep, ?_⟩
    rintro ⟨⟨n, τ⟩, hn⟩
    cases n with
    | zero => cases hn
    | succ n =>
      simp only [loopN] at hn
      have e : head keep (keep.map τ.av) = (headT keep (keep.map τ)).av := by rw [headT_av, List.map_map]; rfl
      simp only
      rw [e]
      refine wpm_mono (fun e σ q => ?_) (ih hn)
      obtain ⟨τ', rfl, q⟩ := q
      cases e with
      | normal => exact ⟨⟨(n, τ'), q⟩, Nat.lt_succ_self n, agr_map _ keep⟩
      | exit i => exact ⟨τ', rfl, q⟩
      | ret => exact ⟨τ', rfl, q⟩
  | exit id => exact fun h => ⟨_, rfl, h⟩
  | ret => exact fun h => ⟨_, rfl, h⟩
  | sco b ih => exact fun h => ih h
  | scp b ih => exact fun h => ih h
  | lab l keep G x b ihx ihb =>
    intro τ K h
    have key : ∀ {e : MX} {τ' : TS}, againK (evO R E x) (isG l) keep K e τ' = some r → (e = .exit (gid l) ∧ ∃ n, loopN (evO R E x) (isG l) keep n (headT keep (keep.map τ')) K = some r) ∨ (e ≠ .exit (gid l) ∧ K e τ' = some r) := by
      intro e τ' q
      simp only [againK] at q
      cases ht : isG l e with
      | true =>
        rw [ht] at q
        left
        cases e <;> simp only [isG, Bool.false_eq_true] at ht
        exact ⟨by rw [Nat.eq_of_beq_eq_true ht], (lim_some (fun n r => loopN_mono (ev_alg E x) n _ r)).1 q⟩
      | false =>
        rw [ht] at q
        refine .inr ⟨?_, q⟩
        rintro rfl
        simp [isG] at ht
    refine ⟨{ p : Nat × TS // loopN (evO R E x) (isG l) keep p.1 (headT keep (keep.map p.2)) K = some r }, fun p => keep.map p.1.2.av, fun p => p.1.1, ?_, ?_⟩
    · refine wpm_mono (fun e σ q => ?_) (ihb h)
      obtain ⟨τ', rfl, q⟩ := q
      rcases key q with ⟨rfl, n, hn⟩ | ⟨hne, q⟩
      · simp only [if_true]
        exact ⟨⟨(n, τ'), hn⟩, agr_map _ keep⟩
      · cases e with
        | exit j =>
          have : j ≠ gid l := fun e => hne (by rw [e])
          simp only [this, if_false]
          exact ⟨τ', rfl, q⟩
        | normal => exact ⟨τ', rfl, q⟩
        | ret => exact ⟨τ', rfl, q⟩
    · rintro ⟨⟨n, τ⟩, hn⟩
      cases n with
      | zero => cases hn
      | succ n =>
        simp only [loopN] at hn
        have e : head keep (keep.map τ.av) = (headT keep (keep.map τ)).av := by rw [headT_av, List.map_map]; rfl
        simp only
        rw [e]
        refine wpm_mono (fun e σ q => ?_) (ihx hn)
        obtain ⟨τ', rfl, q⟩ := q
        cases ht : isG l e with
        | true =>
          rw [ht] at q
          cases e <;> simp only [isG, Bool.false_eq_true] at ht
          rw [Nat.eq_of_beq_eq_true ht]
          simp only [if_true]
          exact ⟨⟨(n, τ'), q⟩, Nat.lt_succ_self n, agr_map _ keep⟩
        | false =>
          rw [ht] at q
          cases e with
          | exit j =>
            have : j ≠ gid l := fun e => by subst e; simp [isG] at ht
            simp only [this, if_false]
            exact ⟨τ', rfl, q⟩
          | normal => exact ⟨τ', rfl, q⟩
          | ret => exact ⟨τ', rfl, q⟩
end

/-! ## Functions -/
structure TFD where
  np : Nat
  m : TM
  ref : Option (Nat × Nat) := none
  tips : List (Nat × (Nat × Nat)) := []
  res : List RV
  own : List (Nat × Nat) := []
  new : Option (Nat × Nat) := none
  tnew : List (Nat × Nat) := []
def TFD.erase (d : TFD) : FD := { np := d.np, m := d.m.erase, ref := d.ref, tips := d.tips, res := d.res, own := d.own, new := d.new, tnew := d.tnew }

def RV.getT (τ : TS) : RV → Option TV
  | .t j => some (τ j)
  | .c a m n agg => match τ a, τ m with
    | .pt, .ag cs => partT cs 0 n agg
    | _, _ => none
def outLT (τ : TS) : List RV → Option (List TV)
  | [] => some []
  | r :: rs => match r.getT τ with
    | some x => match outLT τ rs with
      | some l => some (x :: l)
      | none => none
    | none => none
def TV.isSl : TV → Bool
  | .sl _ _ => true
  | _ => false
def TV.isPt : TV → Bool
  | .pt => true
  | _ => false
def TFD.outT (d : TFD) (τ : TS) : Option (List TV) :=
  match outLT τ d.res with
  | some rs => cond (d.own.all (fun q => (rs.getD q.1 .dead).isSl) && d.new.toList.all (fun q => (rs.getD q.1 .dead).isPt)) (some (rs ++ d.new.toList.map (fun q => τ q.2) ++ d.ref.toList.map (fun q => τ q.2))) none
  | none => none
def TFD.startT (d : TFD) (ins : List TV) : TS :=
  match d.ref with
  | none => headT (List.range d.np) ins
  | some (i, m) => headT (m :: List.range d.np) (ins.getD i .dead :: ins.set i .pt)
def endK (d : TFD) : Cont (List TV) := fun e τ =>
  match e with
  | .exit _ => none
  | _ => d.outT τ
noncomputable def TFD.run (E : TEnv) (d : TFD) (ins : List TV) : Option (List TV) := ev (List TV) E d.m (d.startT ins) (endK d)

theorem outLT_av {τ : TS} : ∀ {rs : List RV} {xs : List TV}, outLT τ rs = some xs → outL τ.av rs = some (xs.map TV.av)
  | [], xs, h => by cases h; rfl
  | r :: rs, xs, h => by
    simp only [outLT] at h
    split at h
    · rename_i x hx
      split at h
      · rename_i l hl
        cases h
        have e : r.get τ.av = some x.av := by
          cases r with
          | t j => cases hx; rfl
          | c a m n agg =>
            simp only [RV.getT] at hx
            split at hx
            · rename_i cs e1 e2
              simp only [RV.get, TS.av, e1, e2, TV.av, TV.avs_map]
              exact partT_av hx
            · cases hx
        simp only [outL, e, outLT_av hl]
        rfl
      · cases h
    · cases h

theorem outT_av {d : TFD} {τ : TS} {outs : List TV} (h : d.outT τ = some outs) : d.erase.OutS τ.av (outs.map TV.av) := by
  unfold TFD.outT at h
  split at h
  · rename_i rs hrs
    cases hc : (d.own.all (fun q => (rs.getD q.1 .dead).isSl) && d.new.toList.all (fun q => (rs.getD q.1 .dead).isPt)) with
    | false => rw [hc] at h; cases h
    | true =>
      rw [hc] at h
      cases h
      simp only [Bool.and_eq_true, List.all_eq_true] at hc
      refine ⟨rs.map TV.av, outLT_av hrs, ?_, ?_, ?_⟩
      · intro q hq
        have := hc.1 q hq
        rw [List.getElem?_map]
        rw [List.getD_eq_getElem?_getD] at this
        cases e : rs[q.1]? with
        | none => rw [e] at this; cases this
        | some x =>
          rw [e] at this
          cases x <;> simp [TV.isSl] at this
          exact ⟨_, _, rfl⟩
      · intro q hq
        have hq : d.new = some q := hq
        have := hc.2 q (by rw [hq]; simp)
        rw [List.getElem?_map]
        rw [List.getD_eq_getElem?_getD] at this
        cases e : rs[q.1]? with
        | none => rw [e] at this; cases this
        | some x =>
          rw [e] at this
          cases x <;> simp [TV.isPt] at this
          rfl
      · simp only [List.map_append, List.map_map]
        rfl
  · cases h

theorem startT_av (d : TFD) (ins : List TV) : (d.startT ins).av = d.erase.start (ins.map TV.av) := by
  unfold TFD.startT FD.start
  have : d.erase.ref = d.ref := rfl
  rw [this]
  cases d.ref with
  | none => exact headT_av _ _
  | some q =>
    obtain ⟨i, m⟩ := q
    simp only [headT_av, List.map_cons, List.map_set]
    congr 2
    simp only [List.getD_eq_getElem?_getD, List.getElem?_map]
    cases ins[i]? <;> rfl

theorem run_ok {E : TEnv} {d : TFD} {ins outs : List TV} (h : d.run E ins = some outs) : d.erase.runs E.env (ins.map TV.av) (outs.map TV.av) := by
  have h : ev (List TV) E d.m (d.startT ins) (endK d) = some outs := h
  rw [← ev_eq] at h
  have := ev_ok h
  unfold FD.runs
  rw [← startT_av]
  refine wpm_mono (fun e σ q => ?_) this
  obtain ⟨τ', rfl, q⟩ := q
  cases e with
  | exit i => cases q
  | normal => exact outT_av q
  | ret => exact outT_av q

/-- A CONTRACT IS MET by a function's code, if what is called meets its own. -/
theorem spec_of {P : Program} {E : TEnv} (hE : ∀ f, SpecOK P E.env.gl f (Ctr.fs (E.fs f))) {f : Nat} {fn : Func} {d : TFD} (hf : P.funcs[f]? = some fn)
    (hc : chkF P (fun n => (E.fs n).2) fn d.erase = true) {c : Ctr} (hG : ∀ ins outs, (c ins).holds outs → ins.length = d.np ∧ d.run E ins = some outs) : SpecOK P E.env.gl f (Ctr.fs (c, d.erase.sg)) := by
  refine spec_ok (E := E.env) (sg := fun n => (E.fs n).2) (fun n => ⟨hE n, rfl⟩) hf hc rfl ?_
  rintro ins outs ⟨ti, to_, rfl, rfl, h⟩
  obtain ⟨h1, h2⟩ := hG ti to_ h
  exact ⟨by simpa [TFD.erase] using h1, run_ok h2⟩
end Go.Eng
