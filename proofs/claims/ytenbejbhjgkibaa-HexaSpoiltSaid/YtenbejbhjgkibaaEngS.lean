/- Regions: operations one after another, or in any order that the edges leave. -/
import Derived.Test.YtenbejbhjgkibaaEngR
set_option linter.unusedVariables false
set_option linter.unusedSimpArgs false
namespace Go.Eng
open Go.RowKit

/-! ## Steps that look at and write a few keys -/
section
variable {X : Type}

def agree (l : List Nat) (σ τ : Nat → X) : Prop := ∀ k ∈ l, σ k = τ k
def LStep (R : (Nat → X) → List X → Prop) (ds : List Nat) (σ σ' : Nat → X) : Prop := ∃ ws, R σ ws ∧ ws.length = ds.length ∧ σ' = updL σ ds ws
def Local (rs : List Nat) (R : (Nat → X) → List X → Prop) : Prop := ∀ σ τ ws, agree rs σ τ → R σ ws → R τ ws

theorem LStep.swap {R S : (Nat → X) → List X → Prop} {d e r s : List Nat} (lr : Local r R) (ls : Local s S) (h1 : ∀ k ∈ d, k ∉ s) (h2 : ∀ k ∈ d, k ∉ e) (h3 : ∀ k ∈ e, k ∉ r) {σ σ1 σ2 : Nat → X}
    (a : LStep R d σ σ1) (b : LStep S e σ1 σ2) : ∃ σ1', LStep S e σ σ1' ∧ LStep R d σ1' σ2 := by
  obtain ⟨ws, hR, hl, rfl⟩ := a
  obtain ⟨vs, hS, hm, rfl⟩ := b
  exact ⟨updL σ e vs, ⟨vs, ls _ _ _ (fun k hk => updL_out fun hd => h1 k hd hk) hS, hm, rfl⟩, ws, lr _ _ _ (fun k hk => (updL_out fun he => h3 k he hk).symm) hR, hl, updL_comm h2⟩
end

def RS (E : Env) (m : MOp) (σ : Sg) (ws : List AV) : Prop :=
  match guardV σ m.gd with
  | some true => sem E m.k (m.rs.map (Opd.ev E σ)) ws
  | some false => ws = m.ds.map fun _ => .sk
  | none => False
def RG (m : MOp) (γ : Ga) (gs : List Gh) : Prop := gsem m.k (m.rs.map (Opd.gh γ)) = some gs

theorem stepS_iff {E : Env} {m : MOp} {σ σ' : Sg} : stepS E m σ σ' ↔ LStep (RS E m) m.ds σ σ' := Iff.rfl

theorem mem_reads {m : MOp} {t : Nat} (h : Opd.s t ∈ m.rs) : t ∈ m.reads :=
  List.mem_append_left _ (List.mem_filterMap.2 ⟨_, h, rfl⟩)

theorem RS_local (E : Env) (m : MOp) : Local m.reads (RS E m) := by
  intro σ τ ws h
  have h1 : guardV σ m.gd = guardV τ m.gd := by
    cases hg : m.gd with
    | none => rfl
    | some q =>
      obtain ⟨t, b⟩ := q
      have : σ t = τ t := h t (by simp [MOp.reads, hg])
      simp only [guardV, this]
  have h2 : m.rs.map (Opd.ev E σ) = m.rs.map (Opd.ev E τ) := List.map_congr_left fun r hr => by
    cases r with
    | s t => exact h t (mem_reads hr)
    | c x => rfl
    | g n => rfl
  unfold RS
  rw [h1, h2]
  exact id
theorem RG_local (m : MOp) : Local m.reads (RG m) := by
  intro σ τ ws h
  have h2 : m.rs.map (Opd.gh σ) = m.rs.map (Opd.gh τ) := List.map_congr_left fun r hr => by
    cases r with
    | s t => exact h t (mem_reads hr)
    | c x => rfl
    | g n => rfl
  unfold RG
  rw [h2]
  exact id

def run2 (E : Env) : List MOp → Sg → Ga → Sg → Ga → Prop
  | [], σ, γ, σ', γ' => σ' = σ ∧ γ' = γ
  | m :: ms, σ, γ, σ', γ' => ∃ σ1 γ1, LStep (RS E m) m.ds σ σ1 ∧ LStep (RG m) m.ds γ γ1 ∧ run2 E ms σ1 γ1 σ' γ'

theorem clash_spec {n m : MOp} (h : clash n m = false) : (∀ k ∈ n.ds, k ∉ m.reads) ∧ (∀ k ∈ n.ds, k ∉ m.ds) ∧ (∀ k ∈ m.ds, k ∉ n.reads) := by
  simp only [clash, Bool.or_eq_false_iff, List.any_eq_false, Bool.not_eq_true, List.contains_eq_mem, decide_eq_false_iff_not] at h
  exact ⟨fun k hk => (h.1 k hk).1, fun k hk => (h.1 k hk).2, fun k hk => h.2 k hk⟩

theorem run2_front {E : Env} {m : MOp} {B : List MOp} : ∀ {A : List MOp} {σ σ' : Sg} {γ γ' : Ga}, run2 E (A ++ m :: B) σ γ σ' γ' → (∀ n ∈ A, clash n m = false) → run2 E (m :: (A ++ B)) σ γ σ' γ'
  | [], _, _, _, _, h, _ => h
  | n :: A, σ, σ', γ, γ', h, hc => by
    obtain ⟨σ1, γ1, s, g, h⟩ := h
    obtain ⟨σ2, γ2, s2, g2, h⟩ := run2_front h fun x hx => hc x (List.mem_cons_of_mem _ hx)
    obtain ⟨c1, c2, c3⟩ := clash_spec (hc n (List.mem_cons_self ..))
    obtain ⟨σ3, s3, s4⟩ := s.swap (RS_local E n) (RS_local E m) c1 c2 c3 s2
    obtain ⟨γ3, g3, g4⟩ := g.swap (RG_local n) (RG_local m) c1 c2 c3 g2
    exact ⟨σ3, γ3, s3, g3, σ2, γ2, s4, g4, h⟩

theorem GL.get_updL : ∀ {G : GL} {ts : List Nat} {xs : List Gh}, (GL.updL G ts xs).get = Eng.updL G.get ts xs
  | G, t :: ts, x :: xs => by
    funext k
    simp only [GL.updL, GL.get, Eng.updL, upd, GL.get_updL (G := G) (ts := ts) (xs := xs)]
  | G, [], _ => by simp [GL.updL, Eng.updL]
  | G, _ :: _, [] => by simp [GL.updL, Eng.updL]

theorem run2_of {E : Env} : ∀ {ms : List MOp} {σ σ' : Sg} {G G' : GL}, runS E ms σ σ' → grun ms G = some G' → run2 E ms σ G.get σ' G'.get
  | [], _, _, _, _, h, g => by
    simp only [grun, Option.some.injEq] at g
    subst g
    exact ⟨h, rfl⟩
  | m :: ms, σ, σ', G, G', ⟨σ1, s, h⟩, g => by
    simp only [grun, gstep, Option.bind_eq_some_iff] at g
    obtain ⟨G1, ⟨gs, g1, g2⟩, g3⟩ := g
    rw [Option.ite_none_right_eq_some] at g2
    obtain ⟨hl, e⟩ := g2
    cases e
    exact ⟨σ1, _, s, ⟨gs, g1, hl, GL.get_updL⟩, run2_of h g3⟩

/-! ## One operation -/
section
variable {C : Ctx} {D : Dyn} {σ : Sg} {γ : Ga} {a : Act} {w : World}

theorem Sim.ment (h : Sim C D σ γ a w) (r : Opd) : Ment γ (r.gh γ) := by
  cases r with
  | s t => exact h.inv t
  | c x => trivial
  | g n => trivial

theorem strip_ok {γ : Ga} {g : Gh} (h : Ment γ g) : g.strip.isCl = false ∧ g.strip.isLk = false ∧ Ment γ g.strip := by
  cases g <;> first | exact ⟨rfl, rfl, trivial⟩ | exact ⟨rfl, rfl, h⟩

theorem comp_ok {γ : Ga} {g : Gh} (h : Ment γ g) (i : Nat) : (g.comp i).isCl = false ∧ (g.comp i).isLk = false ∧ Ment γ (g.comp i) := by
  cases g with
  | tup ts p =>
    simp only [Gh.comp]
    split
    · rename_i q k s e
      exact ⟨rfl, rfl, h.1 _ (List.mem_of_find?_eq_some e)⟩
    · split
      · rename_i j m
        split
        · exact ⟨rfl, rfl, h.2 _ rfl⟩
        · exact ⟨rfl, rfl, trivial⟩
      · exact ⟨rfl, rfl, trivial⟩
  | _ => exact ⟨rfl, rfl, trivial⟩

theorem dOK1 {nt : Nat} {dst : Option Nat} {x : Nat} {l ds : List Nat} (h : (match dst with | some d => decide (d < nt) && ds == d :: x :: l | none => false) = true) (hl : ds.length = 1) : False := by
  obtain ⟨d, _, _, rfl⟩ := dOK0 h
  simp at hl

theorem dOK2 {nt : Nat} {dst : Option Nat} {l ds : List Nat} (hl : ds.length = 1) (h : (match dst with | some d => decide (d < nt) && ds == d :: l | none => false) = true) : ∃ d, dst = some d ∧ d < nt ∧ ds = [d] ∧ l = [] := by
  obtain ⟨d, h1, h2, rfl⟩ := dOK0 h
  have : l = [] := by simpa using hl
  subst this
  exact ⟨d, h1, h2, rfl, rfl⟩

theorem one_gh (h : Sim C D σ γ a w) {k : K} {rs : List Opd} {ds : List Nat} {gd : Option (Nat × Bool)} {dst : Option Nat} {gs : List Gh} (hk : keysOK C.nt dst ⟨k, rs, ds, gd⟩ = true)
    (hl : ds.length = 1) (hd : dst.isSome = true) (hg : gsem k (rs.map (Opd.gh γ)) = some gs) :
    ∃ d g, dst = some d ∧ d < C.nt ∧ ds = [d] ∧ (gs.length = 1 → gs = [g]) ∧ g.isCl = false ∧ g.isLk = false ∧ Ment γ g := by
  have base := fun (l : List Nat) => dOK2 (nt := C.nt) (dst := dst) (l := l) hl
  cases k
  case mv =>
    obtain ⟨d, h1, h2, h3, -⟩ := base [] hk
    simp only [gsem] at hg
    split at hg
    · rename_i g e
      cases hg
      cases rs with
      | nil => simp at e
      | cons r rs =>
        simp only [List.map_cons, List.cons.injEq] at e
        obtain ⟨q1, q2, q3⟩ := strip_ok (e.1 ▸ h.ment r)
        exact ⟨d, _, h1, h2, h3, fun _ => rfl, q1, q2, q3⟩
    · cases hg
  case ex i =>
    obtain ⟨d, h1, h2, h3, -⟩ := base [] hk
    simp only [gsem] at hg
    split at hg
    · rename_i g e
      cases hg
      cases rs with
      | nil => simp at e
      | cons r rs =>
        simp only [List.map_cons, List.cons.injEq] at e
        obtain ⟨q1, q2, q3⟩ := comp_ok (e.1 ▸ h.ment r) i
        exact ⟨d, _, h1, h2, h3, fun _ => rfl, q1, q2, q3⟩
    · cases hg
  case fa m o x =>
    obtain ⟨d, h1, h2, h3, -⟩ := base [] hk
    simp only [gsem] at hg
    split at hg
    · rename_i m' o' e
      rw [Option.ite_none_right_eq_some] at hg
      obtain ⟨⟨rfl, rfl⟩, hg⟩ := hg
      cases hg
      cases rs with
      | nil => simp at e
      | cons r rs =>
        simp only [List.map_cons, List.cons.injEq] at e
        have := e.1 ▸ h.ment r
        exact ⟨d, _, h1, h2, h3, fun _ => rfl, rfl, rfl, this⟩
    · cases hg
  case nc m o =>
    obtain ⟨d, h1, h2, h3, -⟩ := base [] hk
    simp only [gsem] at hg
    split at hg
    · rename_i m' o' e
      rw [Option.ite_none_right_eq_some] at hg
      obtain ⟨⟨rfl, rfl⟩, hg⟩ := hg
      cases hg
      cases rs with
      | nil => simp at e
      | cons r rs =>
        simp only [List.map_cons, List.cons.injEq] at e
        have := e.1 ▸ h.ment r
        exact ⟨d, _, h1, h2, h3, fun _ => rfl, rfl, rfl, this⟩
    · cases hg
  case ld m o n agg =>
    simp only [keysOK, Bool.and_eq_true] at hk
    obtain ⟨d, h1, h2, h3, -⟩ := base [] hk.2
    simp only [gsem] at hg
    split at hg
    · rename_i m' o' ts e
      rw [Option.ite_none_right_eq_some] at hg
      obtain ⟨⟨rfl, rfl⟩, hg⟩ := hg
      cases hg
      have hm : Ment γ (.cl ts) := by
        match rs, e with
        | [r, q], e =>
          simp only [List.map_cons, List.map_nil, List.cons.injEq] at e
          exact e.2.1 ▸ h.ment q
      refine ⟨d, _, h1, h2, h3, fun _ => rfl, ?_⟩
      split
      · exact ⟨rfl, rfl, trivial⟩
      · split
        · rename_i q k s e
          exact ⟨rfl, rfl, hm _ (List.mem_of_find?_eq_some e)⟩
        · exact ⟨rfl, rfl, trivial⟩
    · cases hg
  case call f c =>
    simp only [keysOK, Bool.and_eq_true] at hk
    obtain ⟨d, h1, h2, h3, h4⟩ := base _ hk.1.2
    simp only [gsem] at hg
    rw [Option.ite_none_right_eq_some] at hg
    obtain ⟨_, hg⟩ := hg
    cases hg
    rw [List.append_eq_nil_iff] at h4
    obtain ⟨h4, h5⟩ := h4
    simp only [CS.mems, List.append_eq_nil_iff] at h4
    simp only [CS.lks, List.map_eq_nil_iff, List.append_eq_nil_iff] at h5
    have hn : c.new = none := by cases hc : c.new <;> simp_all
    refine ⟨d, c.dg, h1, h2, h3, fun hl => ?_, ?_⟩
    · simp only [List.length_cons, Nat.add_eq_right, List.length_eq_zero_iff] at hl
      rw [hl]
    · simp only [CS.dg, hn, h5.1.2]
      split
      · exact ⟨rfl, rfl, trivial⟩
      · refine ⟨rfl, rfl, ?_⟩
        simp [Ment]
  case st m o n =>
    simp only [keysOK, Bool.and_eq_true, Option.isNone_iff_eq_none] at hk
    rw [hk.1.1.2] at hd
    cases hd
  case al m z ts => simp only [keysOK, Bool.and_eq_true] at hk; exact (dOK1 hk.2 hl).elim
  case bx m => simp only [keysOK, Bool.and_eq_true] at hk; exact (dOK1 hk.2 hl).elim
  case sbt k => simp only [keysOK, Bool.and_eq_true] at hk; exact (dOK1 hk.2 hl).elim
  case blt s n k => simp only [keysOK, Bool.and_eq_true] at hk; exact (dOK1 hk.2 hl).elim
  case ap => simp only [keysOK, Bool.and_eq_true] at hk; exact (dOK1 hk.2 hl).elim
  case aps => simp only [keysOK, Bool.and_eq_true] at hk; exact (dOK1 hk.2 hl).elim
  case an => simp only [keysOK, Bool.and_eq_true] at hk; exact (dOK1 hk.2 hl).elim
  case ans => simp only [keysOK, Bool.and_eq_true] at hk; exact (dOK1 hk.2 hl).elim
  case mk => simp only [keysOK, Bool.and_eq_true] at hk; exact (dOK1 hk.2 hl).elim
  case nl => simp only [keysOK, Bool.and_eq_true] at hk; exact (dOK1 hk.2 hl).elim
  case pss => simp only [keysOK, Bool.and_eq_true] at hk; exact (dOK1 hk.2 hl).elim
  case pfz k s =>
    simp only [keysOK, Bool.and_eq_true] at hk
    obtain ⟨_, hk⟩ := hk
    split at hk
    · simp only [Bool.and_eq_true] at hk
      exact (dOK1 hk.2 hl).elim
    · cases hk
  case pst k s n =>
    simp only [keysOK, Bool.and_eq_true, Option.isNone_iff_eq_none] at hk
    rw [hk.1.1] at hd
    cases hd
  case pln k =>
    simp only [keysOK, Bool.and_eq_true] at hk
    obtain ⟨d, h1, h2, h3, -⟩ := base [] hk.2
    simp only [gsem] at hg
    split at hg
    · rw [Option.ite_none_right_eq_some] at hg
      obtain ⟨_, hg⟩ := hg
      cases hg
      exact ⟨d, .no, h1, h2, h3, fun _ => rfl, rfl, rfl, trivial⟩
    · cases hg
  case pld k s n agg =>
    simp only [keysOK, Bool.and_eq_true] at hk
    obtain ⟨d, h1, h2, h3, -⟩ := base [] hk.2
    simp only [gsem] at hg
    split at hg
    · rw [Option.ite_none_right_eq_some] at hg
      obtain ⟨_, hg⟩ := hg
      cases hg
      exact ⟨d, .no, h1, h2, h3, fun _ => rfl, rfl, rfl, trivial⟩
    · cases hg
  case pix k s =>
    simp only [keysOK, Bool.and_eq_true] at hk
    obtain ⟨d, h1, h2, h3, -⟩ := base [] hk.2
    simp only [gsem] at hg
    split at hg
    · rename_i k' s0 g0 s1 e
      rw [Option.ite_none_right_eq_some] at hg
      obtain ⟨⟨rfl, rfl⟩, hg⟩ := hg
      cases hg
      cases rs with
      | nil => simp at e
      | cons r rs =>
        simp only [List.map_cons, List.cons.injEq] at e
        have := e.1 ▸ h.ment r
        exact ⟨d, _, h1, h2, h3, fun _ => rfl, rfl, rfl, this⟩
    · cases hg
  case pfa k o =>
    obtain ⟨d, h1, h2, h3, -⟩ := base [] hk
    simp only [gsem] at hg
    split at hg
    · rename_i k' e
      rw [Option.ite_none_right_eq_some] at hg
      obtain ⟨rfl, hg⟩ := hg
      cases hg
      cases rs with
      | nil => simp at e
      | cons r rs =>
        simp only [List.map_cons, List.cons.injEq] at e
        have := e.1 ▸ h.ment r
        exact ⟨d, _, h1, h2, h3, fun _ => rfl, rfl, rfl, this⟩
    · cases hg
  all_goals
    obtain ⟨d, h1, h2, h3, -⟩ := base [] hk
    simp only [gsem, Option.some.injEq] at hg
    exact ⟨d, .no, h1, h2, h3, fun _ => hg.symm, rfl, rfl, trivial⟩

theorem yield_of (h : Sim C D σ γ a w) {ops : Array Oper} {j d : Nat} {x : Bool} (hd : d < C.nt) (hj : (ops[j]?).bind (·.dst) = some d) (hx : σ d = .v (.bool x)) : yielded ops a.tmps j = some x := by
  have hs : d < a.tmps.size := by rw [h.size]; exact hd
  have h0 := h.slot d hd
  rw [hx] at h0
  rcases h0 with e | ⟨e, _⟩
  · cases e
  · have e2 : a.tmps[d]? = some (.bool x) := by
      rw [Array.getElem?_eq_getElem hs]
      have e3 : a.tmps.getD d undef = a.tmps[d] := by simp [Array.getD, hs]
      rw [e3] at e
      generalize a.tmps[d] = y at e
      cases e
      rfl
    simp [yielded, hj, e2]

theorem yield_sk (h : Sim C D σ γ a w) {ops : Array Oper} {j d : Nat} (hd : d < C.nt) (hj : (ops[j]?).bind (·.dst) = some d) (hx : σ d = .sk) : yielded ops a.tmps j = none := by
  have hs : d < a.tmps.size := by rw [h.size]; exact hd
  have h0 := h.slot d hd
  rw [hx] at h0
  rcases h0 with e | ⟨e, _⟩
  · cases e
  · have e2 : a.tmps[d]? = some (.tuple ⟨[]⟩) := by
      rw [Array.getElem?_eq_getElem hs]
      have e3 : a.tmps.getD d undef = a.tmps[d] := by simp [Array.getD, hs]
      rw [e3] at e
      generalize a.tmps[d] = y at e
      cases e with
      | tu e => cases e; rfl
    simp [yielded, hj, e2]

variable {sg : Nat → FSig} {K : Act → World → Prop} {Q : Exit → Act → World → Prop}

theorem step_ok (hE : ∀ f, SpecOK C.P C.E.gl f (C.E.fs f) ∧ (C.E.fs f).sg = sg f) {ops : Array Oper} {o : Oper} {m : MOp} {σ1 : Sg} {γ1 : Ga} (h : Sim C D σ γ a w)
    (ho : opOK C.P sg o m = true) (hk : keysOK C.nt o.dst m = true) (hg : guardOK C.nt ops o m = true) (hsm : small C.nt o.op.operands.toList = true)
    (s1 : LStep (RS C.E m) m.ds σ σ1) (s2 : LStep (RG m) m.ds γ γ1) (hK : ∀ D' a' w', Sim C D' σ1 γ1 a' w' → K a' w') :
    if Region.wanted o (yielded ops a.tmps) then o.wp C.P a w K Q ∨ (o.asks C.P a w ∧ LetsOut Q) else K (a.put o.dst undef) w := by
  obtain ⟨k, rs, ds, gd⟩ := m
  obtain ⟨dst, op, ty, pos, after, guard⟩ := o
  obtain ⟨ws, r1, l1, rfl⟩ := s1
  obtain ⟨gs, r2, l2, rfl⟩ := s2
  unfold RG at r2
  simp only [RS] at r1
  simp only [guardOK] at hg
  split at hg
  · simp only [guardV] at r1
    simp only [Region.wanted, if_true]
    exact .inl (kind_ok hE k h ho hk hsm r1 r2 hK)
  · rename_i j b t b'
    simp only [Bool.and_eq_true, beq_iff_eq, decide_eq_true_eq] at hg
    obtain ⟨⟨⟨⟨rfl, ht⟩, hj⟩, hl⟩, hd⟩ := hg
    split at hj
    · rename_i d hd'
      have hj : d = t := by simpa using hj
      subst hj
      simp only [guardV] at r1
      cases hx : σ d with
      | v z =>
        cases z with
        | bool x =>
          have hy := yield_of h ht hd' hx
          simp only [hx] at r1
          cases hw : x == b with
          | true =>
            simp only [hw] at r1
            have hw' : (some x == some b) = true := by simpa using hw
            simp only [Region.wanted, hy, hw', if_true]
            exact .inl (kind_ok hE k h ho hk hsm r1 r2 hK)
          | false =>
            simp only [hw] at r1
            have hw' : (some x == some b) = false := by simpa using hw
            simp only [Region.wanted, hy, hw', Bool.false_eq_true, if_false]
            subst r1
            obtain ⟨d', g, e1, e2, e3, e4, e5, e6, e7⟩ := one_gh h hk hl hd r2
            dsimp only at e1 hl l2 hK ⊢
            subst e1
            subst e3
            have := e4 l2
            subst this
            exact hK _ _ _ (h.put e2 (.inr ⟨.tu .nil, fun h => absurd rfl h⟩) e5 e6 e7)
        | _ => simp only [hx] at r1
      | tu l =>
        cases l with
        | cons y l => simp only [hx] at r1
        | nil =>
          have hy := yield_sk h ht hd' hx
          simp only [hx] at r1
          have hw' : ((none : Option Bool) == some b) = false := rfl
          simp only [Region.wanted, hy, hw', Bool.false_eq_true, if_false]
          subst r1
          obtain ⟨d', g, e1, e2, e3, e4, e5, e6, e7⟩ := one_gh h hk hl hd r2
          dsimp only at e1 hl l2 hK ⊢
          subst e1
          subst e3
          have := e4 l2
          subst this
          exact hK _ _ _ (h.put e2 (.inr ⟨.tu .nil, fun h => absurd rfl h⟩) e5 e6 e7)
      | _ => simp only [hx] at r1
    · cases hj
  · cases hg

/-! ## Regions -/

abbrev oneOK (P : Program) (sg : Nat → FSig) (nt : Nat) (ops : Array Oper) (o : Oper) (m : MOp) : Bool :=
  opOK P sg o m && keysOK nt o.dst m && guardOK nt ops o m && small nt o.op.operands.toList

theorem list_ok (hE : ∀ f, SpecOK C.P C.E.gl f (C.E.fs f) ∧ (C.E.fs f).sg = sg f) {ops : Array Oper} {σ' : Sg} {γ' : Ga} : ∀ {os : List Oper} {ms : List MOp} {D : Dyn} {σ : Sg} {γ : Ga} {a : Act} {w : World}, Sim C D σ γ a w →
    all2 (oneOK C.P sg C.nt ops) os ms = true → run2 C.E ms σ γ σ' γ' → (∀ D' a' w', Sim C D' σ' γ' a' w' → Q .normal a' w') → wpList C.P ops Q os a w
  | [], [], _, _, _, _, _, h, _, ⟨e1, e2⟩, hQ => by subst e1; subst e2; exact hQ _ _ _ h
  | o :: os, m :: ms, _, _, _, _, _, h, hc, ⟨σ1, γ1, s1, s2, hr⟩, hQ => by
    simp only [all2, oneOK, Bool.and_eq_true] at hc
    obtain ⟨⟨⟨⟨c1, c2⟩, c3⟩, c4⟩, c5⟩ := hc
    unfold wpList
    exact step_ok hE h c1 c2 c3 c4 s1 s2 fun D' a' w' h' => list_ok hE h' (by simpa only [all2, oneOK] using c5) hr hQ
  | [], _ :: _, _, _, _, _, _, _, hc, _, _ => by simp [all2] at hc
  | _ :: _, [], _, _, _, _, _, _, hc, _, _ => by simp [all2] at hc
end
end Go.Eng
