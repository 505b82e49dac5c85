/- Functions: a function's definition in MIR (FD); how its run begins. -/
import Derived.Test.YtenbejbhjgkibaaEngU
set_option linter.unusedVariables false
set_option linter.unusedSimpArgs false
namespace Go.Eng
open Go.RowKit

/-- A result: a slot's, or what a local variable holds (whose address is in slot a). -/
inductive RV where
  | t (t : Nat)
  | c (a m n : Nat) (agg : Bool)

def RV.get (σ : Sg) : RV → Option AV
  | .t j => some (σ j)
  | .c a m n agg => match σ a, σ m with
    | .pt, .ag cs => partAV cs 0 n agg
    | _, _ => none

def outL (σ : Sg) : List RV → Option (List AV)
  | [] => some []
  | r :: rs => (r.get σ).bind fun x => (outL σ rs).map (x :: ·)

/-- A function in MIR: how many arguments; its code; which argument is the address of a variable, and which; that variable's tips (cell, name, size); its results; which are tips (with their size); which is the address of a new variable, and which; that one's tips. -/
structure FD where
  np : Nat
  m : M
  ref : Option (Nat × Nat) := none
  tips : List (Nat × (Nat × Nat)) := []
  res : List RV
  own : List (Nat × Nat) := []
  new : Option (Nat × Nat) := none
  tnew : List (Nat × Nat) := []

def FD.sg (d : FD) : FSig := { ref := d.ref.map (·.1), tips := cut3 d.tips, nres := d.res.length, own := d.own, new := d.new.map (·.1), tnew := d.tnew }

/-- The state at the beginning. -/
def FD.start (d : FD) (ins : List AV) : Sg :=
  match d.ref with
  | none => head (List.range d.np) ins
  | some (i, m) => head (m :: List.range d.np) (ins.getD i .dead :: ins.set i .pt)

/-- The results at the end. -/
def FD.OutS (d : FD) (σ : Sg) (outs : List AV) : Prop :=
  ∃ rs, outL σ d.res = some rs ∧ (∀ q ∈ d.own, ∃ s es, rs[q.1]? = some (.sl s es)) ∧ (∀ q, d.new = some q → rs[q.1]? = some .pt) ∧
    outs = rs ++ d.new.toList.map (fun q => σ q.2) ++ d.ref.toList.map (fun q => σ q.2)

/-- What the code does, from the beginning. -/
def FD.runs (d : FD) (E : Env) (ins outs : List AV) : Prop :=
  wpm E d.m (fun e σ => match e with | .exit _ => False | _ => d.OutS σ outs) (d.start ins)

def cellKey (us : List (Nat × (Nat × Nat))) (q : Nat × Nat) : Option Nat := (us.find? (fun u => u.1 == q.1 && u.2.2 == q.2)).map (·.2.1)
def allS {X : Type} : List (Option X) → Option (List X)
  | [] => some []
  | none :: _ => none
  | some x :: r => (allS r).map (x :: ·)

def RV.key (G : GL) (s : Nat) : RV → Option Nat
  | .t j => match G.get j with
    | .tip k s' => if s = s' then some k else none
    | _ => none
  | .c _ m n agg => if n = 1 ∧ agg = false then (match G.get m with | .cl us => cellKey us (0, s) | _ => none) else none

def varKeys (G : GL) (q : Option (Nat × Nat)) (ts : List (Nat × Nat)) : Option (List Nat) :=
  match q with
  | none => if ts.isEmpty then some [] else none
  | some (_, m) => match G.get m with
    | .cl us => allS (ts.map (cellKey us))
    | _ => none
def FD.keysO (d : FD) (G : GL) : Option (List Nat) := allS (d.own.map fun q => (d.res[q.1]?).bind (RV.key G q.2))
def liveAll (G : GL) (ks : List Nat) (ts : List (Nat × Nat)) : Bool := all2 (fun k q => G.get (lk k) == .live q.2) ks ts
def RV.okG (G : GL) : RV → Bool
  | .t _ => true
  | .c a m _ _ => G.get a == .ptr m 0 && (G.get m).isCl

/-- May it return where this is known? -/
def FD.rt (d : FD) (G : GL) : Bool :=
  d.res.all (RV.okG G) && (match d.ref with | some (_, m) => (G.get m).isCl | none => true) &&
  (match d.new with
   | some (j, m) => (G.get m).isCl && (match d.res[j]? with | some (.t t) => G.get t == .ptr m 0 | _ => false)
   | none => true) &&
  (match varKeys G d.ref (cut3 d.tips), d.keysO G, varKeys G d.new d.tnew with
   | some r, some o, some n => decide (r ++ o ++ n).Nodup && liveAll G r (cut3 d.tips) && liveAll G o d.own && liveAll G n d.tnew
   | _, _, _ => false)

def resOK (P : Program) (nt : Nat) : ResultVar → RV → Bool
  | .tmp t, .t t' => t == t' && decide (t < nt)
  | .cell a ty, .c a' _ n agg => a == a' && decide (a < nt) && shapeOK P ty n agg
  | _, _ => false

def FD.lks (d : FD) : List Nat := d.tips.map fun t => lk t.2.1
def FD.G0 (d : FD) : GL :=
  match d.ref with
  | none => []
  | some (i, m) => GL.updL [] (i :: m :: d.lks) (.ptr m 0 :: .cl d.tips :: d.tips.map fun t => .live t.2.2)

def FD.begins (d : FD) (nt : Nat) : Bool :=
  decide (d.np ≤ nt ∧ nt ≤ 1000000 ∧ (d.tips.map (·.2.1)).Nodup ∧ (d.ref = none → d.tips = []) ∧ (d.new = none → d.tnew = []) ∧ (d.ref = none ∨ d.new = none)) &&
  (match d.ref with | none => true | some (i, m) => decide (i < d.np ∧ nt ≤ m ∧ m = 999999))

/-- THE CHECK OF A FUNCTION. -/
def chkF (P : Program) (sg : Nat → FSig) (fn : Func) (d : FD) : Bool :=
  d.begins fn.ntmps && all2 (resOK P fn.ntmps) fn.results.toList d.res &&
  (match fn.body with
   | some c => (match chk P sg fn.ntmps d.rt c d.m d.G0 with
     | some (n, ex) => ex.isEmpty && n.all d.rt
     | none => false)
   | none => false)

section
variable {X : Type}
theorem updL_get {σ : Nat → X} : ∀ {ks : List Nat} {xs : List X} {p k : Nat} {x : X}, ks.Nodup → ks[p]? = some k → xs[p]? = some x → Eng.updL σ ks xs k = x
  | j :: ks, y :: xs, 0, k, x, _, h1, h2 => by
    simp only [List.getElem?_cons_zero, Option.some.injEq] at h1 h2
    subst h1; subst h2
    simp [Eng.updL, upd]
  | j :: ks, y :: xs, p + 1, k, x, hn, h1, h2 => by
    simp only [List.getElem?_cons_succ] at h1 h2
    rw [List.nodup_cons] at hn
    have : k ≠ j := fun e => hn.1 (e ▸ List.mem_of_getElem? h1)
    simp only [Eng.updL, upd, this, if_false]
    exact updL_get hn.2 h1 h2
  | [], _, _, _, _, _, h1, _ => by simp at h1
  | _ :: _, [], _, _, _, _, _, h2 => by simp at h2
theorem updL_inv {σ : Nat → X} {key : Nat} : ∀ {ks : List Nat} {xs : List X}, Eng.updL σ ks xs key = σ key ∨ ∃ (p : Nat) (x : X), ks[p]? = some key ∧ xs[p]? = some x ∧ Eng.updL σ ks xs key = x
  | j :: ks, y :: xs => by
    by_cases e : key = j
    · right
      exact ⟨0, y, by simp [e], rfl, by simp [Eng.updL, upd, e]⟩
    · simp only [Eng.updL, upd, e, if_false]
      rcases updL_inv (σ := σ) (key := key) (ks := ks) (xs := xs) with h | ⟨p, x, h1, h2, h3⟩
      · exact .inl h
      · exact .inr ⟨p + 1, x, by simpa using h1, by simpa using h2, h3⟩
  | [], _ => .inl rfl
  | _ :: _, [] => .inl rfl
end

theorem start_range {ins : List AV} {n t : Nat} (h : ins.length = n) : head (List.range n) ins t = ins.getD t .dead := by
  unfold head
  by_cases ht : t < n
  · have h1 : (List.range n)[t]? = some t := by simp [ht]
    have hl : t < ins.length := by omega
    have h2 : ins[t]? = some ins[t] := List.getElem?_eq_getElem hl
    rw [updL_get List.nodup_range h1 h2]
    simp [List.getD, h2]
  · rw [updL_out (by simpa using ht)]
    have : ins[t]? = none := List.getElem?_eq_none (by omega)
    simp [List.getD, this]

section
variable {P : Program} {E : Env} {w : World} {R : Reach} {ins : List AV} {xs : List Value}

theorem tmps_get {nt t : Nat} (ht : t < nt) : ((⟨xs⟩ : Array Value) ++ Array.replicate (nt - xs.length) undef).getD t undef = xs.getD t undef := by
  simp only [Array.getD_eq_getD_getElem?, List.getD_eq_getElem?_getD]
  by_cases h : t < xs.length
  · rw [Array.getElem?_append_left (by simpa using h)]
    simp
  · rw [Array.getElem?_append_right (by simpa using h)]
    rw [List.getElem?_eq_none (by omega)]
    simp only [Array.getElem?_replicate]
    split <;> rfl

theorem slot_of (h : RepT R w ins xs) (t : Nat) : Rep R w (ins.getD t .dead) (xs.getD t undef) := by
  by_cases ht : t < ins.length
  · obtain ⟨y, h1, h2⟩ := h.get t _ (List.getElem?_eq_getElem ht)
    simp only [List.getD, List.getElem?_eq_getElem ht, h1, Option.getD_some]
    exact h2
  · simp only [List.getD, List.getElem?_eq_none (Nat.le_of_not_lt ht), Option.getD_none]
    exact .dead _

/-- The block of the variable whose address came in. -/
def fixOf (d : FD) (xs : List Value) : Option Nat :=
  match d.sg.ref with
  | none => none
  | some i => match xs[i]? with
    | some (.pointer (some ⟨b, 0, none⟩)) => some b
    | _ => none

theorem begin_ok {d : FD} {nt : Nat} (hb : d.begins nt = true) (hlen : ins.length = d.np) (hR : ∀ b o, R b o → b < w.heap.size) (hgl : ∀ n, Rep R w (E.gl n) (.pointer (some ⟨n, 0, none⟩))) (ha : ArgsOK d.sg R w ins xs) :
    ∃ D, Sim ⟨P, E, nt, w, R, ioOf d.sg w xs, fixOf d xs⟩ D (d.start ins) d.G0.get { tmps := (⟨xs⟩ : Array Value) ++ Array.replicate (nt - xs.length) undef, defers := [] } w := by
  simp only [FD.begins, Bool.and_eq_true, decide_eq_true_eq] at hb
  obtain ⟨⟨b1, b2, b3, b4, b5, b6⟩, b7⟩ := hb
  have hsize : ∀ (hx : xs.length = d.np), ((⟨xs⟩ : Array Value) ++ Array.replicate (nt - xs.length) undef).size = nt := by
    intro hx
    simp
    omega
  cases href : d.ref with
  | none =>
    have hg : d.sg.ref = none := by simp [FD.sg, href]
    simp only [ArgsOK, hg] at ha
    have hx : xs.length = d.np := by rw [← ha.length, hlen]
    have hG : d.G0 = [] := by simp [FD.G0, href]
    have hst : d.start ins = head (List.range d.np) ins := by simp [FD.start, href]
    rw [hG, hst]
    refine ⟨⟨R, fun _ => 0, fun _ => undef⟩, { size := hsize hx, defers := rfl, ntlt := b2, rng := ?_, lrng := ?_, slot := ?_, mem := ?_, tip := ?_, ps := fun _ _ h => (by cases h), sep := ?_, own := ?_, inv := ?_, ext := Ext.refl _ _ _, rlt := hR, gl := hgl, fix := ?_ }⟩
    · intro m h; cases h
    · intro m h; cases h
    · intro t ht
      refine .inr ⟨?_, fun _ => trivial⟩
      rw [start_range hlen]
      dsimp only
      rw [tmps_get ht]
      exact slot_of ha t
    · intro m ts h; cases h
    · intro m ts h; cases h
    · intro k k' g h; cases h
    · intro k g h; cases h
    · intro k; trivial
    · intro b hb; simp [fixOf, hg] at hb
  | some im =>
    obtain ⟨i, m⟩ := im
    simp only [href, decide_eq_true_eq] at b7
    obtain ⟨c1, c2, rfl⟩ := b7
    generalize hm9 : (999999 : Nat) = m at href c2 ⊢
    have c3 : m < 1000000 := by omega
    have hg : d.sg.ref = some i := by simp [FD.sg, href]
    simp only [ArgsOK, hg] at ha
    obtain ⟨b, cs, x, tv, a1, a2, a3, a4, a5, a6, a7⟩ := ha
    have hx : xs.length = d.np := by rw [← a4.length, List.length_set, hlen]
    have htl : d.sg.tips.length = d.tips.length := by simp [FD.sg, cut3]
    have hlk : d.lks.Nodup := by
      have : d.lks = (d.tips.map (·.2.1)).map lk := by simp [FD.lks]
      rw [this]
      exact List.Pairwise.map _ (fun a b h e => h (lk_inj e)) b3
    have hG : d.G0.get = Eng.updL (fun _ => Gh.no) (i :: m :: d.lks) (.ptr m 0 :: .cl d.tips :: d.tips.map fun t => .live t.2.2) := by
      simp only [FD.G0, href, GL.get_updL]
      rfl
    have hilk : ∀ k, k < 1000000 → k ∉ d.lks := by
      intro k hk hm
      simp only [FD.lks, List.mem_map] at hm
      obtain ⟨t, _, rfl⟩ := hm
      have := lk_ge t.2.1
      omega
    have hnd : (i :: m :: d.lks).Nodup := by
      rw [List.nodup_cons, List.nodup_cons]
      refine ⟨?_, hilk m c3, hlk⟩
      rw [List.mem_cons]
      rintro (e | e)
      · omega
      · exact hilk i (by omega) e
    have gi : d.G0.get i = .ptr m 0 := by rw [hG]; exact updL_get hnd (p := 0) rfl rfl
    have gm : d.G0.get m = .cl d.tips := by rw [hG]; exact updL_get hnd (p := 1) rfl rfl
    have gt : ∀ (p : Nat) (t : Nat × (Nat × Nat)), d.tips[p]? = some t → d.G0.get (lk t.2.1) = .live t.2.2 := by
      intro p t hp
      rw [hG]
      exact updL_get hnd (p := p + 2) (by simp [FD.lks, hp]) (by simp [hp])
    have ginv : ∀ key, d.G0.get key = .no ∨ (key = i ∧ d.G0.get key = .ptr m 0) ∨ (key = m ∧ d.G0.get key = .cl d.tips) ∨ ∃ (p : Nat) (t : Nat × (Nat × Nat)), d.tips[p]? = some t ∧ key = lk t.2.1 ∧ d.G0.get key = .live t.2.2 := by
      intro key
      have h0 := updL_inv (σ := fun _ => Gh.no) (key := key) (ks := i :: m :: d.lks) (xs := .ptr m 0 :: .cl d.tips :: d.tips.map fun t => .live t.2.2)
      rw [← hG] at h0
      rcases h0 with h | ⟨p, g, h1, h2, h3⟩
      · exact .inl h
      · right
        match p, h1, h2 with
        | 0, h1, h2 => simp at h1 h2; subst h1; subst h2; exact .inl ⟨rfl, h3⟩
        | 1, h1, h2 => simp at h1 h2; subst h1; subst h2; exact .inr (.inl ⟨rfl, h3⟩)
        | p + 2, h1, h2 =>
          simp only [List.getElem?_cons_succ, FD.lks, List.getElem?_map, Option.map_eq_some_iff] at h1 h2
          obtain ⟨t, ht, h1⟩ := h1
          obtain ⟨t', ht', h2⟩ := h2
          rw [ht] at ht'; cases ht'
          exact .inr (.inr ⟨p, t, ht, h1.symm, h2 ▸ h3⟩)
    have hτ : ∀ (p : Nat) (t : Nat × (Nat × Nat)) (v : Value), d.tips[p]? = some t → tv[p]? = some v → Eng.updL (fun _ => undef) d.lks tv (lk t.2.1) = v := by
      intro p t v hp hv
      exact updL_get hlk (p := p) (by simp [FD.lks, hp]) hv
    have htv : ∀ (p : Nat) (t : Nat × (Nat × Nat)), d.tips[p]? = some t → ∃ v, tv[p]? = some v ∧ Eng.updL (fun _ => undef) d.lks tv (lk t.2.1) = v ∧ cs[t.1]? = some v ∧ TipOK R w v t.2.2 := by
      intro p t hp
      have hlt := (List.getElem?_eq_some_iff.1 hp).1
      have hv : tv[p]? = some tv[p] := List.getElem?_eq_getElem (by omega)
      have hs : d.sg.tips[p]? = some (t.1, t.2.2) := by simp [FD.sg, cut3, hp]
      obtain ⟨q1, q2⟩ := a6 p _ _ hs hv
      exact ⟨_, hv, hτ p t _ hp hv, q1, q2⟩
    have hst : d.start ins = head (m :: List.range d.np) (ins.getD i .dead :: ins.set i .pt) := by simp [FD.start, href]
    have sm : d.start ins m = x := by
      rw [hst]
      simp [head, Eng.updL, upd, List.getD, a2]
    have ss : ∀ t, t ≠ m → d.start ins t = (ins.set i .pt).getD t .dead := by
      intro t ht
      rw [hst]
      simp only [head, Eng.updL, upd, ht, if_false]
      exact start_range (by simpa using hlen)
    have hblk : ∀ key g, blk ⟨R, fun _ => b, Eng.updL (fun _ => undef) d.lks tv⟩ d.G0.get key = some g →
        ∃ p, (some b :: tv.map Value.ownBlock)[p]? = some (some g) ∧ (p = 0 → key = m) ∧ (∀ q, p = q + 1 → ∃ t, d.tips[q]? = some t ∧ key = lk t.2.1) := by
      intro key g hk
      rcases ginv key with e | ⟨_, e⟩ | ⟨k1, e⟩ | ⟨p, t, hp, k1, e⟩
      · simp [blk, e] at hk
      · simp [blk, e] at hk
      · rw [blk_cl e] at hk
        exact ⟨0, by simpa using hk, fun _ => k1, fun q hq => by omega⟩
      · rw [blk_live e] at hk
        obtain ⟨v, hv, h1, _, _⟩ := htv p t hp
        rw [k1] at hk
        dsimp only at hk
        rw [h1] at hk
        refine ⟨p + 1, by simp [hv, hk], fun h => by omega, fun q hq => ⟨t, ?_, k1⟩⟩
        have : q = p := by omega
        subst this
        exact hp
    refine ⟨⟨R, fun _ => b, Eng.updL (fun _ => undef) d.lks tv⟩, { size := hsize hx, defers := rfl, ntlt := b2, rng := ?_, lrng := ?_, slot := ?_, mem := ?_, tip := ?_, ps := fun k s hk => (by
      rcases ginv k with e | ⟨_, e⟩ | ⟨_, e⟩ | ⟨_, _, _, _, e⟩ <;> rw [e] at hk <;> cases hk), sep := ?_, own := ?_, inv := ?_, ext := Ext.refl _ _ _, rlt := hR, gl := hgl, fix := ?_ }⟩
    · intro k hk
      rcases ginv k with e | ⟨_, e⟩ | ⟨k1, e⟩ | ⟨p, t, hp, k1, e⟩
      · rw [e] at hk; cases hk
      · rw [e] at hk; cases hk
      · subst k1; exact ⟨c2, c3⟩
      · rw [e] at hk; cases hk
    · intro k hk
      rcases ginv k with e | ⟨_, e⟩ | ⟨k1, e⟩ | ⟨p, t, hp, k1, e⟩
      · rw [e] at hk; cases hk
      · rw [e] at hk; cases hk
      · rw [e] at hk; cases hk
      · subst k1; exact lk_ge _
    · intro t ht
      dsimp only at ht ⊢
      rw [ss t (by omega), tmps_get ht]
      refine .inr ⟨slot_of a4 t, fun _ => ?_⟩
      rcases ginv t with e | ⟨k1, e⟩ | ⟨k1, e⟩ | ⟨p, t', hp, k1, e⟩
      · rw [e]; trivial
      · rw [e]
        simp only [GhOK]
        subst k1
        simp [List.getD, a1]
      · omega
      · have := lk_ge t'.2.1
        omega
    · intro k ts hk
      rcases ginv k with e | ⟨k1, e⟩ | ⟨k1, e⟩ | ⟨p, t', hp, k1, e⟩
      · rw [e] at hk; cases hk
      · rw [e] at hk; cases hk
      · rw [e] at hk
        cases hk
        subst k1
        rw [sm]
        refine ⟨cs, a3, fun t ht => ?_⟩
        obtain ⟨p, hp⟩ := List.getElem?_of_mem ht
        obtain ⟨v, _, h1, h2, _⟩ := htv p t hp
        dsimp only
        rw [h1]
        exact h2
      · rw [e] at hk; cases hk
    · intro k s hk
      rcases ginv k with e | ⟨k1, e⟩ | ⟨k1, e⟩ | ⟨p, t', hp, k1, e⟩
      · rw [e] at hk; cases hk
      · rw [e] at hk; cases hk
      · rw [e] at hk; cases hk
      · rw [e] at hk
        cases hk
        obtain ⟨v, _, h1, _, h3⟩ := htv p t' hp
        subst k1
        dsimp only
        rw [h1]
        exact h3
    · intro k k' g h1 h2
      obtain ⟨p, q1, q2, q3⟩ := hblk k g h1
      obtain ⟨p', r1, r2, r3⟩ := hblk k' g h2
      have := a7 p p' g q1 r1
      subst this
      left
      cases p with
      | zero => rw [q2 rfl, r2 rfl]
      | succ p =>
        obtain ⟨t, ht, e1⟩ := q3 p rfl
        obtain ⟨t', ht', e2⟩ := r3 p rfl
        rw [ht] at ht'
        cases ht'
        rw [e1, e2]
    · intro k g h1
      left
      simp only [ioOf, hg]
      obtain ⟨elem, hh, _, _⟩ := a3
      refine ⟨b, cs, elem, a1, hh, ?_⟩
      obtain ⟨p, q1, q2, q3⟩ := hblk k g h1
      cases p with
      | zero =>
        left
        simpa using q1.symm
      | succ p =>
        right
        obtain ⟨t, ht, e1⟩ := q3 p rfl
        obtain ⟨v, hv, _, h2, _⟩ := htv p t ht
        refine ⟨(t.1, t.2.2), ?_, v, h2, ?_⟩
        · simp only [FD.sg, cut3, List.mem_map]
          exact ⟨t, List.mem_of_getElem? ht, rfl⟩
        · simpa [hv] using q1
    · intro k
      rcases ginv k with e | ⟨k1, e⟩ | ⟨k1, e⟩ | ⟨p, t', hp, k1, e⟩
      · rw [e]; trivial
      · rw [e]
        simp only [Ment, gm, Gh.isCl]
      · rw [e]
        intro t ht
        obtain ⟨p, hp⟩ := List.getElem?_of_mem ht
        rw [gt p t hp]
        rfl
      · rw [e]; trivial
    · intro b' hb'
      simp only [fixOf, hg, a1, Option.some.injEq] at hb'
      exact hb'
end
end Go.Eng
