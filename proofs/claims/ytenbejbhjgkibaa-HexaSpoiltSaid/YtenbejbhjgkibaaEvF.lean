/- Functions in typed form: their code, what it gives, what a function's contract is. -/
import Derived.Test.YtenbejbhjgkibaaEvE
set_option linter.unusedVariables false
set_option linter.unusedSimpArgs false
namespace Go.Eng

/-- Kinds of operations, with what typed values need. -/
inductive TK where
  | k (x : K)
  | bl (t : STy) (n : Nat)
  | blt (t : STy) (n k : Nat)
  | bd (z : List TV) (pl : List (Nat × Nat))
  | al (m : Nat) (z : List TV) (ts : List (Nat × (Nat × Nat)))
  | mk (d by_ : Nat) (t : STy) (z : t.El)
  | nl (t : STy) (d : Nat)
def TK.erase : TK → K
  | .k x => x
  | .bl t n => .bl t.size n
  | .blt t n d => .blt t.size n d
  | .bd z pl => .bd (TV.avs z) pl
  | .al m z ts => .al m (TV.avs z) ts
  | .mk d b t z => .mk d t.size b (t.av z)
  | .nl t d => .nl d t.size

inductive TOpd where
  | s (t : Nat)
  | c (x : TV)
  | g (n : Nat)
def TOpd.erase : TOpd → Opd
  | .s t => .s t
  | .c x => .c x.av
  | .g n => .g n

structure TOp where
  k : TK
  rs : List TOpd
  ds : List Nat
  gd : Option (Nat × Bool) := none
def TOp.erase (m : TOp) : MOp := ⟨m.k.erase, m.rs.map TOpd.erase, m.ds, m.gd⟩

inductive TM where
  | skip
  | reg (ops : List TOp)
  | seq (a : TM) (keep : Option (List Nat)) (b : TM)
  | cond (x : TOpd) (G : List (Nat × Gh)) (a b : TM)
  | block (id : Nat) (G : List (Nat × Gh)) (b : TM)
  | loop (keep : List Nat) (G : List (Nat × Gh)) (b : TM)
  | exit (id : Nat)
  | ret
  | sco (b : TM)
  | scp (b : TM)
  | lab (l : Nat) (keep : List Nat) (G : List (Nat × Gh)) (r b : TM)
def TM.erase : TM → M
  | .skip => .skip
  | .reg ops => .reg (ops.map TOp.erase)
  | .seq a _ b => .seq a.erase b.erase
  | .cond x G a b => .cond x.erase G a.erase b.erase
  | .block id G b => .block id G b.erase
  | .loop keep G b => .loop keep G b.erase
  | .exit id => .exit id
  | .ret => .ret
  | .sco b => .sco b.erase
  | .scp b => .scp b.erase
  | .lab l keep G r b => .lab l keep G r.erase b.erase

/-- A contract: what a function gives, of what it is handed. -/
abbrev Ctr := List TV → Res
structure TEnv where
  fs : Nat → Ctr × FSig
  gl : Nat → TV
def Ctr.fs (c : Ctr × FSig) : FS := ⟨fun ins outs => ∃ ti to_, ins = ti.map TV.av ∧ outs = to_.map TV.av ∧ (c.1 ti).holds to_, c.2⟩
def TEnv.env (E : TEnv) : Env := ⟨fun n => Ctr.fs (E.fs n), fun n => (E.gl n).av⟩

abbrev TS := Nat → TV
abbrev TS.av (τ : TS) : Sg := fun k => (τ k).av
def setT (τ : TS) : List Nat → List TV → TS
  | t :: ts, x :: xs => fun k => cond (Nat.beq k t) x (setT τ ts xs k)
  | _, _ => τ
def headT (keep : List Nat) (vals : List TV) : TS := setT (fun _ => .dead) keep vals
theorem setT_av (τ : TS) : ∀ (ts : List Nat) (xs : List TV), (setT τ ts xs).av = updL τ.av ts (xs.map TV.av)
  | t :: ts, x :: xs => by
    funext k
    simp only [TS.av, setT, List.map_cons, updL, upd]
    rw [← setT_av τ ts xs]
    cases h : Nat.beq k t with
    | true => rw [if_pos (Nat.eq_of_beq_eq_true h)]; rfl
    | false => rw [if_neg (Nat.ne_of_beq_eq_false h)]; rfl
  | [], _ => rfl
  | _ :: _, [] => rfl
theorem headT_av (keep : List Nat) (vals : List TV) : (headT keep vals).av = head keep (vals.map TV.av) := setT_av _ keep vals

def TOpd.ev (E : TEnv) (τ : TS) : TOpd → TV
  | .s t => τ t
  | .c x => x
  | .g n => E.gl n
theorem TOpd.ev_av (E : TEnv) (τ : TS) (x : TOpd) : x.erase.ev E.env τ.av = (x.ev E τ).av := by cases x <;> rfl

def CS.insT (c : CS) (vs : List TV) : List TV :=
  match c.ref with
  | some (i, _) => (vs.take c.n).set i (vs.getD (c.n + (c.new.map (·.2)).toList.length) .dead)
  | none => vs.take c.n
def CS.mainT (c : CS) (outs : List TV) : TV :=
  match Nat.beq c.nres 1 with
  | true => match c.new with
    | some _ => .pt
    | none => outs.headD .dead
  | false => .tu ((outs.take c.nres).mapIdx fun i x => cond (c.new.any (·.1 == i)) .pt x)
def CS.refOK (c : CS) (vs : List TV) : Bool :=
  match c.ref with
  | some (i, _) => match vs[i]? with
    | some .pt => true
    | _ => false
  | none => true
def CS.give (c : CS) (outs : List TV) : List TV := c.mainT outs :: (outs.drop c.nres ++ c.lks.map fun _ => .dead)
def callT (C : Ctr) (c : CS) (vs : List TV) : Res :=
  match c.refOK vs with
  | true => match C (c.insT vs) with
    | .ok outs => needT (Nat.beq outs.length (c.nres + c.mems.length)) (.ok (c.give outs))
    | .if_ p outs => needT (Nat.beq outs.length (c.nres + c.mems.length)) (.if_ p (c.give outs))
    | .err => .err
  | false => .err

def sliceT (t : STy) (vs rest : List TV) : Res :=
  match t.els vs with
  | some l => .ok (.sl t l :: rest)
  | none => .err
def semT (E : TEnv) (k : TK) (vs : List TV) : Res :=
  match k with
  | .k (.call f c) => callT (E.fs f).1 c vs
  | .k k => semK k vs
  | .bl t n => needT (Nat.beq vs.length n) (sliceT t vs [])
  | .blt t n _ => needT (Nat.beq vs.length (n + 1)) (sliceT t (vs.take n) [.dead])
  | .bd z pl => match fillT z pl vs with
    | some cs => .ok [.ag cs]
    | none => .err
  | .al _ z ts => .ok (.pt :: .ag z :: ts.map fun _ => .dead)
  | .mk _ by_ t z => match vs with
    | [.i .i64 l, .i .i64 c, _] => .if_ (mkOK l c by_) [.sl t (List.replicate l.toNat z), .dead]
    | _ => .err
  | .nl t _ => match vs with
    | [_] => .ok [.sl t [], .dead]
    | _ => .err

/-- The conditions under which operands stand. -/
def cnds : List TV → Option Bool
  | [] => none
  | x :: r => match x.cnd, cnds r with
    | none, q => q
    | some p, none => some p
    | some p, some q => some (p && q)
/-- Under a guard. -/
def underT (c : Bool) (q : Option Bool) (r : Res) : Res :=
  match r, q with
  | .ok ws, none => .ok (ws.map (.gd c))
  | .ok ws, some q => .if_ (!c || q) (ws.map (.gd c))
  | .if_ p ws, none => .if_ (!c || p) (ws.map (.gd c))
  | .if_ p ws, some q => .if_ (!c || (q && p)) (ws.map (.gd c))
  | .err, _ => .err
def guardT (τ : TS) (t : Nat) (b : Bool) : Option Bool :=
  match τ t with
  | .b x => some (cond b x (!x))
  | .gd q (.b x) => some (q && cond b x (!x))
  | _ => none
def lenT (n : Nat) (r : Res) : Res :=
  match r with
  | .ok ws => needT (Nat.beq ws.length n) (.ok ws)
  | .if_ p ws => needT (Nat.beq ws.length n) (.if_ p ws)
  | .err => .err
/-- An operation's operands, what they stand under put aside: a choice looks at what it chooses alone. -/
def bareT (k : TK) (vs : List TV) : List TV :=
  match k with
  | .k .pick => match vs with
    | x :: r => x.bare :: r
    | [] => []
  | _ => vs.map TV.bare
def cndT (k : TK) (vs : List TV) : Option Bool :=
  match k with
  | .k .pick => match vs with
    | x :: _ => x.cnd
    | [] => none
  | _ => cnds vs
def stepT (E : TEnv) (m : TOp) (τ : TS) : Res :=
  match m.gd with
  | none => lenT m.ds.length (semT E m.k (m.rs.map (TOpd.ev E τ)))
  | some (t, b) => match guardT τ t b with
    | some c => lenT m.ds.length (underT c (cndT m.k (m.rs.map (TOpd.ev E τ))) (semT E m.k (bareT m.k (m.rs.map (TOpd.ev E τ)))))
    | none => .err

section
variable {R : Type}
def runT (E : TEnv) : List TOp → TS → (TS → Option R) → Option R
  | [], τ, K => K τ
  | m :: ms, τ, K => match stepT E m τ with
    | .ok ws => runT E ms (setT τ m.ds ws) K
    | .if_ p ws => ck p (runT E ms (setT τ m.ds ws) K)
    | .err => none

def restr (keep : Option (List Nat)) (τ : TS) : TS :=
  match keep with
  | none => τ
  | some ks => headT ks (ks.map τ)

abbrev Cont (R : Type) := MX → TS → Option R
def seqK (f : TS → Cont R → Option R) (keep : Option (List Nat)) (K : Cont R) : Cont R := fun e τ =>
  match e with
  | .normal => f (restr keep τ) K
  | e => K e τ
def blockK (id : Nat) (K : Cont R) : Cont R := fun e τ =>
  match e with
  | .exit j => match Nat.beq j id with
    | true => K .normal τ
    | false => K (.exit j) τ
  | e => K e τ

/-- From which exits a piece of code is begun again: a loop's body, where it ends; what stands behind a label, at a jump to it. -/
def isN : MX → Bool
  | .normal => true
  | _ => false
def isG (l : Nat) : MX → Bool
  | .exit j => Nat.beq j (gid l)
  | _ => false
def loopN (f : TS → Cont R → Option R) (tr : MX → Bool) (keep : List Nat) : Nat → TS → Cont R → Option R
  | 0, _, _ => none
  | n + 1, τ, K => f τ fun e τ' =>
    match tr e with
    | true => loopN f tr keep n (headT keep (keep.map τ')) K
    | false => K e τ'
open Classical in
noncomputable def lim (g : Nat → Option R) : Option R := if h : ∃ n r, g n = some r then g h.choose else none
noncomputable def loopL (f : TS → Cont R → Option R) (tr : MX → Bool) (keep : List Nat) (τ : TS) (K : Cont R) : Option R := lim fun n => loopN f tr keep n τ K
noncomputable def loopK (f : TS → Cont R → Option R) (keep : List Nat) (τ : TS) (K : Cont R) : Option R := loopL f isN keep (headT keep (keep.map τ)) K
/-- Behind a round. -/
noncomputable def againK (f : TS → Cont R → Option R) (tr : MX → Bool) (keep : List Nat) (K : Cont R) : Cont R := fun e τ =>
  match tr e with
  | true => loopL f tr keep (headT keep (keep.map τ)) K
  | false => K e τ

/-- What code gives. -/
noncomputable def evO (R : Type) (E : TEnv) (m : TM) : TS → Cont R → Option R :=
  TM.rec (motive := fun _ => TS → Cont R → Option R)
    (fun τ K => K .normal τ)
    (fun ops τ K => runT E ops τ (K .normal))
    (fun _ keep _ fa fb τ K => fa τ (seqK fb keep K))
    (fun x _ _ _ fa fb τ K => match x.ev E τ with
      | .b t => cond t (fa τ K) (fb τ K)
      | _ => none)
    (fun id _ _ f τ K => f τ (blockK id K))
    (fun keep _ _ f τ K => loopK f keep τ K)
    (fun id τ K => K (.exit id) τ)
    (fun τ K => K .ret τ)
    (fun _ f => f)
    (fun _ f => f)
    (fun l keep _ _ _ fr fb τ K => fb τ (againK fr (isG l) keep K)) m

/-- WHAT CODE GIVES: where a sequence forgets, and at a loop, it stops. -/
noncomputable def ev (R : Type) (E : TEnv) (m : TM) : TS → Cont R → Option R :=
  TM.rec (motive := fun _ => TS → Cont R → Option R)
    (fun τ K => K .normal τ)
    (fun ops τ K => runT E ops τ (K .normal))
    (fun _ keep b fa fb τ K => match keep with
      | none => fa τ (seqK fb none K)
      | some ks => fa τ (seqK (evO R E b) (some ks) K))
    (fun x _ _ _ fa fb τ K => match x.ev E τ with
      | .b t => cond t (fa τ K) (fb τ K)
      | _ => none)
    (fun id _ _ f τ K => f τ (blockK id K))
    (fun keep _ b _ τ K => loopK (evO R E b) keep τ K)
    (fun id τ K => K (.exit id) τ)
    (fun τ K => K .ret τ)
    (fun _ f => f)
    (fun _ f => f)
    (fun l keep _ r _ _ fb τ K => fb τ (againK (evO R E r) (isG l) keep K)) m
theorem ev_eq (E : TEnv) (m : TM) : evO R E m = ev R E m := by
  induction m with
  | skip => rfl
  | reg ops => rfl
  | seq a keep b iha ihb =>
    funext τ K
    show evO R E a τ (seqK (evO R E b) keep K) = (match keep with | none => ev R E a τ (seqK (ev R E b) none K) | some ks => ev R E a τ (seqK (evO R E b) (some ks) K))
    cases keep with
    | none => rw [iha, ihb]
    | some ks => rw [iha]
  | cond x G a b iha ihb =>
    funext τ K
    show (match x.ev E τ with | .b t => cond t (evO R E a τ K) (evO R E b τ K) | _ => none) = (match x.ev E τ with | .b t => cond t (ev R E a τ K) (ev R E b τ K) | _ => none)
    rw [iha, ihb]
  | block id G b ih =>
    funext τ K
    show evO R E b τ (blockK id K) = ev R E b τ (blockK id K)
    rw [ih]
  | loop keep G b ih => rfl
  | exit id => rfl
  | ret => rfl
  | sco b ih => exact ih
  | scp b ih => exact ih
  | lab l keep G r b ihr ihb =>
    funext τ K
    show evO R E b τ (againK (evO R E r) (isG l) keep K) = ev R E b τ (againK (evO R E r) (isG l) keep K)
    rw [ihb]

/-! ## A loop goes on as it begins -/
def Alg (f : TS → Cont R → Option R) : Prop := ∀ τ, ∃ p : Option (MX × TS), ∀ K : Cont R, f τ K = p.bind fun q => K q.1 q.2

theorem lim_some {g : Nat → Option R} (hm : ∀ n r, g n = some r → g (n + 1) = some r) {r : R} : lim g = some r ↔ ∃ n, g n = some r := by
  have up : ∀ n k r, g n = some r → g (n + k) = some r := by
    intro n k
    induction k with
    | zero => exact fun r h => h
    | succ k ih => exact fun r h => hm _ _ (ih r h)
  unfold lim
  constructor
  · intro h
    split at h
    · rename_i hx; exact ⟨_, h⟩
    · cases h
  · rintro ⟨n, hn⟩
    have hx : ∃ n r, g n = some r := ⟨n, r, hn⟩
    rw [dif_pos hx]
    obtain ⟨r', hr'⟩ := hx.choose_spec
    rw [hr']
    have h1 := up _ n _ hr'
    have h2 := up _ hx.choose _ hn
    rw [Nat.add_comm] at h2
    rw [h1] at h2
    exact h2
theorem lim_congr {g g' : Nat → Option R} (hm : ∀ n r, g n = some r → g (n + 1) = some r) (hm' : ∀ n r, g' n = some r → g' (n + 1) = some r) (h : ∀ r, (∃ n, g n = some r) ↔ ∃ n, g' n = some r) : lim g = lim g' := by
  cases e : lim g with
  | some r => exact ((lim_some hm').2 ((h r).1 ((lim_some hm).1 e))).symm
  | none =>
    cases e' : lim g' with
    | none => rfl
    | some r =>
      have := (lim_some hm).2 ((h r).2 ((lim_some hm').1 e'))
      rw [e] at this; cases this

theorem loopN_mono {f : TS → Cont R → Option R} (hf : Alg f) {tr : MX → Bool} {keep : List Nat} {K : Cont R} : ∀ (n : Nat) (τ : TS) (r : R), loopN f tr keep n τ K = some r → loopN f tr keep (n + 1) τ K = some r
  | 0, _, _, h => by cases h
  | n + 1, τ, r, h => by
    obtain ⟨p, hp⟩ := hf τ
    rw [loopN] at h ⊢
    rw [hp] at h ⊢
    cases p with
    | none => cases h
    | some q =>
      obtain ⟨e, τ'⟩ := q
      simp only [Option.bind_some] at h ⊢
      cases ht : tr e with
      | true => rw [ht] at h; exact loopN_mono hf n _ r h
      | false => rw [ht] at h; exact h

theorem loopL_eq {f : TS → Cont R → Option R} (hf : Alg f) (tr : MX → Bool) (keep : List Nat) (τ : TS) (K : Cont R) : loopL f tr keep τ K = f τ (againK f tr keep K) := by
  obtain ⟨p, hp⟩ := hf τ
  rw [hp]
  have hN : ∀ n, loopN f tr keep (n + 1) τ K = p.bind fun q => match tr q.1 with | true => loopN f tr keep n (headT keep (keep.map q.2)) K | false => K q.1 q.2 := by
    intro n; rw [loopN, hp]
  cases p with
  | none =>
    cases e : loopL f tr keep τ K with
    | none => rfl
    | some r =>
      obtain ⟨n, hn⟩ := (lim_some (fun n r => loopN_mono hf n τ r)).1 e
      cases n with
      | zero => cases hn
      | succ n => rw [hN] at hn; cases hn
  | some q =>
    obtain ⟨e, τ'⟩ := q
    simp only [Option.bind_some] at hN ⊢
    cases ht : tr e with
    | true =>
      simp only [againK, ht] at hN ⊢
      refine lim_congr (fun n r => loopN_mono hf n τ r) (fun n r => loopN_mono hf n _ r) fun r => ⟨?_, ?_⟩
      · rintro ⟨n, hn⟩
        cases n with
        | zero => cases hn
        | succ n => rw [hN] at hn; exact ⟨n, hn⟩
      · rintro ⟨n, hn⟩
        exact ⟨n + 1, by rw [hN]; exact hn⟩
    | false =>
      simp only [againK, ht] at hN ⊢
      cases e' : K e τ' with
      | none =>
        cases e2 : loopL f tr keep τ K with
        | none => rfl
        | some r =>
          obtain ⟨n, hn⟩ := (lim_some (fun n r => loopN_mono hf n τ r)).1 e2
          cases n with
          | zero => cases hn
          | succ n => rw [hN, e'] at hn; cases hn
      | some r => exact (lim_some (fun n r => loopN_mono hf n τ r)).2 ⟨1, by rw [hN, e']⟩

theorem runT_alg (E : TEnv) : ∀ (ms : List TOp) (τ : TS), ∃ p : Option TS, ∀ K : TS → Option R, runT E ms τ K = p.bind K
  | [], τ => ⟨some τ, fun K => rfl⟩
  | m :: ms, τ => by
    simp only [runT]
    cases h : stepT E m τ with
    | ok ws => exact runT_alg E ms _
    | if_ p ws =>
      obtain ⟨q, hq⟩ := runT_alg E ms (setT τ m.ds ws)
      cases p with
      | true => exact ⟨q, fun K => hq K⟩
      | false => exact ⟨none, fun K => rfl⟩
    | err => exact ⟨none, fun K => rfl⟩

noncomputable def iterN (P : TS → Option (MX × TS)) (tr : MX → Bool) (keep : List Nat) : Nat → TS → Option (MX × TS)
  | 0, _ => none
  | n + 1, τ => (P τ).bind fun q => match tr q.1 with
    | true => iterN P tr keep n (headT keep (keep.map q.2))
    | false => some q

open Classical in
theorem loopL_alg {f : TS → Cont R → Option R} (hf : Alg f) (tr : MX → Bool) (keep : List Nat) : Alg (loopL f tr keep) := by
  intro τ
  let P := fun τ => (hf τ).choose
  have hP : ∀ τ K, f τ K = (P τ).bind fun q => K q.1 q.2 := fun τ => (hf τ).choose_spec
  have hI : ∀ n τ K, loopN f tr keep n τ K = (iterN P tr keep n τ).bind fun q => K q.1 q.2 := by
    intro n
    induction n with
    | zero => exact fun _ _ => rfl
    | succ n ih =>
      intro τ K
      rw [loopN, iterN, hP]
      cases P τ with
      | none => rfl
      | some q =>
        simp only [Option.bind_some]
        cases tr q.1 with
        | true => exact ih _ K
        | false => rfl
  have hmono : ∀ n τ q, iterN P tr keep n τ = some q → iterN P tr keep (n + 1) τ = some q := by
    intro n
    induction n with
    | zero => intro _ _ h; cases h
    | succ n ih =>
      intro τ q h
      rw [iterN] at h ⊢
      cases e : P τ with
      | none => rw [e] at h; cases h
      | some q' =>
        rw [e] at h
        simp only [Option.bind_some] at h ⊢
        cases ht : tr q'.1 with
        | true => rw [ht] at h; exact ih _ q h
        | false => rw [ht] at h; exact h
  by_cases hx : ∃ n q, iterN P tr keep n τ = some q
  · obtain ⟨n, q, hq⟩ := hx
    have hge : ∀ k, iterN P tr keep (n + k) τ = some q := by
      intro k
      induction k with
      | zero => exact hq
      | succ k ih => exact hmono _ _ _ ih
    refine ⟨some q, fun K => ?_⟩
    simp only [Option.bind_some]
    cases e : K q.1 q.2 with
    | some r => exact (lim_some (fun n r => loopN_mono hf n τ r)).2 ⟨n, by rw [hI, hq]; exact e⟩
    | none =>
      cases e' : loopL f tr keep τ K with
      | none => rfl
      | some r =>
        obtain ⟨m, hm⟩ := (lim_some (fun n r => loopN_mono hf n τ r)).1 e'
        have : loopN f tr keep (m + n) τ K = some r := by
          clear e e'
          induction n with
          | zero => exact hm
          | succ n ih =>
            have up : ∀ k, loopN f tr keep (m + k) τ K = some r := by
              intro k
              induction k with
              | zero => exact hm
              | succ k ih => exact loopN_mono hf _ _ _ ih
            exact up _
        rw [hI, Nat.add_comm, hge] at this
        simp only [Option.bind_some] at this
        rw [e] at this; cases this
  · refine ⟨none, fun K => ?_⟩
    cases e' : loopL f tr keep τ K with
    | none => rfl
    | some r =>
      obtain ⟨m, hm⟩ := (lim_some (fun n r => loopN_mono hf n τ r)).1 e'
      rw [hI] at hm
      cases e : iterN P tr keep m τ with
      | none => rw [e] at hm; cases hm
      | some q => exact absurd ⟨m, q, e⟩ hx

theorem loopK_alg {f : TS → Cont R → Option R} (hf : Alg f) (keep : List Nat) : Alg (loopK f keep) := fun τ => loopL_alg hf isN keep _

theorem ev_alg (E : TEnv) (m : TM) : Alg (evO R E m) := by
  induction m with
  | skip => exact fun τ => ⟨some (.normal, τ), fun K => rfl⟩
  | reg ops =>
    intro τ
    obtain ⟨p, hp⟩ := runT_alg (R := R) E ops τ
    exact ⟨p.map fun τ => (.normal, τ), fun K => by rw [Option.bind_map]; exact hp _⟩
  | seq a keep b iha ihb =>
    intro τ
    obtain ⟨p, hp⟩ := iha τ
    cases p with
    | none => exact ⟨none, fun K => hp _⟩
    | some q =>
      obtain ⟨e, τ'⟩ := q
      cases e with
      | normal =>
        obtain ⟨p', hp'⟩ := ihb (restr keep τ')
        exact ⟨p', fun K => (hp _).trans (hp' _)⟩
      | exit i => exact ⟨some (.exit i, τ'), fun K => hp _⟩
      | ret => exact ⟨some (.ret, τ'), fun K => hp _⟩
  | cond x G a b iha ihb =>
    intro τ
    show ∃ p : Option (MX × TS), ∀ K : Cont R, (match x.ev E τ with | .b t => cond t (evO R E a τ K) (evO R E b τ K) | _ => none) = _
    split
    · rename_i t _
      cases t with
      | true => exact iha τ
      | false => exact ihb τ
    · exact ⟨none, fun K => rfl⟩
  | block id G b ih =>
    intro τ
    obtain ⟨p, hp⟩ := ih τ
    cases p with
    | none => exact ⟨none, fun K => hp _⟩
    | some q =>
      obtain ⟨e, τ'⟩ := q
      cases e with
      | normal => exact ⟨some (.normal, τ'), fun K => hp _⟩
      | exit i =>
        cases hb : Nat.beq i id with
        | true => exact ⟨some (.normal, τ'), fun K => (hp _).trans (by simp only [Option.bind_some, blockK, hb])⟩
        | false => exact ⟨some (.exit i, τ'), fun K => (hp _).trans (by simp only [Option.bind_some, blockK, hb])⟩
      | ret => exact ⟨some (.ret, τ'), fun K => hp _⟩
  | loop keep G b ih => exact loopK_alg ih keep
  | exit id => exact fun τ => ⟨some (.exit id, τ), fun K => rfl⟩
  | ret => exact fun τ => ⟨some (.ret, τ), fun K => rfl⟩
  | sco b ih => exact ih
  | scp b ih => exact ih
  | lab l keep G r b ihr ihb =>
    intro τ
    obtain ⟨p, hp⟩ := ihb τ
    cases p with
    | none => exact ⟨none, fun K => hp _⟩
    | some q =>
      obtain ⟨e, τ'⟩ := q
      cases ht : isG l e with
      | true =>
        obtain ⟨p', hp'⟩ := loopL_alg ihr (isG l) keep (headT keep (keep.map τ'))
        exact ⟨p', fun K => (hp _).trans (by simp only [Option.bind_some, againK, ht]; exact hp' K)⟩
      | false => exact ⟨some (e, τ'), fun K => (hp _).trans (by simp only [Option.bind_some, againK, ht])⟩

/-- A LOOP's ROUND; what stands behind a label. -/
theorem ev_loop (E : TEnv) (tr : MX → Bool) (keep : List Nat) (b : TM) (τ : TS) (K : Cont R) :
    loopL (evO R E b) tr keep τ K = ev R E b τ (againK (evO R E b) tr keep K) := by rw [loopL_eq (ev_alg E b), ev_eq]
end
end Go.Eng
