/- The small language on abstract values (MIR), its meaning, and its static part (ghosts: which slots hold the address of which local variable, which slices may be appended to in place). -/
import Derived.Test.YtenbejbhjgkibaaEngA
set_option linter.unusedVariables false
set_option linter.unusedSimpArgs false
namespace Go.Eng

/-- What is known statically of a key. -/
inductive Gh where
  | no
  | ptr (m o : Nat)
  | tip (k s : Nat)
  | cl (ts : List (Nat × (Nat × Nat)))
  | tup (ts : List (Nat × (Nat × Nat))) (p : Option (Nat × Nat))
  | live (s : Nat)
  | used
  | pv (s : Nat)
  | sus (d s : Nat)
  | pe (k : Nat)
  | pc (s : Nat)
  deriving DecidableEq, Inhabited

/-- The key under which it is kept whether a tip may still be used. -/
def lk (k : Nat) : Nat := 1000000 + k
theorem lk_ge (k : Nat) : 1000000 ≤ lk k := by unfold lk; omega
theorem lk_inj {j k : Nat} (h : lk j = lk k) : j = k := by unfold lk at h; omega
attribute [irreducible] lk

inductive Opd where
  | s (t : Nat)
  | c (x : AV)
  | g (n : Nat)
  deriving Inhabited

/-- A call's static part: how many arguments; which one is the address of a local variable (its place, the variable), that variable's tips ahead and behind (cell, name, size); how many results; which are tips; which one is the address of a new variable (its place, the variable), with its tips. -/
structure CS where
  n : Nat
  ref : Option (Nat × Nat)
  tin : List (Nat × (Nat × Nat))
  tout : List (Nat × (Nat × Nat))
  nres : Nat
  own : List (Nat × (Nat × Nat))
  new : Option (Nat × Nat)
  tnew : List (Nat × (Nat × Nat))

def CS.plain (n nres : Nat) : CS := ⟨n, none, [], [], nres, [], none, []⟩

/-- A function's static part, likewise: which argument is an address; that variable's tips; how many results; which are tips; which one is a new variable's address; its tips. -/
structure FSig where
  ref : Option Nat := none
  tips : List (Nat × Nat) := []
  nres : Nat := 1
  own : List (Nat × Nat) := []
  new : Option Nat := none
  tnew : List (Nat × Nat) := []
  deriving DecidableEq, Inhabited

def cut3 (l : List (Nat × (Nat × Nat))) : List (Nat × Nat) := l.map fun t => (t.1, t.2.2)

/-- Does a call's static part fit the function's? -/
def CS.fits (c : CS) (g : FSig) : Bool :=
  decide (c.ref.map (·.1) = g.ref ∧ cut3 c.tin = g.tips ∧ cut3 c.tout = g.tips ∧ c.nres = g.nres ∧ cut3 c.own = g.own ∧ c.new.map (·.1) = g.new ∧ cut3 c.tnew = g.tnew ∧
    ((c.tin ++ c.tout ++ c.own ++ c.tnew).map (·.2.1)).Nodup ∧ (c.ref = none → c.tin = []) ∧ (c.new = none → c.tnew = []) ∧ (c.ref = none ∨ c.new = none) ∧ (∀ q ∈ c.new.toList, q.1 < c.nres ∧ q.2 < 999999))

/-- The keys of a call: what it reads behind its arguments, and what it writes. -/
def CS.lks (c : CS) : List Nat := (c.tin ++ c.tout ++ c.own ++ c.tnew).map fun t => lk t.2.1
def CS.mems (c : CS) : List Nat := (c.new.map (·.2)).toList ++ (c.ref.map (·.2)).toList

inductive K where
  | mv
  | pick
  | bin (o : BinOp)
  | be (neg : Bool)
  | un (o : UnOp)
  | ci (k : IntKind)
  | cs
  | sb
  | sbt (k : Nat)
  | bs
  | len
  | lns
  | mn
  | mx
  | ix (s : Nat)
  | si
  | ai (n s : Nat) (agg : Bool)
  | fe (o n : Nat) (agg : Bool)
  | sc (s : Nat) (lo hi : Bool)
  | ss (lo hi : Bool)
  | bl (s n : Nat)
  | blt (s n k : Nat)
  | bd (z : List AV) (pl : List (Nat × Nat))
  | al (m : Nat) (z : List AV) (ts : List (Nat × (Nat × Nat)))
  | bx (m : Nat)
  | ld (m o n : Nat) (agg : Bool)
  | st (m o n : Nat)
  | lr (n : Nat) (agg : Bool)
  | fa (m o d : Nat)
  | fr (o n : Nat) (agg : Bool)
  | nc (m o : Nat)
  | ncr
  | ex (i : Nat)
  | ap (k d s by_ : Nat)
  | aps (k d by_ : Nat)
  | an (d s by_ : Nat)
  | ans (d by_ : Nat)
  | mk (d s by_ : Nat) (z : AV)
  | nl (d s : Nat)
  | call (f : Nat) (c : CS)
  | pss (k : Nat)
  | pln (k : Nat)
  | pix (k s : Nat)
  | pfa (k o : Nat)
  | pld (k s n : Nat) (agg : Bool)
  | pst (k s n : Nat)
  | pfz (k s : Nat)

structure MOp where
  k : K
  rs : List Opd
  ds : List Nat
  gd : Option (Nat × Bool) := none

inductive M where
  | skip
  | reg (ops : List MOp)
  | seq (a b : M)
  | cond (x : Opd) (G : List (Nat × Gh)) (a b : M)
  | block (id : Nat) (G : List (Nat × Gh)) (b : M)
  | loop (keep : List Nat) (G : List (Nat × Gh)) (b : M)
  | exit (id : Nat)
  | ret
  | sco (b : M)
  | scp (b : M)
  | lab (l : Nat) (keep : List Nat) (G : List (Nat × Gh)) (r b : M)

/-- A jump to a label, as an exit. -/
def gid (l : Nat) : Nat := 1000000 + l

/-- What a function does, on abstract values: 'G ins outs' says that called with ins it may be taken to give outs: first its results, then what the new variable holds (if a result is the address of one), then what the variable holds whose address came in. -/
structure FS where
  G : List AV → List AV → Prop
  sg : FSig

abbrev Sg := Nat → AV
abbrev Ga := Nat → Gh

def upd {X : Type} (σ : Nat → X) (t : Nat) (x : X) : Nat → X := fun k => if k = t then x else σ k
def updL {X : Type} (σ : Nat → X) : List Nat → List X → Nat → X
  | t :: ts, x :: xs => upd (updL σ ts xs) t x
  | _, _ => σ

/-- Package-level variables that are only read: what their address reads as. -/
structure Env where
  fs : Nat → FS
  gl : Nat → AV

def Opd.ev (E : Env) (σ : Sg) : Opd → AV
  | .s t => σ t
  | .c x => x
  | .g n => E.gl n
def Opd.gh (γ : Ga) : Opd → Gh
  | .s t => γ t
  | _ => .no

def intBitsV (o : BinOp) (k : IntKind) (x y : Int) : Int :=
  let a := BitVec.ofInt k.bits x
  let b := BitVec.ofInt k.bits y
  match o with
  | .and => k.wrap (a &&& b).toNat
  | .or => k.wrap (a ||| b).toNat
  | .xor => k.wrap (a ^^^ b).toNat
  | _ => k.wrap (a &&& ~~~b).toNat

/-- Binary operations on plain values. -/
def binV : BinOp → Value → Value → Option Value
  | .shl, .int k a, .int _ b => if b < 0 then none else some (.int k (k.wrap (a * 2 ^ (min b.toNat k.bits))))
  | .shr, .int k a, .int _ b => if b < 0 then none else some (.int k (a.fdiv (2 ^ (min b.toNat k.bits))))
  | .add, .int k a, .int k' b => if k = k' then some (.int k (k.wrap (a + b))) else none
  | .sub, .int k a, .int k' b => if k = k' then some (.int k (k.wrap (a - b))) else none
  | .mul, .int k a, .int k' b => if k = k' then some (.int k (k.wrap (a * b))) else none
  | .quo, .int k a, .int k' b => if k = k' then (if b = 0 then none else some (.int k (k.wrap (a.tdiv b)))) else none
  | .rem, .int k a, .int k' b => if k = k' then (if b = 0 then none else some (.int k (a.tmod b))) else none
  | .and, .int k a, .int k' b => if k = k' then some (.int k (intBitsV .and k a b)) else none
  | .or, .int k a, .int k' b => if k = k' then some (.int k (intBitsV .or k a b)) else none
  | .xor, .int k a, .int k' b => if k = k' then some (.int k (intBitsV .xor k a b)) else none
  | .andNot, .int k a, .int k' b => if k = k' then some (.int k (intBitsV .andNot k a b)) else none
  | .eql, .int k a, .int k' b => if k = k' then some (.bool (a == b)) else none
  | .neq, .int k a, .int k' b => if k = k' then some (.bool (a != b)) else none
  | .lss, .int k a, .int k' b => if k = k' then some (.bool (decide (a < b))) else none
  | .leq, .int k a, .int k' b => if k = k' then some (.bool (decide (a ≤ b))) else none
  | .gtr, .int k a, .int k' b => if k = k' then some (.bool (decide (a > b))) else none
  | .geq, .int k a, .int k' b => if k = k' then some (.bool (decide (a ≥ b))) else none
  | .add, .string a, .string b => if ((a.size + b.size : Nat) : Int) > IntKind.i64.max then none else some (.string (a ++ b))
  | .eql, .string a, .string b => some (.bool (a.toList == b.toList))
  | .neq, .string a, .string b => some (.bool (!(a.toList == b.toList)))
  | _, _, _ => none

def unV : UnOp → Value → Option Value
  | .neg, .int k n => some (.int k (k.wrap (0 - n)))
  | .xor, .int k n => some (.int k (intBitsV .xor k (if k.signed then -1 else k.max) n))
  | .not, .bool b => some (.bool !b)
  | _, _ => none

def byteAV (b : UInt8) : AV := .v (.int .u8 b.toNat)

/-- May it stand in a variable? -/
def AV.plain : AV → Bool
  | .v x => x.oneCell'
  | .ag _ | .sl _ _ | .ro _ => true
  | _ => false

/-- A part of a row of cells, as the value of a type. -/
def partAV (cs : List AV) (o n : Nat) (agg : Bool) : Option AV :=
  if agg then (if o + n ≤ cs.length then some (.ag ((cs.drop o).take n)) else none) else cs[o]?

/-- A part of an element. -/
def partEl (e : AV) (o n : Nat) (agg : Bool) : Option AV :=
  match e with
  | .ag cs => partAV cs o n agg
  | x => if o = 0 ∧ n = 1 ∧ agg = false then some x else none

def splice (cs : List AV) (o : Nat) (xs : List AV) : List AV := cs.take o ++ xs ++ cs.drop (o + xs.length)

/-- An element, a part of which is another one. -/
def putEl (e : AV) (o : Nat) (x : AV) : Option AV :=
  match e with
  | .ag cs => if o + x.cells.length ≤ cs.length then some (.ag (splice cs o x.cells)) else none
  | _ => if o = 0 ∧ x.isAg = false then some x else none

/-- The bytes that a text or a list of bytes is. -/
def fillAV (z : List AV) : List (Nat × Nat) → List AV → Option (List AV)
  | [], [] => some z
  | (o, n) :: pl, x :: xs => if x.plain = true ∧ x.cells.length = n ∧ o + n ≤ z.length then fillAV (splice z o x.cells) pl xs else none
  | _, _ => none

def minI (a b : Int) : Int := if b < a then b else a
def maxI (a b : Int) : Int := if a < b then b else a

/-- What goes into a call: at the place of an address, what the variable holds. -/
def CS.ins (c : CS) (vs : List AV) : List AV :=
  match c.ref with
  | some (i, _) => (vs.take c.n).set i (vs.getD (c.n + (c.new.map (·.2)).toList.length) .dead)
  | none => vs.take c.n
/-- The result of a call, in its slot. -/
def CS.main (c : CS) (outs : List AV) : AV :=
  if c.nres = 1 then (if c.new.isSome then .pt else outs.headD .dead)
  else .tu ((outs.take c.nres).mapIdx fun i x => if c.new.any (·.1 == i) then .pt else x)

/-- What is known of a call's result. -/
def CS.dg (c : CS) : Gh := if c.nres = 1 then (match c.new, c.own with | some (_, m), _ => Gh.ptr m 0 | none, [(0, k, s)] => .tip k s | none, _ => .no) else .tup c.own c.new

section
variable (E : Env)
/-- What an operation gives, of what it reads. -/
def sem (k : K) (vs ws : List AV) : Prop :=
  match k with
  | .mv => match vs with
    | [x] => ws = [x]
    | _ => False
  | .pick => match vs with
    | [.v (.bool b), x, y] => ws = [if b then x else y]
    | _ => False
  | .bin o => match vs with
    | [.v a, .v b] => ∃ x, binV o a b = some x ∧ ws = [.v x]
    | _ => False
  | .be neg => match vs with
    | [.v (.bool a), .v (.bool b)] => ws = [.v (.bool (if neg then !(a == b) else a == b))]
    | _ => False
  | .un o => match vs with
    | [.v a] => ∃ x, unV o a = some x ∧ ws = [.v x]
    | _ => False
  | .ci k => match vs with
    | [.v (.int _ n)] => ws = [.v (.int k (k.wrap n))]
    | _ => False
  | .cs => match vs with
    | [.v (.string b)] => ws = [.v (.string b)]
    | _ => False
  | .sb => match vs with
    | [.v (.string b)] => b.data.toList.length ≤ maxLen ∧ ws = [.sl 1 (b.data.toList.map byteAV)]
    | _ => False
  | .sbt _ => match vs with
    | [.v (.string b), _] => b.data.toList.length ≤ maxLen ∧ ws = [.sl 1 (b.data.toList.map byteAV), .dead]
    | _ => False
  | .bs => match vs with
    | [.sl s es] => ∃ l : List UInt8, s = 1 ∧ es = l.map byteAV ∧ ws = [.v (.string ⟨⟨l⟩⟩)]
    | _ => False
  | .len => match vs with
    | [.sl _ es] => ws = [.v (.int .i64 es.length)]
    | _ => False
  | .lns => match vs with
    | [.v (.string b)] => ws = [.v (.int .i64 b.data.toList.length)]
    | _ => False
  | .mn => match vs with
    | [.v (.int k a), .v (.int _ b)] => ws = [.v (.int k (minI a b))]
    | _ => False
  | .mx => match vs with
    | [.v (.int k a), .v (.int _ b)] => ws = [.v (.int k (maxI a b))]
    | _ => False
  | .ix s => match vs with
    | [.sl s' es, .v (.int _ i)] => ∃ x, s = s' ∧ 0 ≤ i ∧ es[i.toNat]? = some x ∧ ws = [.ro x]
    | _ => False
  | .si => match vs with
    | [.v (.string b), .v (.int _ i)] => ∃ x, 0 ≤ i ∧ b.data.toList[i.toNat]? = some x ∧ ws = [byteAV x]
    | _ => False
  | .ai n s agg => match vs with
    | [.ag cs, .v (.int _ i)] => ∃ x, 0 ≤ i ∧ i < n ∧ partAV cs (i.toNat * s) s agg = some x ∧ ws = [x]
    | _ => False
  | .fe o n agg => match vs with
    | [.ag cs] => ∃ x, partAV cs o n agg = some x ∧ ws = [x]
    | _ => False
  | .sc s true true => match vs with
    | [.sl s' es, .v (.int _ l), .v (.int _ h)] => s = s' ∧ 0 ≤ l ∧ l ≤ h ∧ h ≤ es.length ∧ ws = [.sl s ((es.take h.toNat).drop l.toNat)]
    | _ => False
  | .sc s true false => match vs with
    | [.sl s' es, .v (.int _ l)] => s = s' ∧ 0 ≤ l ∧ l ≤ es.length ∧ ws = [.sl s (es.drop l.toNat)]
    | _ => False
  | .sc s false true => match vs with
    | [.sl s' es, .v (.int _ h)] => s = s' ∧ 0 ≤ h ∧ h ≤ es.length ∧ ws = [.sl s (es.take h.toNat)]
    | _ => False
  | .sc s false false => match vs with
    | [.sl s' es] => s = s' ∧ ws = [.sl s es]
    | _ => False
  | .ss true true => match vs with
    | [.v (.string b), .v (.int _ l), .v (.int _ h)] => 0 ≤ l ∧ l ≤ h ∧ h ≤ b.data.toList.length ∧ ws = [.v (.string ⟨⟨(b.data.toList.take h.toNat).drop l.toNat⟩⟩)]
    | _ => False
  | .ss true false => match vs with
    | [.v (.string b), .v (.int _ l)] => 0 ≤ l ∧ l ≤ b.data.toList.length ∧ ws = [.v (.string ⟨⟨b.data.toList.drop l.toNat⟩⟩)]
    | _ => False
  | .ss false true => match vs with
    | [.v (.string b), .v (.int _ h)] => 0 ≤ h ∧ h ≤ b.data.toList.length ∧ ws = [.v (.string ⟨⟨b.data.toList.take h.toNat⟩⟩)]
    | _ => False
  | .ss false false => match vs with
    | [.v (.string b)] => ws = [.v (.string b)]
    | _ => False
  | .bl s n => vs.length = n ∧ (∀ x ∈ vs, x.plain = true ∧ x.cells.length = s) ∧ ws = [.sl s vs]
  | .blt s n _ => vs.length = n + 1 ∧ (∀ x ∈ vs.take n, x.plain = true ∧ x.cells.length = s) ∧ ws = [.sl s (vs.take n), .dead]
  | .bd z pl => ∃ cs, fillAV z pl vs = some cs ∧ ws = [.ag cs]
  | .al _ z ts => ws = .pt :: .ag z :: ts.map fun _ => .dead
  | .bx _ => match vs with
    | [x, _] => x.plain = true ∧ ws = [.pt, .ag x.cells]
    | _ => False
  | .ld _ o n agg => match vs with
    | [.pt, .ag cs] => ∃ x, partAV cs o n agg = some x ∧ ws = [x]
    | _ => False
  | .st _ o n => match vs with
    | [.pt, .ag cs, x] => x.plain = true ∧ x.cells.length = n ∧ o + n ≤ cs.length ∧ ws = [.ag (splice cs o x.cells)]
    | _ => False
  | .lr n agg => match vs with
    | [.ro x] => x.isAg = agg ∧ x.cells.length = n ∧ ws = [x]
    | _ => False
  | .fa _ _ _ => match vs with
    | [.pt] => ws = [.pt]
    | _ => False
  | .fr o n agg => match vs with
    | [.ro (.ag cs)] => ∃ x, partAV cs o n agg = some x ∧ ws = [.ro x]
    | _ => False
  | .nc _ _ => match vs with
    | [.pt] => ws = [.pt]
    | _ => False
  | .ncr => match vs with
    | [.ro x] => ws = [.ro x]
    | _ => False
  | .ex i => match vs with
    | [.tu vs] => ∃ x, vs[i]? = some x ∧ ws = [x]
    | _ => False
  | .ap _ _ s by_ => match vs with
    | [.sl s' es, .sl s'' fs, _, _] => s' = s ∧ s'' = s ∧ (∀ x ∈ fs, x.cells.length = s) ∧ es.length + fs.length ≤ maxLen ∧ (es.length + fs.length) * by_ ≤ 140737488355328 ∧ ws = [.sl s (es ++ fs), .dead, .dead]
    | _ => False
  | .aps _ _ by_ => match vs with
    | [.sl s' es, .v (.string b), _, _] => s' = 1 ∧ es.length + b.data.toList.length ≤ maxLen ∧ (es.length + b.data.toList.length) * by_ ≤ 140737488355328 ∧ ws = [.sl 1 (es ++ b.data.toList.map byteAV), .dead, .dead]
    | _ => False
  | .an _ s by_ => match vs with
    | [.sl s'' fs, _] => s'' = s ∧ (∀ x ∈ fs, x.cells.length = s) ∧ fs.length ≤ maxLen ∧ fs.length * by_ ≤ 140737488355328 ∧ ws = [.sl s fs, .dead]
    | _ => False
  | .ans _ by_ => match vs with
    | [.v (.string b), _] => b.data.toList.length ≤ maxLen ∧ b.data.toList.length * by_ ≤ 140737488355328 ∧ ws = [.sl 1 (b.data.toList.map byteAV), .dead]
    | _ => False
  | .mk _ s by_ z => match vs with
    | [.v (.int .i64 l), .v (.int .i64 c), _] => z.plain = true ∧ z.cells.length = s ∧ 0 ≤ l ∧ l ≤ c ∧ c * by_ ≤ 140737488355328 ∧ c ≤ maxLen ∧ ws = [.sl s (List.replicate l.toNat z), .dead]
    | _ => False
  | .nl _ s => match vs with
    | [_] => ws = [.sl s [], .dead]
    | _ => False
  | .pss _ => match vs with
    | [.v (.string b), _] => b.data.toList.length ≤ maxLen ∧ ws = [.pt, .sl 1 (b.data.toList.map byteAV)]
    | _ => False
  | .pln _ => match vs with
    | [.pt, .sl _ es] => ws = [.v (.int .i64 es.length)]
    | _ => False
  | .pix _ s => match vs with
    | [.pt, .v (.int _ i), .sl s' es] => s' = s ∧ 0 ≤ i ∧ i.toNat < es.length ∧ ws = [.el i.toNat s 0]
    | _ => False
  | .pfa _ o => match vs with
    | [.el i s o'] => ws = [.el i s (o' + o)]
    | _ => False
  | .pld _ s n agg => match vs with
    | [.el i s' o, .sl s'' es] => ∃ e x, s' = s ∧ s'' = s ∧ es[i]? = some e ∧ partEl e o n agg = some x ∧ ws = [x]
    | _ => False
  | .pst _ s n => match vs with
    | [.el i s' o, .sl s'' es, x] => ∃ e e', s' = s ∧ s'' = s ∧ es[i]? = some e ∧ x.plain = true ∧ x.cells.length = n ∧ putEl e o x = some e' ∧ ws = [.sl s (es.set i e')]
    | _ => False
  | .pfz _ s => match vs with
    | [.pt, .sl s' es] => s' = s ∧ ws = [.sl s es, .sl s es, .dead]
    | _ => False
  | .call f c => (match c.ref with | some (i, _) => vs[i]? = some .pt | none => True) ∧ ∃ outs, (E.fs f).G (c.ins vs) outs ∧ outs.length = c.nres + c.mems.length ∧ ws = c.main outs :: (outs.drop c.nres ++ c.lks.map fun _ => .dead)
end

def Gh.strip : Gh → Gh
  | .cl _ | .live _ | .used | .pv _ | .sus _ _ | .pc _ => .no
  | g => g

/-- What is known of a tuple's component. -/
def Gh.comp (i : Nat) : Gh → Gh
  | .tup ts p => match ts.find? (fun t => t.1 == i) with
    | some (_, k, s) => .tip k s
    | none => match p with
      | some (j, m) => if j = i then .ptr m 0 else .no
      | none => .no
  | _ => .no

/-- The ghosts that an operation gives; none: it may not be done. -/
def gsem (k : K) (gs : List Gh) : Option (List Gh) :=
  match k with
  | .mv => match gs with
    | [g] => some [g.strip]
    | _ => none
  | .ex i => match gs with
    | [g] => some [g.comp i]
    | _ => none
  | .sbt k => match gs with
    | [_, .no] => some [.tip k 1, .live 1]
    | _ => none
  | .blt s n k => if gs.drop n = [.no] then some [.tip k s, .live s] else none
  | .al m _ ts => if gs.length = 1 + ts.length ∧ gs.all (· = .no) ∧ (ts.map (·.2.1)).Nodup then some (.ptr m 0 :: .cl ts :: ts.map fun t => .live t.2.2) else none
  | .bx m => match gs with
    | [_, .no] => some [.ptr m 0, .cl []]
    | _ => none
  | .ld m o _ agg => match gs with
    | [.ptr m' o', .cl ts] => if m = m' ∧ o = o' then some [if agg then .no else match ts.find? (fun t => t.1 == o) with | some (_, k, s) => .tip k s | none => .no] else none
    | _ => none
  | .st m o n => match gs with
    | [.ptr m' o', .cl ts, g] => if m = m' ∧ o = o' then some [.cl (ts.filter (fun t => t.1 < o || o + n ≤ t.1) ++ match g with | .tip k s => if n = 1 then [(o, k, s)] else [] | _ => [])] else none
    | _ => none
  | .fa m o d => match gs with
    | [.ptr m' o'] => if m = m' ∧ o = o' then some [.ptr m (o + d)] else none
    | _ => none
  | .nc m o => match gs with
    | [.ptr m' o'] => if m = m' ∧ o = o' then some [.ptr m o] else none
    | _ => none
  | .ap k d s _ => match gs with
    | [.tip k' s', _, .live s'', .no] => if k = k' ∧ s = s' ∧ s = s'' ∧ k ≠ d then some [.tip d s, .used, .live s] else none
    | _ => none
  | .aps k d _ => match gs with
    | [.tip k' s', _, .live s'', .no] => if k = k' ∧ 1 = s' ∧ 1 = s'' ∧ k ≠ d then some [.tip d 1, .used, .live 1] else none
    | _ => none
  | .an d s _ => match gs with
    | [_, .no] => some [.tip d s, .live s]
    | _ => none
  | .ans d _ => match gs with
    | [_, .no] => some [.tip d 1, .live 1]
    | _ => none
  | .mk d s _ _ => match gs with
    | [_, _, .no] => some [.tip d s, .live s]
    | _ => none
  | .nl d s => match gs with
    | [.no] => some [.tip d s, .live s]
    | _ => none
  | .pss k => match gs with
    | [_, .no] => some [.tip k 1, .pv 1]
    | _ => none
  | .pln k => match gs with
    | [.tip k' _, .pv _] => if k' = k then some [.no] else none
    | _ => none
  | .pix k s => match gs with
    | [.tip k' _, _, .pv s'] => if k' = k ∧ s' = s then some [.pe k] else none
    | _ => none
  | .pfa k _ => match gs with
    | [.pe k'] => if k' = k then some [.pe k] else none
    | _ => none
  | .pld k s _ _ => match gs with
    | [.pe k', .pv s'] => if k' = k ∧ s' = s then some [.no] else none
    | _ => none
  | .pst k s _ => match gs with
    | [.pe k', .pv s', _] => if k' = k ∧ s' = s then some [.pv s] else none
    | _ => none
  | .pfz k s => match gs with
    | [.tip k' _, .pv s'] => if k' = k ∧ s' = s then some [.tip k s, .tip k s, .live s] else none
    | _ => none
  | .call _ c =>
    let rest := gs.drop c.n
    let nm := rest.take (c.new.map (·.2)).toList.length
    let rm := (rest.drop nm.length).take (c.ref.map (·.2)).toList.length
    let ls := rest.drop (nm.length + rm.length)
    if nm.all (· = .no) ∧
       (match c.ref, rm with
        | some (i, m), [.cl ts] => decide (gs[i]? = some (.ptr m 0) ∧ i < c.n ∧ ∀ t ∈ c.tin, t ∈ ts)
        | none, [] => true
        | _, _ => false) = true ∧
       ls = c.tin.map (fun t => Gh.live t.2.2) ++ (c.tout ++ c.own ++ c.tnew).map fun _ => Gh.no
    then some (c.dg :: (c.new.toList.map (fun _ => .cl c.tnew) ++ c.ref.toList.map (fun _ => .cl c.tout) ++ c.tin.map (fun _ => .used) ++ (c.tout ++ c.own ++ c.tnew).map fun t => .live t.2.2)) else none
  | _ => some [.no]
end Go.Eng
