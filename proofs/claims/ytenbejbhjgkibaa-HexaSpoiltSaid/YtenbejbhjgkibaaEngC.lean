/- How abstract states stand to the machine's (Sim); what is asked of a function (SpecOK); the meaning of the small language's code (wpm); the check that a function's code is what its MIR says (chk). -/
import Derived.Test.YtenbejbhjgkibaaEngB
import Derived.Orders
set_option linter.unusedVariables false
set_option linter.unusedSimpArgs false
namespace Go.Eng
open Go.RowKit

structure Dyn where
  R : Reach
  β : Nat → Nat
  τ : Nat → Value

def GhOK (D : Dyn) : Gh → Value → Prop
  | .ptr m o, x => x = .pointer (some ⟨D.β m, o, none⟩)
  | .tip k _, x => x = D.τ (lk k) ∧ x.oneCell' = true
  | .pe k, x => ∃ g n cap o, D.τ (lk k) = .slice (some ⟨g, 0, none⟩) n cap ∧ x = .pointer (some ⟨g, o, none⟩)
  | .tup ts p, x => ∃ ys : List Value, x = .tuple ⟨ys⟩ ∧ (∀ t ∈ ts, ys[t.1]? = some (D.τ (lk t.2.1)) ∧ (D.τ (lk t.2.1)).oneCell' = true) ∧ (∀ q, p = some q → ys[q.1]? = some (.pointer (some ⟨D.β q.2, 0, none⟩)))
  | _, _ => True

/-- What stands in a slot behind an operation that was not done. -/
abbrev AV.sk : AV := .tu []

def SlotOK (D : Dyn) (w : World) (s : AV) (g : Gh) (x : Value) : Prop := s = .dead ∨ (Rep D.R w s x ∧ (s ≠ .sk → GhOK D g x))

/-- A slice to which may be appended in place: nil, or one that ends where what is read of its block ends. -/
def TipOK (R : Reach) (w : World) (x : Value) (s : Nat) : Prop :=
  x = .slice none 0 0 ∨ ∃ g n cap cur e fz, x = .slice (some ⟨g, 0, none⟩) n cap ∧ w.heap[g]? = some (.cells cur e fz) ∧ (∀ o, o < cur.size → ¬ (fz.1 ≤ o ∧ o < fz.2)) ∧ cur.size = cap * s ∧ n ≤ cap ∧ cap ≤ maxLen ∧ ∀ o, n * s ≤ o → ¬ R g o

/-- A private slice: nothing else reads its block; x is what it holds (or nothing is known of that). -/
def PrivOK (R : Reach) (w : World) (v : Value) (s : Nat) (x : AV) : Prop :=
  (∀ g, v.ownBlock = some g → ∀ o, ¬ R g o) ∧ (x = .dead ∨ ∃ es, x = .sl s es ∧ (∀ e ∈ es, e.cells.length = s) ∧
    ((es = [] ∧ v = .slice none 0 0) ∨ ∃ g cap cur e fz, v = .slice (some ⟨g, 0, none⟩) es.length cap ∧ w.heap[g]? = some (.cells cur e fz) ∧ RepL R w (es.flatMap AV.cells) (cur.toList.take (es.length * s))))

/-- A local variable: block b begins with what reads as x (or nothing is known of it), and nothing else reads it. -/
def VarAt (R : Reach) (w : World) (x : AV) (b : Nat) (cs : List Value) : Prop :=
  ∃ elem, w.heap[b]? = some (.cells ⟨cs⟩ elem (0, 0)) ∧ (x = .dead ∨ ∃ acs, x = .ag acs ∧ RepL R w acs (cs.take acs.length)) ∧ ∀ o, ¬ R b o

/-- What a step or a call leaves as it was. -/
structure Ext (w0 : World) (R0 : Reach) (io : Nat → Prop) (w : World) (R : Reach) : Prop where
  os : w.os = w0.os
  tape : w.tape = w0.tape
  output : w.output = w0.output
  size : w0.heap.size ≤ w.heap.size
  heap : ∀ b, b < w0.heap.size → ¬ io b → w.heap[b]? = w0.heap[b]?
  keep : Keeps R0 w0 R w
  rnew : ∀ b o, R b o → R0 b o ∨ w0.heap.size ≤ b ∨ io b

/-- The block that the owner at a key has: a local variable's, or a tip's. -/
def blk (D : Dyn) (γ : Ga) (key : Nat) : Option Nat :=
  match γ key with
  | .cl _ => some (D.β key)
  | .live _ => (D.τ key).ownBlock
  | .pv _ => (D.τ key).ownBlock
  | .sus _ _ => (D.τ key).ownBlock
  | .pc _ => (D.τ key).ownBlock
  | _ => none

structure Ctx where
  P : Program
  E : Env
  nt : Nat
  w0 : World
  R0 : Reach
  io : Nat → Prop
  fix : Option Nat

def Ctx.mine (C : Ctx) (b : Nat) : Prop := C.io b ∨ C.w0.heap.size ≤ b

/-- What a ghost speaks of is there. -/
def Gh.isCl : Gh → Bool | .cl _ => true | _ => false
def Gh.isLk : Gh → Bool | .live _ => true | .used => true | .pv _ => true | .sus _ _ => true | .pc _ => true | _ => false
def Ment (γ : Ga) : Gh → Prop
  | .ptr m _ => (γ m).isCl = true
  | .tip k _ => (γ (lk k)).isLk = true
  | .cl ts => ∀ t ∈ ts, (γ (lk t.2.1)).isLk = true
  | .pe k => (γ (lk k)).isLk = true
  | .sus d _ => γ d = .used ∨ ∃ s, γ d = .pc s
  | .tup ts p => (∀ t ∈ ts, (γ (lk t.2.1)).isLk = true) ∧ ∀ q, p = some q → (γ q.2).isCl = true
  | _ => True

def Gh.isP : Gh → Bool | .pv _ => true | .sus _ _ => true | .pc _ => true | _ => false
def Gh.par : Gh → Option Nat | .sus d _ => some d | _ => none
def Gh.psz : Gh → Option Nat | .pv s => some s | .sus _ s => some s | .pc s => some s | _ => none
/-- Private slices; such as wait till one that was made of them is done with. -/
def PSOK (D : Dyn) (σ : Sg) (γ : Ga) (w : World) : Prop :=
  ∀ key s, (γ key).psz = some s → TipOK D.R w (D.τ key) s ∧ PrivOK D.R w (D.τ key) s (σ key)

structure Sim (C : Ctx) (D : Dyn) (σ : Sg) (γ : Ga) (a : Act) (w : World) : Prop where
  size : a.tmps.size = C.nt
  defers : a.defers = []
  ntlt : C.nt ≤ 1000000
  rng : ∀ m, (γ m).isCl = true → C.nt ≤ m ∧ m < 1000000
  lrng : ∀ m, (γ m).isLk = true → 1000000 ≤ m
  slot : ∀ t, t < C.nt → SlotOK D w (σ t) (γ t) (a.tmps.getD t undef)
  mem : ∀ m ts, γ m = .cl ts → ∃ cs, VarAt D.R w (σ m) (D.β m) cs ∧ ∀ t ∈ ts, cs[t.1]? = some (D.τ (lk t.2.1))
  tip : ∀ key s, γ key = .live s → TipOK D.R w (D.τ key) s
  ps : PSOK D σ γ w
  sep : ∀ key key' g, blk D γ key = some g → blk D γ key' = some g → key = key' ∨ (γ key).par = some key' ∨ (γ key').par = some key
  own : ∀ key g, blk D γ key = some g → C.mine g
  inv : ∀ key, Ment γ (γ key)
  ext : Ext C.w0 C.R0 C.io w D.R
  rlt : ∀ b o, D.R b o → b < w.heap.size
  gl : ∀ n, Rep D.R w (C.E.gl n) (.pointer (some ⟨n, 0, none⟩))
  fix : ∀ b, C.fix = some b → D.β 999999 = b

/-- How a call's arguments stand. -/
def ArgsOK (g : FSig) (R : Reach) (w : World) (ins : List AV) (xs : List Value) : Prop :=
  match g.ref with
  | none => RepT R w ins xs
  | some i => ∃ (b : Nat) (cs : List Value) (x : AV) (tv : List Value), xs[i]? = some (.pointer (some ⟨b, 0, none⟩)) ∧ ins[i]? = some x ∧ VarAt R w x b cs ∧ RepT R w (ins.set i .pt) xs ∧
      tv.length = g.tips.length ∧ (∀ (p : Nat) (t : Nat × Nat) (v : Value), g.tips[p]? = some t → tv[p]? = some v → cs[t.1]? = some v ∧ TipOK R w v t.2) ∧
      (∀ (p q h : Nat), (some b :: tv.map Value.ownBlock)[p]? = some (some h) → (some b :: tv.map Value.ownBlock)[q]? = some (some h) → p = q)

/-- The blocks that a call may write: the variable whose address came in, and its tips. -/
def ioOf (g : FSig) (w : World) (xs : List Value) (c : Nat) : Prop :=
  match g.ref with
  | none => False
  | some i => ∃ (b : Nat) (cs : List Value) (elem : TypeId), xs[i]? = some (.pointer (some ⟨b, 0, none⟩)) ∧ w.heap[b]? = some (.cells ⟨cs⟩ elem (0, 0)) ∧ (c = b ∨ ∃ t ∈ g.tips, ∃ v, cs[t.1]? = some v ∧ v.ownBlock = some c)

/-- The owners that a call hands back. -/
def owners (g : FSig) (bn br : Nat) (tv : List Value) : List (Option Nat) :=
  (if g.new.isSome then [some bn] else []) ++ (if g.ref.isSome then [some br] else []) ++ tv.map Value.ownBlock

/-- How a call's results stand. -/
def OutOK (g : FSig) (R : Reach) (w : World) (mine : Nat → Prop) (xs : List Value) (outs : List AV) (x : Value) : Prop :=
  ∃ (rvs tr to_ tn : List Value) (bn br : Nat) (cn cr : List Value),
    rvs.length = g.nres ∧ x = (if g.nres = 1 then rvs.headD undef else .tuple ⟨rvs⟩) ∧
    outs.length = g.nres + (if g.new.isSome then 1 else 0) + (if g.ref.isSome then 1 else 0) ∧
    RepT R w ((outs.take g.nres).mapIdx fun i y => if g.new = some i then .pt else y) rvs ∧
    (∀ j, g.new = some j → rvs[j]? = some (.pointer (some ⟨bn, 0, none⟩)) ∧ VarAt R w (outs.getD g.nres .dead) bn cn) ∧
    (∀ i, g.ref = some i → xs[i]? = some (.pointer (some ⟨br, 0, none⟩)) ∧ VarAt R w (outs.getD (g.nres + (if g.new.isSome then 1 else 0)) .dead) br cr) ∧
    tr.length = g.tips.length ∧ to_.length = g.own.length ∧ tn.length = g.tnew.length ∧
    (∀ (p : Nat) (t : Nat × Nat) (v : Value), g.tips[p]? = some t → tr[p]? = some v → cr[t.1]? = some v) ∧
    (∀ (p : Nat) (t : Nat × Nat) (v : Value), g.own[p]? = some t → to_[p]? = some v → rvs[t.1]? = some v) ∧
    (∀ (p : Nat) (t : Nat × Nat) (v : Value), g.tnew[p]? = some t → tn[p]? = some v → cn[t.1]? = some v) ∧
    (∀ (p : Nat) (t : Nat × Nat) (v : Value), (g.tips ++ g.own ++ g.tnew)[p]? = some t → (tr ++ to_ ++ tn)[p]? = some v → TipOK R w v t.2) ∧
    (∀ (p q h : Nat), (owners g bn br (tr ++ to_ ++ tn))[p]? = some (some h) → (owners g bn br (tr ++ to_ ++ tn))[q]? = some (some h) → p = q) ∧
    (∀ h, some h ∈ owners g bn br (tr ++ to_ ++ tn) → mine h)

/-- WHAT IS ASKED OF A FUNCTION: called with what reads as ins, it returns what reads as outs; nothing old has turned but what it may write. -/
def SpecOK (P : Program) (gl : Nat → AV) (f : Nat) (S : FS) : Prop :=
  ∀ (w : World) (R : Reach) (ins outs : List AV) (xs : List Value), S.G ins outs → (∀ b o, R b o → b < w.heap.size) →
    (∀ n, Rep R w (gl n) (.pointer (some ⟨n, 0, none⟩))) → ArgsOK S.sg R w ins xs →
    Calls P f ⟨xs⟩ w fun e w' => ∃ x R', e = .returned x ∧ Ext w R (ioOf S.sg w xs) w' R' ∧ (∀ b o, R' b o → b < w'.heap.size) ∧
      OutOK S.sg R' w' (fun b => ioOf S.sg w xs b ∨ w.heap.size ≤ b) xs outs x

/-! ## The meaning of code -/

inductive MX where
  | normal
  | exit (id : Nat)
  | ret

def guardV (σ : Sg) : Option (Nat × Bool) → Option Bool
  | none => some true
  | some (t, b) => match σ t with
    | .v (.bool x) => some (x == b)
    | .tu [] => some false
    | _ => none

/-- One operation, on the abstract state. -/
def stepS (E : Env) (m : MOp) (σ σ' : Sg) : Prop :=
  ∃ ws, (match guardV σ m.gd with
    | some true => sem E m.k (m.rs.map (Opd.ev E σ)) ws
    | some false => ws = m.ds.map fun _ => .sk
    | none => False) ∧ ws.length = m.ds.length ∧ σ' = updL σ m.ds ws

def runS (E : Env) : List MOp → Sg → Sg → Prop
  | [], σ, σ' => σ' = σ
  | m :: ms, σ, σ' => ∃ σ1, stepS E m σ σ1 ∧ runS E ms σ1 σ'

/-- The state at a loop's head: nothing but what is kept. -/
def head (keep : List Nat) (vals : List AV) : Sg := updL (fun _ => .dead) keep vals

def Agr (σ : Sg) : List Nat → List AV → Prop
  | [], [] => True
  | k :: ks, v :: vs => σ k = v ∧ Agr σ ks vs
  | _, _ => False

/-- Less is known, otherwise the same. -/
def Le (σ' σ : Sg) : Prop := ∀ k, σ' k = σ k ∨ σ' k = .dead

def wpm (E : Env) : M → (MX → Sg → Prop) → Sg → Prop
  | .skip, Q, σ => Q .normal σ
  | .reg ms, Q, σ => ∃ σ', runS E ms σ σ' ∧ Q .normal σ'
  | .seq a b, Q, σ => wpm E a (fun e σ' => match e with | .normal => ∃ σ2, Le σ2 σ' ∧ wpm E b Q σ2 | e => Q e σ') σ
  | .cond x _ a b, Q, σ => ∃ t, x.ev E σ = .v (.bool t) ∧ (t = true → wpm E a Q σ) ∧ (t = false → wpm E b Q σ)
  | .block id _ b, Q, σ => wpm E b (fun e σ' => match e with | .exit j => if j = id then Q .normal σ' else Q (.exit j) σ' | e => Q e σ') σ
  | .loop keep _ b, Q, σ => ∃ (ι : Type) (vals : ι → List AV) (μ : ι → Nat) (i0 : ι), Agr σ keep (vals i0) ∧
      ∀ i, wpm E b (fun e σ' => match e with | .normal => ∃ j, μ j < μ i ∧ Agr σ' keep (vals j) | e => Q e σ') (head keep (vals i))
  | .exit id, Q, σ => Q (.exit id) σ
  | .ret, Q, σ => Q .ret σ
  | .sco b, Q, σ => wpm E b Q σ
  | .scp b, Q, σ => wpm E b Q σ
  | .lab l keep _ r b, Q, σ => ∃ (ι : Type) (vals : ι → List AV) (μ : ι → Nat),
      wpm E b (fun e σ' => match e with | .exit j => if j = gid l then ∃ i, Agr σ' keep (vals i) else Q (.exit j) σ' | e => Q e σ') σ ∧
      ∀ i, wpm E r (fun e σ' => match e with | .exit j => if j = gid l then ∃ k, μ k < μ i ∧ Agr σ' keep (vals k) else Q (.exit j) σ' | e => Q e σ') (head keep (vals i))

/-! ## The check -/

abbrev GL := List (Nat × Gh)
def GL.get (G : GL) (k : Nat) : Gh := match G with
  | [] => .no
  | (j, g) :: r => if k = j then g else GL.get r k
def GL.updL : GL → List Nat → List Gh → GL
  | G, t :: ts, x :: xs => (t, x) :: GL.updL G ts xs
  | G, _, _ => G

def sameV : Value → Value → Bool
  | .bool a, .bool b => a == b
  | .int j a, .int k b => j == k && a == b
  | .float j a, .float k b => j == k && a == b
  | .string a, .string b => a.data.toList == b.data.toList
  | .func (.func f) a b, .func (.func g) c d => f == g && a.isEmpty && b.isEmpty && c.isEmpty && d.isEmpty
  | .nilFunc, .nilFunc => true
  | .nilIface, .nilIface => true
  | .pointer none, .pointer none => true
  | _, _ => false

def constCell (x : Value) (y : AV) : Bool :=
  match x, y with
  | .slice none 0 0, .sl _ [] => true
  | .slice none 0 0, _ => false
  | x, .v z => sameV x z
  | _, _ => false

def constCells : List Value → List AV → Bool
  | [], [] => true
  | x :: xs, y :: ys => constCell x y && constCells xs ys
  | _, _ => false

def constOK : Value → AV → Bool
  | .agg cs, .ag ys => constCells cs.toList ys
  | .agg _, _ => false
  | x, y => constCell x y

def opdOK : Operand → Opd → Bool
  | .tmp t, .s u => t == u
  | .const v, .c x => constOK v x
  | .func f, .c (.v (.func (.func g) a b)) => f == g && a.isEmpty && b.isEmpty
  | .global g, .g n => g == n
  | _, _ => false

def opdsOK : List Operand → List Opd → Bool
  | [], [] => true
  | x :: xs, y :: ys => opdOK x y && opdsOK xs ys
  | _, _ => false

section
variable (P : Program)
def isAggT (t : TypeId) : Option Bool := (P.underlying t).map fun d => match d with | .struct _ => true | .array _ _ => true | _ => false
def sizeT (t : TypeId) : Option Nat := (P.info? t).map (·.size)
def bytesT (t : TypeId) : Option Nat := (P.info? t).map (·.bytes)
def elemT (t : TypeId) : Option TypeId := (P.underlying t).bind fun d => match d with | .slice e => some e | _ => none
def fieldT (t : TypeId) (f : Nat) : Option Field := (P.underlying t).bind fun d => match d with | .struct fs => fs[f]? | _ => none
/-- agg and size of a type, together -/
def shapeOK (t : TypeId) (n : Nat) (agg : Bool) : Bool := sizeT P t == some n && isAggT P t == some agg && (agg || n == 1)
def zeroOK (t : TypeId) (z : List AV) : Bool := ((P.info? t).bind (·.zero)).any fun v => constCells v.cells.toList z
def isIntT (t : TypeId) (k : IntKind) : Bool := match P.underlying t with | some (.int j) => j == k | _ => false
def isBoolT (t : TypeId) : Bool := match P.underlying t with | some .bool => true | _ => false
def isStrT (t : TypeId) : Bool := match P.underlying t with | some .string => true | _ => false
def isPtrT (t : TypeId) : Bool := match P.underlying t with | some (.pointer _) => true | _ => false
/-- a slice type whose elements have s cells (s > 0) and b bytes -/
def sliceOK (t : TypeId) (s b : Nat) : Bool := (elemT P t).any fun e => (P.info? e).any (fun i => i.size == s && i.bytes == b && i.zero.any fun z => z.cells.size == s) && decide (0 < s)
def sliceOK' (t : TypeId) (s : Nat) : Bool := (elemT P t).any fun e => sizeT P e == some s && decide (0 < s)
def sliceOKz (t : TypeId) (s : Nat) : Bool := (elemT P t).any fun e => (P.info? e).any (fun i => i.size == s && i.zero.isSome) && decide (0 < s)
def isByteSl (t : TypeId) : Bool := (elemT P t).any fun e => isIntT P e .u8

def fieldsSized (t : TypeId) : Bool := match P.underlying t with
  | some (.struct fs) => fs.toList.all fun f => (sizeT P f.type).isSome
  | some (.array _ e) => (sizeT P e).isSome
  | _ => false
def placesOK (t : TypeId) (pl : List (Nat × Nat)) (parts : List (Nat × Operand)) : Bool :=
  fieldsSized P t && pl.length == parts.length && (pl.zip parts).all fun (q, p) =>
    match P.underlying t with
    | some (.struct fs) => (fs[p.1]?).any fun f => f.offset == q.1 && sizeT P f.type == some q.2
    | some (.array _ e) => sizeT P e == some q.2 && p.1 * q.2 == q.1
    | _ => false

/-- Is a plain function to be called: one with a body? -/
def plainFn (f : Nat) : Bool := (P.funcs[f]?).any fun fn => fn.body.isSome && !(fn.name == "runtime.NumGoroutine")

/-- Is this operation what the small language's says? -/
def opOK (sg : Nat → FSig) (o : Oper) (m : MOp) : Bool :=
  match m.k with
  | .mv => match o.op, m.rs with
    | .move x, rs => opdsOK [x] rs
    | .assign x, rs => opdsOK [x] rs
    | _, _ => false
  | .nl _ _ => match o.op, m.rs with
    | .move (.const (.slice none 0 0)), [_] => true
    | .assign (.const (.slice none 0 0)), [_] => true
    | _, _ => false
  | .pick => match o.op, m.rs with
    | .pick c a b, rs => opdsOK [c, a, b] rs
    | _, _ => false
  | .bin b => match o.op, m.rs with
    | .binOp b' _ x y _, rs => b == b' && opdsOK [x, y] rs
    | _, _ => false
  | .be neg => match o.op, m.rs with
    | .binOp o' t x y _, rs => isBoolT P t && o' == (if neg then .neq else .eql) && opdsOK [x, y] rs
    | _, _ => false
  | .un b => match o.op, m.rs with
    | .unOp b' _ x, rs => b == b' && opdsOK [x] rs
    | _, _ => false
  | .ci k => match o.op, m.rs with
    | .convert s d x, rs => isIntT P d k && (P.underlying s).isSome && opdsOK [x] rs
    | _, _ => false
  | .cs => match o.op, m.rs with
    | .convert s d x, rs => isStrT P s && isStrT P d && opdsOK [x] rs
    | _, _ => false
  | .sb => match o.op, m.rs with
    | .convert s d x, rs => isStrT P s && isByteSl P d && opdsOK [x] rs
    | _, _ => false
  | .sbt _ => match o.op, m.rs with
    | .convert s d x, r :: _ => isStrT P s && isByteSl P d && opdOK x r
    | _, _ => false
  | .bs => match o.op, m.rs with
    | .convert s d x, rs => isByteSl P s && isStrT P d && opdsOK [x] rs
    | _, _ => false
  | .len => match o.op, m.rs with
    | .call { callee := .builtin .len, args, argTypes }, rs => argTypes.toList.length == 1 && argTypes.toList.all (fun t => (elemT P t).isSome) && args.toList.length == 1 && opdsOK args.toList rs
    | _, _ => false
  | .lns => match o.op, m.rs with
    | .call { callee := .builtin .len, args, argTypes }, rs => argTypes.toList.length == 1 && argTypes.toList.all (fun t => isStrT P t) && args.toList.length == 1 && opdsOK args.toList rs
    | _, _ => false
  | .mn => match o.op, m.rs with
    | .call { callee := .builtin .min, args, .. }, rs => args.toList.length == 2 && opdsOK args.toList rs
    | _, _ => false
  | .mx => match o.op, m.rs with
    | .call { callee := .builtin .max, args, .. }, rs => args.toList.length == 2 && opdsOK args.toList rs
    | _, _ => false
  | .ix s => match o.op, m.rs with
    | .indexAddr t x i, rs => sliceOK' P t s && opdsOK [x, i] rs
    | _, _ => false
  | .si => match o.op, m.rs with
    | .index t x i, rs => isStrT P t && opdsOK [x, i] rs
    | _, _ => false
  | .ai n s agg => match o.op, m.rs with
    | .index t x i, rs => (match P.underlying t with | some (.array n' e) => n == n' && shapeOK P e s agg | _ => false) && opdsOK [x, i] rs
    | _, _ => false
  | .fe o' n agg => match o.op, m.rs with
    | .field t x f, rs => (fieldT P t f).any (fun fl => fl.offset == o' && shapeOK P fl.type n agg) && opdsOK [x] rs
    | _, _ => false
  | .sc s lo hi => match o.op, m.rs with
    | .slice t x l h none, rs => sliceOK' P t s && l.isSome == lo && h.isSome == hi && opdsOK (x :: (l.toList ++ h.toList)) rs
    | _, _ => false
  | .ss lo hi => match o.op, m.rs with
    | .slice t x l h none, rs => isStrT P t && l.isSome == lo && h.isSome == hi && opdsOK (x :: (l.toList ++ h.toList)) rs
    | _, _ => false
  | .bl s n => match o.op, m.rs with
    | .buildSlice t len parts, rs => sliceOKz P t s && len == n && decide (n * s ≤ 2 ^ 24) && parts.toList.map (·.1) == List.range n && opdsOK (parts.toList.map (·.2)) rs
    | _, _ => false
  | .blt s n _ => match o.op, m.rs with
    | .buildSlice t len parts, rs => sliceOKz P t s && len == n && decide (n * s ≤ 2 ^ 24) && parts.toList.map (·.1) == List.range n && opdsOK (parts.toList.map (·.2)) (rs.take n) && rs.length == n + 1
    | _, _ => false
  | .bd z pl => match o.op, m.rs with
    | .build t parts, rs => zeroOK P t z && placesOK P t pl parts.toList && opdsOK (parts.toList.map (·.2)) rs
    | _, _ => false
  | .al _ z ts => match o.op, m.rs with
    | .alloc t, _ => zeroOK P t z && ts.all fun q => match z[q.1]? with | some (.sl _ []) => true | _ => false
    | _, _ => false
  | .bx _ => match o.op, m.rs with
    | .box _ x, r :: _ => opdOK x r
    | _, _ => false
  | .ld _ _ n agg => match o.op, m.rs with
    | .load t x, r :: _ => shapeOK P t n agg && opdOK x r
    | _, _ => false
  | .st _ _ n => match o.op, m.rs with
    | .store t x v, [p, _, r] => sizeT P t == some n && opdOK x p && opdOK v r
    | _, _ => false
  | .lr n agg => match o.op, m.rs with
    | .load t x, [r] => shapeOK P t n agg && opdOK x r
    | _, _ => false
  | .fa _ _ d => match o.op, m.rs with
    | .fieldAddr t x f, [r] => (fieldT P t f).any (fun fl => fl.offset == d && (sizeT P fl.type).any (fun n => decide (0 < n))) && opdOK x r
    | _, _ => false
  | .fr d n agg => match o.op, m.rs with
    | .fieldAddr t x f, [r] => (fieldT P t f).any (fun fl => fl.offset == d && shapeOK P fl.type n agg && decide (0 < n)) && opdOK x r
    | _, _ => false
  | .nc _ _ => match o.op, m.rs with
    | .nilCheck x, [r] => opdOK x r
    | _, _ => false
  | .ncr => match o.op, m.rs with
    | .nilCheck x, [r] => opdOK x r
    | _, _ => false
  | .ex i => match o.op, m.rs with
    | .extract x j, [r] => i == j && opdOK x r
    | _, _ => false
  | .ap _ _ s b => match o.op, m.rs with
    | .call { callee := .builtin .append, args, argTypes }, [r, q, _, _] => opdsOK args.toList [r, q] && argTypes.toList.length == 2 && argTypes.toList.all (fun t => sliceOK P t s b)
    | _, _ => false
  | .aps _ _ b => match o.op, m.rs with
    | .call { callee := .builtin .append, args, argTypes }, [r, q, _, _] => opdsOK args.toList [r, q] && (match argTypes.toList with | [t, u] => sliceOK P t 1 b && isByteSl P t && isStrT P u | _ => false)
    | _, _ => false
  | .an _ s b => match o.op, m.rs with
    | .call { callee := .builtin .append, args, argTypes }, [q, _] => (match args.toList with | [.const (.slice none 0 0), x] => opdOK x q | _ => false) && argTypes.toList.length == 2 && argTypes.toList.all (fun t => sliceOK P t s b)
    | _, _ => false
  | .ans _ b => match o.op, m.rs with
    | .call { callee := .builtin .append, args, argTypes }, [q, _] => (match args.toList with | [.const (.slice none 0 0), x] => opdOK x q | _ => false) && (match argTypes.toList with | [t, u] => sliceOK P t 1 b && isByteSl P t && isStrT P u | _ => false)
    | _, _ => false
  | .mk _ s b z => match o.op, m.rs with
    | .makeSlice t l c, [r, q, _] => sliceOK P t s b && opdsOK [l, c] [r, q] && (elemT P t).any (fun e => zeroOK P e z.cells && isAggT P e == some z.isAg)
    | _, _ => false
  | .pss _ => match o.op, m.rs with
    | .convert s d x, r :: _ => isStrT P s && isByteSl P d && opdOK x r
    | _, _ => false
  | .pln _ => match o.op, m.rs with
    | .call { callee := .builtin .len, args, argTypes }, r :: _ => argTypes.toList.length == 1 && argTypes.toList.all (fun t => (elemT P t).isSome) && opdsOK args.toList [r]
    | _, _ => false
  | .pix _ s => match o.op, m.rs with
    | .indexAddr t x i, [r, q, _] => sliceOK' P t s && opdsOK [x, i] [r, q]
    | _, _ => false
  | .pfa _ d => match o.op, m.rs with
    | .fieldAddr t x f, [r] => (fieldT P t f).any (fun fl => fl.offset == d && (sizeT P fl.type).any (fun n => decide (0 < n))) && opdOK x r
    | _, _ => false
  | .pld _ _ n agg => match o.op, m.rs with
    | .load t x, r :: _ => shapeOK P t n agg && opdOK x r
    | _, _ => false
  | .pst _ _ n => match o.op, m.rs with
    | .store t x v, [p, _, r] => sizeT P t == some n && opdOK x p && opdOK v r
    | _, _ => false
  | .pfz _ _ => match o.op, m.rs with
    | .move x, [r, _] => opdOK x r
    | .assign x, [r, _] => opdOK x r
    | _, _ => false
  | .call f c => match o.op, m.rs with
    | .call { callee := .value (.func g), args, .. }, rs => f == g && plainFn P f && c.fits (sg f) && opdsOK args.toList (rs.take c.n) && args.size == c.n
    | _, _ => false

def small (nt : Nat) (l : List Operand) : Bool := l.all fun x => match x with | .tmp t => decide (t < nt) | _ => true
/-- Are an operation's keys in order? 'd': the slot that it writes. -/
def keysOK (nt : Nat) (dst : Option Nat) (m : MOp) : Bool :=
  let slot := fun x => match x with | Opd.s t => some t | _ => none
  let tail := fun (n : Nat) (ks : List Nat) => m.rs.length == n + ks.length && (m.rs.drop n).map slot == ks.map some
  let mr := fun x => decide (nt ≤ x) && decide (x < 1000000)
  let mn := fun x => decide (nt ≤ x) && decide (x < 999999)
  let dOK := fun (l : List Nat) => match dst with | some d => decide (d < nt) && m.ds == d :: l | none => false
  match m.k with
  | .al m0 _ ts => mn m0 && tail 0 (m0 :: ts.map fun t => lk t.2.1) && dOK (m0 :: ts.map fun t => lk t.2.1)
  | .bx m0 => mn m0 && tail 1 [m0] && dOK [m0]
  | .ld m0 _ _ _ => mr m0 && tail 1 [m0] && dOK []
  | .st m0 _ _ => mr m0 && dst.isNone && m.ds == [m0] && (match m.rs with | [_, .s t, _] => t == m0 | _ => false)
  | .sbt k => tail 1 [lk k] && dOK [lk k]
  | .blt _ n k => tail n [lk k] && dOK [lk k]
  | .ap k d _ _ => tail 2 [lk k, lk d] && dOK [lk k, lk d]
  | .aps k d _ => tail 2 [lk k, lk d] && dOK [lk k, lk d]
  | .an d _ _ => tail 1 [lk d] && dOK [lk d]
  | .ans d _ => tail 1 [lk d] && dOK [lk d]
  | .mk d _ _ _ => tail 2 [lk d] && dOK [lk d]
  | .nl d _ => tail 0 [lk d] && dOK [lk d]
  | .pss k => tail 1 [lk k] && dOK [lk k]
  | .pln k => tail 1 [lk k] && dOK []
  | .pix k _ => tail 2 [lk k] && dOK []
  | .pld k _ _ _ => tail 1 [lk k] && dOK []
  | .pst k _ _ => dst.isNone && m.ds == [lk k] && (match m.rs with | [_, .s t, _] => t == lk k | _ => false)
  | .pfz k _ => tail 1 [lk k] && (match m.rs with | .s j :: _ => decide (j < nt) && dOK [j, lk k] | _ => false)
  | .call _ c => c.mems.all mr && tail c.n (c.mems ++ c.lks) && dOK (c.mems ++ c.lks) && decide ((c.mems ++ c.lks).Nodup)
  | _ => dOK []

/-- A guard: the slot that the operation named in it writes. -/
def guardOK (nt : Nat) (ops : Array Oper) (o : Oper) (m : MOp) : Bool :=
  match o.guard, m.gd with
  | none, none => true
  | some (j, b), some (t, b') => b == b' && decide (t < nt) && (match (ops[j]?).bind (·.dst) with | some d => d == t | none => false) && m.ds.length == 1 && o.dst.isSome
  | _, _ => false

def MOp.reads (m : MOp) : List Nat := m.rs.filterMap (fun x => match x with | .s t => some t | _ => none) ++ m.gd.toList.map (·.1)
/-- May two operations not change places? -/
def clash (m n : MOp) : Bool := m.ds.any (fun d => n.reads.contains d || n.ds.contains d) || n.ds.any (fun d => m.reads.contains d)

/-- The operations that must come before this one, whatever the order. -/
def befs (o : Oper) : List Nat := (o.after.toList.filter (Region.binds .any)).map (·.on)
/-- From operation i on back along the edges: is j reached? By a list of all that is reached, for each. -/
def befores (ops : List Oper) : List (List Nat) :=
  ops.foldl (fun acc o => acc ++ [(befs o).flatMap fun e => e :: (acc.getD e [])]) []
def edgesOK (ops : List Oper) : Bool := ops.zipIdx.all fun (o, i) => (befs o).all fun e => decide (e < i)
def orderOK (ops : List Oper) (ms : List MOp) : Bool :=
  edgesOK ops && (let b := befores ops; ms.zipIdx.all fun (m, i) => (ms.take i).zipIdx.all fun (n, j) => !clash n m || (b.getD i []).contains j)

def all2 {A B : Type} (f : A → B → Bool) : List A → List B → Bool
  | [], [] => true
  | a :: as, b :: bs => f a b && all2 f as bs
  | _, _ => false

def regOK (sg : Nat → FSig) (nt : Nat) (ops : Array Oper) (draw : Bool) (ms : List MOp) : Bool :=
  all2 (fun o m => opOK P sg o m && keysOK nt o.dst m && guardOK nt ops o m && small nt o.op.operands.toList) ops.toList ms && (!draw || (P.follows .mixedOrders && orderOK ops.toList ms))

/-- The ghosts behind an operation. Under a guard none but of a slot is written. -/
def gstep (m : MOp) (G : GL) : Option GL := (gsem m.k (m.rs.map (Opd.gh G.get))).bind fun gs => if gs.length = m.ds.length then some (GL.updL G m.ds gs) else none
def grun : List MOp → GL → Option GL
  | [], G => some G
  | m :: ms, G => (gstep m G).bind (grun ms)

/-- Pairs of names: one of the weaker state's, one of the stronger's. -/
def pairsOf (G H : GL) : List (Nat × Nat) :=
  H.flatMap fun (k, h) => match h, G.get k with
    | .tip i _, .tip j _ => [(i, j)]
    | .cl ts, .cl us => ts.flatMap fun t => match us.find? (fun u => u.1 == t.1) with | some u => [(t.2.1, u.2.1)] | none => []
    | .pv _, _ => [(k - 1000000, k - 1000000)]
    | _, _ => []
/-- Does state G say all that H says, with H's names of tips for its own? -/
def refines (G H : GL) : Bool :=
  let ρ := pairsOf G H
  let nm := fun i => (ρ.find? (fun p => p.1 == i)).map (·.2)
  ρ.all (fun p => ρ.all fun q => (p.1 == q.1) == (p.2 == q.2)) &&
  H.all fun (k, h) => match h, G.get k with
    | .no, _ => true
    | .ptr m o, .ptr m' o' => m == m' && o == o' && (match H.get m with | .cl _ => true | _ => false)
    | .tip i s, .tip j s' => s == s' && nm i == some j && (H.get (lk i)).isLk
    | .cl ts, .cl us => ts.all fun t => (match us.find? (fun u => u.1 == t.1) with | some u => nm t.2.1 == some u.2.1 && t.2.2 == u.2.2 | none => false) && (H.get (lk t.2.1)).isLk
    | .live s, _ => ρ.any fun p => lk p.1 == k && G.get (lk p.2) == .live s
    | .pv s, .pv s' => s == s' && ρ.any fun p => lk p.1 == k && p.1 == p.2
    | .pv s, .sus d s' => s == s' && !(H.get d).isLk && ρ.any fun p => lk p.1 == k && p.1 == p.2
    | .used, _ => decide (1000000 ≤ k)
    | _, _ => false

mutual
/-- The check of a function's code: what is known where it ends normally, and at each exit. 'rt': may it return where this is known? -/
def chk (sg : Nat → FSig) (nt : Nat) (rt : GL → Bool) : Code → M → GL → Option (Option GL × List (Nat × GL))
  | .skip, .skip, G => some (some G, [])
  | .label _, .skip, G => some (some G, [])
  | .region _ ops d, .reg ms, G => if regOK P sg nt ops d ms then (grun ms G).map fun G' => (some G', []) else none
  | .seq a b, .seq x y, G => (chk sg nt rt a x G).bind fun r => match r.1 with
    | none => some (none, r.2)
    | some G1 => (chk sg nt rt b y G1).map fun q => (q.1, r.2 ++ q.2)
  | .cond c a b, .cond x H y z, G => if opdOK c x && small nt [c] then (chk sg nt rt a y G).bind fun r => (chk sg nt rt b z G).bind fun q =>
      match r.1, q.1 with
      | none, n => some (n, r.2 ++ q.2)
      | n, none => some (n, r.2 ++ q.2)
      | some A, some B => if refines A H && refines B H then some (some H, r.2 ++ q.2) else none
    else none
  | .block i b, .block j H y, G => if i = j ∧ i < 1000000 then (chk sg nt rt b y G).bind fun r =>
      if (r.1.toList ++ (r.2.filter (·.1 == i)).map (·.2)).all (refines · H) then
        some (if r.1.isNone && (r.2.filter (·.1 == i)).isEmpty then none else some H, r.2.filter (·.1 != i)) else none
    else none
  | .loop b, .loop keep H y, G => if refines G H && H.all (fun p => keep.contains p.1 || decide (1000000 ≤ p.1)) && decide keep.Nodup then
      (chk sg nt rt b y H).bind fun r => if r.1.all (refines · H) then some (none, r.2) else none
    else none
  | .exit i, .exit j, G => if i = j ∧ i < 1000000 then some (none, [(i, G)]) else none
  | .goto l, .exit j, G => if j = gid l then some (none, [(j, G)]) else none
  | .ret, .ret, G => if rt G then some (none, []) else none
  | .scope c, .sco x, G => (chkS sg nt rt c x G).bind fun r => if r.2.all (fun p => decide (p.1 < 1000000)) then some r else none
  | _, _, _ => none
/-- The check of what stands in a scope, with its labels. -/
def chkS (sg : Nat → FSig) (nt : Nat) (rt : GL → Bool) : Code → M → GL → Option (Option GL × List (Nat × GL))
  | c, .scp b, G => chk sg nt rt c b G
  | c, .lab l _ H r b, G => match findLabel c l with
    | some rest => (chk sg nt rt rest r H).bind fun q => (chkS sg nt rt c b G).bind fun p =>
      if ((q.2 ++ p.2).filter (·.1 == gid l)).all (fun x => refines x.2 H) && (q.1.isNone || p.1.isNone) then
        some (if q.1.isNone then p.1 else q.1, (q.2 ++ p.2).filter (·.1 != gid l)) else none
    | none => none
  | _, _, _ => none
end
end
end Go.Eng
