/- Texts of my own, one behind the other: EvC, EvD, EvE, EvF, EvG, EvH, EvI, EvJ, ArithP, UtfPure, TreePure, EvK, EvL, RegPure, MpPure, DbPure, DbItoa. -/
import Derived.Test.YthdgdfjnkgpegaaDoorT2
import Derived.Laws.Strings
import Derived.ChangeShapes
import Derived.ProofKit
import Derived.ChangeSlices
import Derived.ChangeArms
import Derived.DataReads
import Derived.IntWalk
import Derived.Lib.Bytealg
import Derived.Below
import Derived.Lib.LaidTab
import Derived.Lib.ItoaNum
import Derived.Sort.Grow
import Derived.Deep.Draws
import Derived.Shelf.Strconv.Itoa0
import Derived.Shelf.Strconv.Itoa1
import Derived.Shelf.LaysM
import Derived.Shelf.Strconv.Itoa2
import Derived.Shelf.Strconv.Itoa3
import Derived.Test.YthdgdfjnkgpegaaDoorProg
set_option linter.unusedVariables false
set_option linter.unusedSimpArgs false
namespace Go.Eng
def binI (o:BinOp) (k:IntKind) (a b:Int):Res :=
 match o with
 | .add => .ok [.i k (k.wrap (a+b))]
 | .sub => .ok [.i k (k.wrap (a - b))]
 | .mul => .ok [.i k (k.wrap (a * b))]
 | .quo => .if_ (!decide (b=0)) [.i k (k.wrap (a.tdiv b))]
 | .rem => .if_ (!decide (b=0)) [.i k (a.tmod b)]
 | .and => .ok [.i k (intBitsV .and k a b)]
 | .or => .ok [.i k (intBitsV .or k a b)]
 | .xor => .ok [.i k (intBitsV .xor k a b)]
 | .andNot => .ok [.i k (intBitsV .andNot k a b)]
 | .eql => .ok [.b (decide (a=b))]
 | .neq => .ok [.b (!decide (a=b))]
 | .lss => .ok [.b (decide (a<b))]
 | .leq => .ok [.b (decide (a≤b))]
 | .gtr => .ok [.b (decide (b<a))]
 | .geq => .ok [.b (decide (b≤a))]
 | _ => .err
def binS (o:BinOp) (a b:Str):Res :=
 match o with
 | .add => .if_ (decide (a.length+b.length≤9223372036854775807)) [.s (a++b)]
 | .eql => .ok [.b (decide (a=b))]
 | .neq => .ok [.b (!decide (a=b))]
 | _ => .err
def TV.count:TV→Option (Option Bool × Nat)
 | .u8 n=>some (none,n.toNat)
 | .u16 n=>some (none,n.toNat)
 | .u32 n=>some (none,n.toNat)
 | .u64 n=>some (none,n.toNat)
 | .i _ n=>some (some (decide (0≤n)),n.toNat)
 | _=>none
def Res.under (p:Option Bool) (ws:List TV):Res :=
 match p with
 | none => .ok ws
 | some p => .if_ p ws
def shlT (x y : TV) : Res :=
  match y.count with
  | some (p, n) => match x with
    | .u8 a => .under p [.u8 (shl8 a n)]
    | .u16 a => .under p [.u16 (shl16 a n)]
    | .u32 a => .under p [.u32 (shl32 a n)]
    | .u64 a => .under p [.u64 (shl64 a n)]
    | .i k a => .under p [.i k (k.wrap (a * 2 ^ (min n k.bits)))]
    | _ => .err
  | none => .err
def shrT (x y : TV) : Res :=
  match y.count with
  | some (p, n) => match x with
    | .u8 a => .under p [.u8 (shr8 a n)]
    | .u16 a => .under p [.u16 (shr16 a n)]
    | .u32 a => .under p [.u32 (shr32 a n)]
    | .u64 a => .under p [.u64 (shr64 a n)]
    | .i k a => .under p [.i k (a.fdiv (2 ^ (min n k.bits)))]
    | _ => .err
  | none => .err
def isShift:BinOp→Option Bool
 | .shl=>some true
 | .shr=>some false
 | _=>none
def binT (o : BinOp) (x y : TV) : Res :=
  match isShift o with
  | some true => shlT x y
  | some false => shrT x y
  | none => match x, y with
    | .u8 a, .u8 b => bin8 o a b
    | .u16 a, .u16 b => bin16 o a b
    | .u32 a, .u32 b => bin32 o a b
    | .u64 a, .u64 b => bin64 o a b
    | .i k a, .i k' b => if k = k' then binI o k a b else .err
    | .s a, .s b => binS o a b
    | _, _ => .err
def unT (o:UnOp) (x:TV):Res :=
 match o,x with
 | .neg,.u8 a => .ok [.u8 (0 - a)]
 | .neg,.u16 a => .ok [.u16 (0 - a)]
 | .neg,.u32 a => .ok [.u32 (0 - a)]
 | .neg,.u64 a => .ok [.u64 (0 - a)]
 | .neg,.i k a => .ok [.i k (k.wrap (0 - a))]
 | .xor,.u8 a => .ok [.u8 (~~~a)]
 | .xor,.u16 a => .ok [.u16 (~~~a)]
 | .xor,.u32 a => .ok [.u32 (~~~a)]
 | .xor,.u64 a => .ok [.u64 (~~~a)]
 | .xor,.i k a => .ok [.i k (intBitsV .xor k (if k.signed then -1 else k.max) a)]
 | .not,.b a => .ok [.b !a]
 | _,_ => .err
theorem shl_nat {a n b m:Nat} (hm:m=2 ^ b):(a * 2 ^ (min n b)) % m=(a * 2 ^ n) % m:=by
 subst hm
 by_cases h:n≤b
 ·rw [Nat.min_eq_left h]
 ·rw [Nat.min_eq_right (by omega),show n=b+(n - b) by omega,Nat.pow_add,←Nat.mul_assoc,Nat.mul_mod_left,Nat.mul_right_comm,Nat.mul_mod_left]
theorem shr_nat {a n b m:Nat} (hm:m=2 ^ b) (ha:a<m):a / 2 ^ (min n b)=(a / 2 ^ n) % m:=by
 subst hm
 rw [Nat.mod_eq_of_lt (Nat.lt_of_le_of_lt (Nat.div_le_self _ _) ha)]
 by_cases h:n≤b
 ·rw [Nat.min_eq_left h]
 ·rw [Nat.min_eq_right (by omega),Nat.div_eq_of_lt ha,Nat.div_eq_of_lt (Nat.lt_of_lt_of_le ha (Nat.pow_le_pow_right (by omega) (by omega)))]
theorem toList_of (l:Str):ByteArray.toList ⟨⟨l⟩⟩=l:=by rw [ByteArray.toList_eq]
def Res.gives (r:Res) (P:AV→Prop):Prop:=∀ws,r.holds ws→∃x:TV,ws=[x]∧P x.av
def BinP (o:BinOp) (x y:TV) (z:AV):Prop:=∃a b v,x.av = .v a∧y.av = .v b∧binV o a b=some v∧z = .v v
theorem under_holds {p:Option Bool} {ws r:List TV} (h:(Res.under p ws).holds r):r=ws∧∀b,p=some b→b=true:=by
 cases p with
 | none=>exact ⟨h,fun _ e=>by cases e⟩
 | some p=>exact ⟨h.2,fun _ e=>by cases e;exact h.1⟩
theorem count_av {y:TV} {p:Option Bool} {n:Nat} (h:y.count=some (p,n)) (hp:∀b,p=some b→b=true):∃k m,y.av = .v (.int k m)∧0≤m∧m.toNat=n:=by
 cases y <;> simp [TV.count] at h <;> obtain ⟨rfl,rfl⟩:=h
 ·exact ⟨_,_,rfl,by omega,by omega⟩
 ·exact ⟨_,_,rfl,by omega,by omega⟩
 ·exact ⟨_,_,rfl,by omega,by omega⟩
 ·exact ⟨_,_,rfl,by omega,by omega⟩
 ·rename_i k m
  have:=hp _ rfl
  exact ⟨_,_,rfl,by simpa using this,rfl⟩
theorem shl8_ok (a:UInt8) (n:Nat):IntKind.u8.wrap ((a.toNat:Int) * 2 ^ (min n 8))=((shl8 a n).toNat:Int):=by
 rw [wrap_u8',shl8,UInt8.toNat_ofNat',show ((a.toNat:Int) * 2 ^ (min n 8))=((a.toNat * 2 ^ (min n 8):Nat):Int) by simp]
 have:=shl_nat (a:=a.toNat) (n:=n) (b:=8) (m:=256) (by decide)
 rw [show (2 ^ 8:Nat)=256 by decide]
 omega
theorem shr8_ok (a:UInt8) (n:Nat):IntKind.u8.wrap ((a.toNat:Int).fdiv (2 ^ (min n 8)))=((shr8 a n).toNat:Int):=by
 rw [wrap_u8',shr8,UInt8.toNat_ofNat',Int.fdiv_eq_ediv_of_nonneg _ (Int.le_of_lt (Int.pow_pos (by decide))),show ((a.toNat:Int) / 2 ^ (min n 8))=((a.toNat / 2 ^ (min n 8):Nat):Int) by simp]
 have:=shr_nat (a:=a.toNat) (n:=n) (b:=8) (m:=256) (by decide) (by have:=a.toNat_lt;simpa using this)
 rw [show (2 ^ 8:Nat)=256 by decide]
 omega
theorem shl16_ok (a:UInt16) (n:Nat):IntKind.u16.wrap ((a.toNat:Int) * 2 ^ (min n 16))=((shl16 a n).toNat:Int):=by
 rw [wrap_u16',shl16,UInt16.toNat_ofNat',show ((a.toNat:Int) * 2 ^ (min n 16))=((a.toNat * 2 ^ (min n 16):Nat):Int) by simp]
 have:=shl_nat (a:=a.toNat) (n:=n) (b:=16) (m:=65536) (by decide)
 rw [show (2 ^ 16:Nat)=65536 by decide]
 omega
theorem shr16_ok (a:UInt16) (n:Nat):IntKind.u16.wrap ((a.toNat:Int).fdiv (2 ^ (min n 16)))=((shr16 a n).toNat:Int):=by
 rw [wrap_u16',shr16,UInt16.toNat_ofNat',Int.fdiv_eq_ediv_of_nonneg _ (Int.le_of_lt (Int.pow_pos (by decide))),show ((a.toNat:Int) / 2 ^ (min n 16))=((a.toNat / 2 ^ (min n 16):Nat):Int) by simp]
 have:=shr_nat (a:=a.toNat) (n:=n) (b:=16) (m:=65536) (by decide) (by have:=a.toNat_lt;simpa using this)
 rw [show (2 ^ 16:Nat)=65536 by decide]
 omega
theorem shl32_ok (a:UInt32) (n:Nat):IntKind.u32.wrap ((a.toNat:Int) * 2 ^ (min n 32))=((shl32 a n).toNat:Int):=by
 rw [wrap_u32',shl32,UInt32.toNat_ofNat',show ((a.toNat:Int) * 2 ^ (min n 32))=((a.toNat * 2 ^ (min n 32):Nat):Int) by simp]
 have:=shl_nat (a:=a.toNat) (n:=n) (b:=32) (m:=4294967296) (by decide)
 rw [show (2 ^ 32:Nat)=4294967296 by decide]
 omega
theorem shr32_ok (a:UInt32) (n:Nat):IntKind.u32.wrap ((a.toNat:Int).fdiv (2 ^ (min n 32)))=((shr32 a n).toNat:Int):=by
 rw [wrap_u32',shr32,UInt32.toNat_ofNat',Int.fdiv_eq_ediv_of_nonneg _ (Int.le_of_lt (Int.pow_pos (by decide))),show ((a.toNat:Int) / 2 ^ (min n 32))=((a.toNat / 2 ^ (min n 32):Nat):Int) by simp]
 have:=shr_nat (a:=a.toNat) (n:=n) (b:=32) (m:=4294967296) (by decide) (by have:=a.toNat_lt;simpa using this)
 rw [show (2 ^ 32:Nat)=4294967296 by decide]
 omega
theorem shl64_ok (a:UInt64) (n:Nat):IntKind.u64.wrap ((a.toNat:Int) * 2 ^ (min n 64))=((shl64 a n).toNat:Int):=by
 rw [wrap_u64',shl64,UInt64.toNat_ofNat',show ((a.toNat:Int) * 2 ^ (min n 64))=((a.toNat * 2 ^ (min n 64):Nat):Int) by simp]
 have:=shl_nat (a:=a.toNat) (n:=n) (b:=64) (m:=18446744073709551616) (by decide)
 rw [show (2 ^ 64:Nat)=18446744073709551616 by decide]
 omega
theorem shr64_ok (a:UInt64) (n:Nat):IntKind.u64.wrap ((a.toNat:Int).fdiv (2 ^ (min n 64)))=((shr64 a n).toNat:Int):=by
 rw [wrap_u64',shr64,UInt64.toNat_ofNat',Int.fdiv_eq_ediv_of_nonneg _ (Int.le_of_lt (Int.pow_pos (by decide))),show ((a.toNat:Int) / 2 ^ (min n 64))=((a.toNat / 2 ^ (min n 64):Nat):Int) by simp]
 have:=shr_nat (a:=a.toNat) (n:=n) (b:=64) (m:=18446744073709551616) (by decide) (by have:=a.toNat_lt;simpa using this)
 rw [show (2 ^ 64:Nat)=18446744073709551616 by decide]
 omega
theorem shrI_in {w:Nat} {m:Int} (a:Nat) (k:Nat) (h:(a:Int)<m):0≤(a:Int).fdiv (2 ^ k)∧(a:Int).fdiv (2 ^ k)<m:=by
 rw [Int.fdiv_eq_ediv_of_nonneg _ (Int.le_of_lt (Int.pow_pos (by decide)))]
 refine ⟨Int.ediv_nonneg (by omega) (Int.le_of_lt (Int.pow_pos (by decide))),?_⟩
 rw [show ((a:Int) / 2 ^ k)=((a / 2 ^ k:Nat):Int) by simp]
 have:=Nat.div_le_self a (2 ^ k)
 omega
theorem shlT_ok (x y:TV):(shlT x y).gives (BinP .shl x y):=by
 intro ws h
 unfold shlT at h
 split at h
 ·rename_i p n hc
  have key:∀{r:TV} {u:IntKind} {a:Int},(Res.under p [r]).holds ws→x.av = .v (.int u a)→r.av = .v (.int u (u.wrap (a * 2 ^ (min n u.bits))))→∃z:TV,ws=[z]∧BinP .shl x y z.av:=by
   intro r u a h hx hr
   obtain ⟨rfl,hp⟩:=under_holds h
   obtain ⟨k,m,h1,h2,rfl⟩:=count_av hc hp
   refine ⟨_,rfl,_,_,_,hx,h1,?_,hr⟩
   simp only [binV,Int.not_lt.2 h2,if_false]
  split at h
  ·exact key h rfl (by rw [show IntKind.u8.bits=8 from rfl,shl8_ok];rfl)
  ·exact key h rfl (by rw [show IntKind.u16.bits=16 from rfl,shl16_ok];rfl)
  ·exact key h rfl (by rw [show IntKind.u32.bits=32 from rfl,shl32_ok];rfl)
  ·exact key h rfl (by rw [show IntKind.u64.bits=64 from rfl,shl64_ok];rfl)
  ·exact key h rfl rfl
  ·exact h.elim
 ·exact h.elim
theorem shrT_ok (x y:TV):(shrT x y).gives (BinP .shr x y):=by
 intro ws h
 unfold shrT at h
 split at h
 ·rename_i p n hc
  have key:∀{r:TV} {u:IntKind} {a:Int},(Res.under p [r]).holds ws→x.av = .v (.int u a)→r.av = .v (.int u (a.fdiv (2 ^ (min n u.bits))))→∃z:TV,ws=[z]∧BinP .shr x y z.av:=by
   intro r u a h hx hr
   obtain ⟨rfl,hp⟩:=under_holds h
   obtain ⟨k,m,h1,h2,rfl⟩:=count_av hc hp
   refine ⟨_,rfl,_,_,_,hx,h1,?_,hr⟩
   simp only [binV,Int.not_lt.2 h2,if_false]
  split at h
  ·rename_i a
   have q:=shrI_in (w:=0) a.toNat (min n 8) (m:=256) (by have:=a.toNat_lt;simp at this;omega)
   exact key h rfl (by rw [show IntKind.u8.bits=8 from rfl];simp only [TV.av,byteAV];rw [←shr8_ok,wrap_u8',Int.emod_eq_of_lt q.1 q.2])
  ·rename_i a
   have q:=shrI_in (w:=0) a.toNat (min n 16) (m:=65536) (by have:=a.toNat_lt;simp at this;omega)
   exact key h rfl (by rw [show IntKind.u16.bits=16 from rfl];simp only [TV.av];rw [←shr16_ok,wrap_u16',Int.emod_eq_of_lt q.1 q.2])
  ·rename_i a
   have q:=shrI_in (w:=0) a.toNat (min n 32) (m:=4294967296) (by have:=a.toNat_lt;simp at this;omega)
   exact key h rfl (by rw [show IntKind.u32.bits=32 from rfl];simp only [TV.av];rw [←shr32_ok,wrap_u32',Int.emod_eq_of_lt q.1 q.2])
  ·rename_i a
   have q:=shrI_in (w:=0) a.toNat (min n 64) (m:=18446744073709551616) (by have:=a.toNat_lt;simp at this;omega)
   exact key h rfl (by rw [show IntKind.u64.bits=64 from rfl];simp only [TV.av,u64AV];rw [←shr64_ok,wrap_u64',Int.emod_eq_of_lt q.1 q.2])
  ·exact key h rfl rfl
  ·exact h.elim
 ·exact h.elim
theorem binI_ok {o:BinOp} {k:IntKind} {a b:Int} {ws:List TV} (h:(binI o k a b).holds ws):∃x:TV,ws=[x]∧∃v,x.av = .v v∧binV o (.int k a) (.int k b)=some v:=by
 cases o <;> simp only [binI,Res.holds] at h <;> first | exact h.elim | skip
 all_goals first
  | (obtain ⟨hp,rfl⟩:=h;refine ⟨_,rfl,_,rfl,?_⟩;simp only [Bool.not_eq_true',decide_eq_false_iff_not] at hp;simp only [binV,if_true,hp,if_false])
  | (subst h;refine ⟨_,rfl,_,rfl,?_⟩;simp only [binV,if_true,Option.some.injEq,Value.bool.injEq];first | done | (rw [Bool.eq_iff_iff];simp))
theorem binS_ok {o:BinOp} {a b:Str} {ws:List TV} (h:(binS o a b).holds ws):∃x:TV,ws=[x]∧∃v,x.av = .v v∧binV o (.string ⟨⟨a⟩⟩) (.string ⟨⟨b⟩⟩)=some v:=by
 cases o <;> simp only [binS,Res.holds] at h <;> first | exact h.elim | skip
 ·obtain ⟨hp,rfl⟩:=h
  refine ⟨_,rfl,_,rfl,?_⟩
  simp only [binV]
  have hp:a.length+b.length≤9223372036854775807:=by simpa using hp
  rw [if_neg]
  ·simp only [Option.some.injEq,Value.string.injEq]
   apply ByteArray.ext
   apply Array.ext'
   simp
  ·have:IntKind.i64.max=9223372036854775807:=by decide
   rw [this]
   simp only [ByteArray.size,Array.size]
   omega
 ·subst h
  refine ⟨_,rfl,_,rfl,?_⟩
  simp only [binV,toList_of,Option.some.injEq,Value.bool.injEq]
  rw [Bool.eq_iff_iff];simp
 ·subst h
  refine ⟨_,rfl,_,rfl,?_⟩
  simp only [binV,toList_of,Option.some.injEq,Value.bool.injEq]
  rw [Bool.eq_iff_iff];simp
theorem binT_ok (o:BinOp) (x y:TV):(binT o x y).gives (BinP o x y):=by
 intro ws h
 unfold binT at h
 split at h
 ·rename_i e
  have:o = .shl:=by cases o <;> simp [isShift] at e ⊢
  subst this
  exact shlT_ok x y ws h
 ·rename_i e
  have:o = .shr:=by cases o <;> simp [isShift] at e ⊢
  subst this
  exact shrT_ok x y ws h
 ·split at h
  ·obtain ⟨x,h1,v,h2,h3⟩:=bin8_ok h;exact ⟨x,h1,_,_,v,rfl,rfl,h3,h2⟩
  ·obtain ⟨x,h1,v,h2,h3⟩:=bin16_ok h;exact ⟨x,h1,_,_,v,rfl,rfl,h3,h2⟩
  ·obtain ⟨x,h1,v,h2,h3⟩:=bin32_ok h;exact ⟨x,h1,_,_,v,rfl,rfl,h3,h2⟩
  ·obtain ⟨x,h1,v,h2,h3⟩:=bin64_ok h;exact ⟨x,h1,_,_,v,rfl,rfl,h3,h2⟩
  ·split at h
   ·rename_i e
    subst e
    obtain ⟨x,h1,v,h2,h3⟩:=binI_ok h;exact ⟨x,h1,_,_,v,rfl,rfl,h3,h2⟩
   ·exact h.elim
  ·obtain ⟨x,h1,v,h2,h3⟩:=binS_ok h;exact ⟨x,h1,_,_,v,rfl,rfl,h3,h2⟩
  ·exact h.elim
theorem not8_ok (a:UInt8):intBitsV .xor .u8 (if IntKind.u8.signed then -1 else IntKind.u8.max) a.toNat=((~~~a).toNat:Int):=by
 have em:(if IntKind.u8.signed then (-1:Int) else IntKind.u8.max)=255:=by decide
 have e:BitVec.ofInt 8 255=BitVec.allOnes 8:=by decide
 rw [em]
 simp only [intBitsV,IntKind.bits]
 rw [e,ofInt_u8,wrap_u8']
 show (((BitVec.allOnes 8 ^^^ a.toBitVec:BitVec 8).toNat:Int)) % 256=_
 rw [BitVec.allOnes_xor]
 have:=(~~~a).toNat_lt
 simp only [UInt8.toNat,UInt8.toBitVec_not] at this ⊢
 omega
theorem not16_ok (a:UInt16):intBitsV .xor .u16 (if IntKind.u16.signed then -1 else IntKind.u16.max) a.toNat=((~~~a).toNat:Int):=by
 have em:(if IntKind.u16.signed then (-1:Int) else IntKind.u16.max)=65535:=by decide
 have e:BitVec.ofInt 16 65535=BitVec.allOnes 16:=by decide
 rw [em]
 simp only [intBitsV,IntKind.bits]
 rw [e,ofInt_u16,wrap_u16']
 show (((BitVec.allOnes 16 ^^^ a.toBitVec:BitVec 16).toNat:Int)) % 65536=_
 rw [BitVec.allOnes_xor]
 have:=(~~~a).toNat_lt
 simp only [UInt16.toNat,UInt16.toBitVec_not] at this ⊢
 omega
theorem not32_ok (a:UInt32):intBitsV .xor .u32 (if IntKind.u32.signed then -1 else IntKind.u32.max) a.toNat=((~~~a).toNat:Int):=by
 have em:(if IntKind.u32.signed then (-1:Int) else IntKind.u32.max)=4294967295:=by decide
 have e:BitVec.ofInt 32 4294967295=BitVec.allOnes 32:=by decide
 rw [em]
 simp only [intBitsV,IntKind.bits]
 rw [e,ofInt_u32,wrap_u32']
 show (((BitVec.allOnes 32 ^^^ a.toBitVec:BitVec 32).toNat:Int)) % 4294967296=_
 rw [BitVec.allOnes_xor]
 have:=(~~~a).toNat_lt
 simp only [UInt32.toNat,UInt32.toBitVec_not] at this ⊢
 omega
theorem not64_ok (a:UInt64):intBitsV .xor .u64 (if IntKind.u64.signed then -1 else IntKind.u64.max) a.toNat=((~~~a).toNat:Int):=by
 have em:(if IntKind.u64.signed then (-1:Int) else IntKind.u64.max)=18446744073709551615:=by decide
 have e:BitVec.ofInt 64 18446744073709551615=BitVec.allOnes 64:=by decide
 rw [em]
 simp only [intBitsV,IntKind.bits]
 rw [e,ofInt_u64,wrap_u64']
 show (((BitVec.allOnes 64 ^^^ a.toBitVec:BitVec 64).toNat:Int)) % 18446744073709551616=_
 rw [BitVec.allOnes_xor]
 have:=(~~~a).toNat_lt
 simp only [UInt64.toNat,UInt64.toBitVec_not] at this ⊢
 omega
theorem unT_ok (o : UnOp) (x : TV) : (unT o x).gives (fun z => ∃ a v, x.av = .v a ∧ unV o a = some v ∧ z = .v v) := by
  intro ws h
  unfold unT at h
  split at h <;> first
    | exact h.elim
    | (cases h; exact ⟨_, rfl, _, _, rfl, rfl, rfl⟩)
    | (cases h; refine ⟨_, rfl, _, _, rfl, rfl, ?_⟩
       rename_i a
       have := a.toNat_lt
       simp only [TV.av, byteAV, u64AV, AV.v.injEq, Value.int.injEq, true_and]
       first
         | (rw [wrap_u8', UInt8.toNat_sub]; simp; omega)
         | (rw [wrap_u16', UInt16.toNat_sub]; simp; omega)
         | (rw [wrap_u32', UInt32.toNat_sub]; simp; omega)
         | (rw [wrap_u64', UInt64.toNat_sub]; simp; omega)
         | exact (not8_ok a).symm | exact (not16_ok a).symm | exact (not32_ok a).symm | exact (not64_ok a).symm)
end Go.Eng
namespace Go.Eng
def TV.isAg:TV→Bool
 | .ag _=>true
 | _=>false
def TV.cells:TV→List TV
 | .ag cs=>cs
 | x=>[x]
def TV.plain:TV→Bool
 | .u8 _=>true
 | .u16 _=>true
 | .u32 _=>true
 | .u64 _=>true
 | .i _ _=>true
 | .b _=>true
 | .s _=>true
 | .sl _ _=>true
 | .ag _=>true
 | .ro _=>true
 | .c x=>x.oneCell'
 | _=>false
def partT (cs:List TV) (o n:Nat) (agg:Bool):Option TV :=
 match agg with
 | true=>cond (Nat.ble (o+n) cs.length) (some (.ag ((cs.drop o).take n))) none
 | false=>cs[o]?
def spliceT (cs:List TV) (o:Nat) (xs:List TV):List TV:=cs.take o++xs++cs.drop (o+xs.length)
def fillT (z:List TV):List (Nat × Nat)→List TV→Option (List TV)
 | [],[]=>some z
 | (o,n) :: pl,x :: xs=>cond (x.plain&&Nat.beq x.cells.length n&&Nat.ble (o+n) z.length) (fillT (spliceT z o x.cells) pl xs) none
 | _,_=>none
theorem TV.cells_av (x:TV) (h:x.plain=true):x.av.cells=x.cells.map TV.av:=by
 cases x <;> first | rfl | cases h | skip
 ·simp [TV.av,AV.cells,TV.cells,TV.avs_map]
theorem TV.plain_av (x:TV) (h:x.plain=true):x.av.plain=true:=by
 cases x <;> first | rfl | cases h | exact h | skip
theorem TV.isAg_av (x:TV) (h:x.plain=true):x.av.isAg=x.isAg:=by
 cases x <;> first | rfl | cases h
theorem partT_av {cs : List TV} {o n : Nat} {agg : Bool} {x : TV} (h : partT cs o n agg = some x) : partAV (cs.map TV.av) o n agg = some x.av := by
  cases agg with
  | true =>
    simp only [partT] at h
    cases hb : Nat.ble (o + n) cs.length with
    | false => rw [hb] at h; cases h
    | true =>
      rw [hb] at h
      cases h
      simp only [partAV, if_true, List.length_map, Nat.le_of_ble_eq_true hb, TV.av, TV.avs_map]
      simp [List.map_take, List.map_drop]
  | false =>
    simp only [partT] at h
    simp only [partAV, Bool.false_eq_true, if_false, List.getElem?_map, h]
    rfl
theorem spliceT_av (cs xs:List TV) (o:Nat):(spliceT cs o xs).map TV.av=splice (cs.map TV.av) o (xs.map TV.av):=by
 simp [spliceT,splice,List.map_take,List.map_drop]
theorem fillT_av : ∀ {pl : List (Nat × Nat)} {z xs cs : List TV}, fillT z pl xs = some cs → fillAV (z.map TV.av) pl (xs.map TV.av) = some (cs.map TV.av)
  | [], z, [], cs, h => by cases h; rfl
  | (o, n) :: pl, z, x :: xs, cs, h => by
    simp only [fillT] at h
    cases hb : (x.plain && Nat.beq x.cells.length n && Nat.ble (o + n) z.length) with
    | false => rw [hb] at h; cases h
    | true =>
      rw [hb] at h
      simp only [Bool.and_eq_true] at hb
      obtain ⟨⟨h1, h2⟩, h3⟩ := hb
      have h2 := Nat.eq_of_beq_eq_true h2
      have h3 := Nat.le_of_ble_eq_true h3
      simp only [List.map_cons, fillAV, TV.plain_av x h1, TV.cells_av x h1, List.length_map, h2, h3, and_self, if_true]
      rw [← spliceT_av]
      exact fillT_av h
  | [], z, _ :: _, cs, h => by cases h
  | _ :: _, z, [], cs, h => by cases h
def partElT (e:TV) (o n:Nat) (agg:Bool):Option TV :=
 match e with
 | .ag cs=>partT cs o n agg
 | x=>cond (Nat.beq o 0&&Nat.beq n 1&&!agg) (some x) none
def putElT (e:TV) (o:Nat) (x:TV):Option TV :=
 match e with
 | .ag cs=>cond (Nat.ble (o+x.cells.length) cs.length) (some (.ag (spliceT cs o x.cells))) none
 | _=>cond (Nat.beq o 0&&!x.isAg) (some x) none
theorem partElT_av {e x : TV} {o n : Nat} {agg : Bool} (he : e.plain = true) (h : partElT e o n agg = some x) : partEl e.av o n agg = some x.av := by
  cases e <;> first | cases he | skip
  case ag cs => simp only [partElT] at h; simp only [TV.av, TV.avs_map, partEl]; exact partT_av h
  all_goals
    simp only [partElT] at h
    cases hb : (Nat.beq o 0 && Nat.beq n 1 && !agg) with
    | false => rw [hb] at h; cases h
    | true =>
      rw [hb] at h
      cases h
      simp only [Bool.and_eq_true, Bool.not_eq_true'] at hb
      obtain ⟨⟨h1, h2⟩, h3⟩ := hb
      have h1 := Nat.eq_of_beq_eq_true h1
      have h2 := Nat.eq_of_beq_eq_true h2
      simp [partEl, TV.av, byteAV, u64AV, strAV, h1, h2, h3]
theorem putElT_av {e x y : TV} {o : Nat} (he : e.plain = true) (hx : x.plain = true) (h : putElT e o x = some y) : putEl e.av o x.av = some y.av := by
  cases e <;> first | cases he | skip
  case ag cs =>
    simp only [putElT] at h
    cases hb : Nat.ble (o + x.cells.length) cs.length with
    | false => rw [hb] at h; cases h
    | true =>
      rw [hb] at h
      cases h
      simp only [TV.av, TV.avs_map, putEl, TV.cells_av x hx, List.length_map, Nat.le_of_ble_eq_true hb, if_true, spliceT_av]
  all_goals
    simp only [putElT] at h
    cases hb : (Nat.beq o 0 && !x.isAg) with
    | false => rw [hb] at h; cases h
    | true =>
      rw [hb] at h
      cases h
      simp only [Bool.and_eq_true, Bool.not_eq_true'] at hb
      have h1 := Nat.eq_of_beq_eq_true hb.1
      have h2 := TV.isAg_av _ hx
      rw [hb.2] at h2
      simp [putEl, TV.av, byteAV, u64AV, strAV, h1, h2]
theorem STy.tv_plain (t:STy) (x:t.El):(t.tv x).plain=true:=by cases t <;> rfl
def STy.app:(t:STy)→List t.El→(t':STy)→List t'.El→Option (List t.El)
 | .bs,l,.bs,m=>some (l++m)
 | .is,l,.is,m=>some (l++m)
 | .ws,l,.ws,m=>some (l++m)
 | .ss,l,.ss,m=>some (l++m)
 | .iss,l,.iss,m=>some (l++m)
 | .fl,l,.fl,m=>some (l++m)
 | .ml,l,.ml,m=>some (l++m)
 | .il,l,.il,m=>some (l++m)
 | .sp,l,.sp,m=>some (l++m)
 | .ou,l,.ou,m=>some (l++m)
 | _,_,_,_=>none
theorem STy.app_av {t t':STy} {l n:List t.El} {m:List t'.El} (h:t.app l t' m=some n):t'=t∧n.map t.av=l.map t.av++m.map t'.av∧n.length=l.length+m.length:=by
 unfold STy.app at h
 split at h <;> cases h <;> simp
def STy.els (t : STy) : List TV → Option (List t.El)
  | [] => some []
  | x :: r => match t.el x with
    | some y => match t.els r with
      | some l => some (y :: l)
      | none => none
    | none => none
theorem STy.av_plain (t:STy) (x:t.El):(t.av x).plain=true∧(t.av x).cells.length=t.size:=by
 cases t with
 | fl=>cases x;exact ⟨rfl,rfl⟩
 | ml=>cases x;exact ⟨rfl,rfl⟩
 | il=>cases x;exact ⟨rfl,rfl⟩
 | _=>exact ⟨rfl,rfl⟩
theorem STy.els_av {t : STy} : ∀ {xs : List TV} {l : List t.El}, t.els xs = some l → l.map t.av = xs.map TV.av ∧ ∀ x ∈ xs.map TV.av, x.plain = true ∧ x.cells.length = t.size
  | [], l, h => by cases h; exact ⟨rfl, by simp⟩
  | x :: r, l, h => by
    simp only [STy.els] at h
    split at h
    · rename_i y hy
      split at h
      · rename_i m hm
        cases h
        obtain ⟨h1, h2⟩ := STy.els_av hm
        refine ⟨by simp [STy.el_av hy, h1], ?_⟩
        intro z hz
        simp only [List.map_cons, List.mem_cons] at hz
        rcases hz with rfl | hz
        · rw [← STy.el_av hy]; exact t.av_plain y
        · exact h2 z hz
      · cases h
    · cases h
def allM {A : Type} (f : TV → Option A) : List TV → Option (List A)
  | [] => some []
  | x :: r => match f x with
    | some y => match allM f r with
      | some l => some (y :: l)
      | none => none
    | none => none
theorem allM_get {A : Type} {f : TV → Option A} {g : A → TV} (hf : ∀ x y, f x = some y → x = g y) : ∀ {xs : List TV} {l : List A}, allM f xs = some l → xs = l.map g
  | [], l, h => by cases h; rfl
  | x :: r, l, h => by
    simp only [allM] at h
    split at h
    · rename_i y hy
      split at h
      · rename_i m hm
        cases h
        rw [hf _ _ hy, allM_get hf hm]; rfl
      · cases h
    · cases h
def TV.str?:TV→Option Str | .s l=>some l | _=>none
def TV.i64?:TV→Option Int | .i .i64 l=>some l | _=>none
def TV.u8?:TV→Option UInt8 | .u8 l=>some l | _=>none
def TV.u64?:TV→Option UInt64 | .u64 l=>some l | _=>none
def TV.bool?:TV→Option Bool | .b l=>some l | _=>none
def TV.sl? (t:STy):TV→Option (List t.El)
 | .sl t' l=>if h:t'=t then some (h ▸ l) else none
 | _=>none
def arrT (cs:List TV) (n:Nat):Option TV :=
 match cs with
 | .s _ :: _=>match allM TV.str? cs with | some l=>some (.s (l.getD n [])) | none=>none
 | .i _ _ :: _=>match allM TV.i64? cs with | some l=>some (.i .i64 (l.getD n 0)) | none=>none
 | .u8 _ :: _=>match allM TV.u8? cs with | some l=>some (.u8 (l.getD n 0)) | none=>none
 | .u64 _ :: _=>match allM TV.u64? cs with | some l=>some (.u64 (l.getD n 0)) | none=>none
 | .b _ :: _=>match allM TV.bool? cs with | some l=>some (.b (l.getD n false)) | none=>none
 | .sl t _ :: _=>match allM (TV.sl? t) cs with | some l=>some (.sl t (l.getD n [])) | none=>none
 | _=>none
theorem arrT_ok {cs:List TV} {n:Nat} {x:TV} (h:arrT cs n=some x) (hn:n<cs.length):cs[n]?=some x:=by
 unfold arrT at h
 split at h
 ·split at h
  ·rename_i l hl
   have:=allM_get (g := .s) (fun x y h=>by cases x <;> simp [TV.str?] at h;rw [h]) hl
   cases h
   rw [this] at hn ⊢
   have hn':n<l.length:=by simpa using hn
   simp [List.getD_eq_getElem?_getD,List.getElem?_eq_getElem hn']
  ·cases h
 ·split at h
  ·rename_i l hl
   have:=allM_get (g := .i .i64) (fun x y h=>by
    cases x <;> simp [TV.i64?] at h
    rename_i k m
    cases k <;> simp at h
    rw [h]) hl
   cases h
   rw [this] at hn ⊢
   have hn':n<l.length:=by simpa using hn
   simp [List.getD_eq_getElem?_getD,List.getElem?_eq_getElem hn']
  ·cases h
 ·split at h
  ·rename_i l hl
   have:=allM_get (g := .u8) (fun x y h=>by cases x <;> simp [TV.u8?] at h;rw [h]) hl
   cases h
   rw [this] at hn ⊢
   have hn':n<l.length:=by simpa using hn
   simp [List.getD_eq_getElem?_getD,List.getElem?_eq_getElem hn']
  ·cases h
 ·split at h
  ·rename_i l hl
   have:=allM_get (g := .u64) (fun x y h=>by cases x <;> simp [TV.u64?] at h;rw [h]) hl
   cases h
   rw [this] at hn ⊢
   have hn':n<l.length:=by simpa using hn
   simp [List.getD_eq_getElem?_getD,List.getElem?_eq_getElem hn']
  ·cases h
 ·split at h
  ·rename_i l hl
   have:=allM_get (g := .b) (fun x y h=>by cases x <;> simp [TV.bool?] at h;rw [h]) hl
   cases h
   rw [this] at hn ⊢
   have hn':n<l.length:=by simpa using hn
   simp [List.getD_eq_getElem?_getD,List.getElem?_eq_getElem hn']
  ·cases h
 ·rename_i t _ _
  split at h
  ·rename_i l hl
   have:=allM_get (g := .sl t) (fun x y h=>by
    cases x <;> simp [TV.sl?] at h
    obtain ⟨rfl,h⟩:=h
    subst h;rfl) hl
   cases h
   rw [this] at hn ⊢
   have hn':n<l.length:=by simpa using hn
   simp [List.getD_eq_getElem?_getD,List.getElem?_eq_getElem hn']
  ·cases h
 ·cases h
def colT (s m j:Nat) (cs:List TV):List TV:=(List.range m).map fun q=>cs.getD (q * s+j) .dead
def colsT (s m n : Nat) (cs : List TV) : Nat → Option (List TV)
  | 0 => some []
  | j + 1 => match arrT (colT s m (s - (j + 1)) cs) n with
    | some x => match colsT s m n cs j with
      | some xs => some (x :: xs)
      | none => none
    | none => none
theorem colsT_ok {s m n : Nat} {cs : List TV} (hl : m * s = cs.length) (hn : n < m) : ∀ (j : Nat) {xs : List TV}, j ≤ s → colsT s m n cs j = some xs → xs = (cs.drop (n * s + (s - j))).take j
  | 0, xs, _, h => by simp [colsT] at h; simp [h]
  | j + 1, xs, hj, h => by
    simp only [colsT] at h
    split at h
    · rename_i x hx
      split at h
      · rename_i ys hy
        cases h
        have h1 := colsT_ok hl hn j (by omega) hy
        have h2 := arrT_ok hx (by simpa [colT] using hn)
        have hlt : n * s + (s - (j + 1)) < cs.length := by
          have : (n + 1) * s ≤ m * s := Nat.mul_le_mul_right _ hn
          rw [Nat.succ_mul] at this; omega
        have e : x = cs[n * s + (s - (j + 1))] := by
          simp only [colT, List.getElem?_map, List.getElem?_range hn, Option.map_some, Option.some.injEq] at h2
          rw [← h2, List.getD_eq_getElem?_getD, List.getElem?_eq_getElem hlt]; rfl
        rw [h1, List.drop_eq_getElem_cons hlt, List.take_succ_cons, e, show n * s + (s - (j + 1)) + 1 = n * s + (s - j) by omega]
      · cases h
    · cases h
def lenOK (n:Nat):Bool:=decide (n≤maxLen)
def idxOK (n:Int) (l:Nat):Bool:=decide (0≤n)&&decide (n<l)
def cutOK (a b:Int) (l:Nat):Bool:=decide (0≤a)&&decide (a≤b)&&decide (b≤l)
def apOK (n by_:Nat):Bool:=decide (n≤maxLen)&&decide (n * by_≤140737488355328)
def mkOK (l c:Int) (by_:Nat):Bool:=decide (0≤l)&&decide (l≤c)&&decide (c * by_≤140737488355328)&&decide (c≤maxLen)
def TV.bare:TV→TV
 | .gd _ x=>x
 | x=>x
def TV.cnd:TV→Option Bool
 | .gd q _=>some q
 | _=>none
theorem TV.bare_av {x:TV} (h:∀q,x.cnd=some q→q=true):x.bare.av=x.av:=by
 cases x <;> first | rfl | skip
 rename_i q x
 have:=h q rfl
 subst this
 rfl
def pickV (t:Bool) (x y:TV):Option TV :=
 match x,y with
 | .b a,.b b=>some (.b (cond t a b))
 | .i k a,.i k' b=>if k=k' then some (.i k (cond t a b)) else none
 | .u8 a,.u8 b=>some (.u8 (cond t a b))
 | .u16 a,.u16 b=>some (.u16 (cond t a b))
 | .u32 a,.u32 b=>some (.u32 (cond t a b))
 | .u64 a,.u64 b=>some (.u64 (cond t a b))
 | .s a,.s b=>some (.s (cond t a b))
 | _,_=>none
theorem pickV_av {t:Bool} {x y z:TV} (h:pickV t x y=some z):z.av=if t then x.av else y.av:=by
 unfold pickV at h
 split at h <;> first | (cases h <;> cases t <;> rfl) | skip
 ·split at h
  ·rename_i e;subst e;cases h;cases t <;> rfl
  ·cases h
def pickT (t : Bool) (x y : TV) : Res :=
  match pickV t x.bare y.bare with
  | some z => match x.cnd, y.cnd with
    | none, none => .ok [z]
    | some p, none => .if_ (!t || p) [z]
    | none, some q => .if_ (t || q) [z]
    | some p, some q => .if_ (cond t p q) [z]
  | none => .err
theorem pickT_ok (t : Bool) (x y : TV) : (pickT t x y).gives (fun z => z = if t then x.av else y.av) := by
  intro ws h
  unfold pickT at h
  split at h
  · rename_i z hz
    have hz := pickV_av hz
    cases x <;> cases y <;> simp only [TV.cnd, TV.bare] at h hz <;> first
      | (cases h; exact ⟨_, rfl, hz⟩)
      | (obtain ⟨hp, rfl⟩ := h
         refine ⟨_, rfl, hz.trans ?_⟩
         cases t <;> simp at hp <;> simp [TV.av, hp])
  · exact h.elim
def oneT (x:Option TV):Res:=match x with | some x => .ok [x] | none => .err
def needT (p:Bool) (r:Res):Res:=cond p r .err
theorem needT_holds {p:Bool} {r:Res} {ws:List TV} (h:(needT p r).holds ws):p=true∧r.holds ws:=by
 cases p with
 | true=>exact ⟨rfl,h⟩
 | false=>exact h.elim
theorem oneT_holds {x:Option TV} {ws:List TV} (h:(oneT x).holds ws):∃y,x=some y∧ws=[y]:=by
 cases x with
 | none=>exact h.elim
 | some y=>exact ⟨y,rfl,h⟩
end Go.Eng
namespace Go.Eng
def semK (k : K) (vs : List TV) : Res :=
  match k, vs with
  | .mv, [x] => .ok [x]
  | .pick, [.b t, x, y] => pickT t x y
  | .bin o, [x, y] => binT o x y
  | .be neg, [.b a, .b b] => .ok [.b (cond neg (!(a == b)) (a == b))]
  | .un o, [x] => unT o x
  | .ci k, [x] => match x.int? with
    | some (_, n) => .ok [intTV k n]
    | none => .err
  | .cs, [.s l] => .ok [.s l]
  | .sb, [.s l] => .if_ (lenOK l.length) [.sl .bs l]
  | .sbt _, [.s l, _] => .if_ (lenOK l.length) [.sl .bs l, .dead]
  | .bs, [.sl .bs l] => .ok [.s l]
  | .len, [.sl _ l] => .ok [.i .i64 l.length]
  | .lns, [.s l] => .ok [.i .i64 l.length]
  | .mn, [.i k a, .i k' b] => needT (decide (k = k')) (.ok [.i k (minI a b)])
  | .mx, [.i k a, .i k' b] => needT (decide (k = k')) (.ok [.i k (maxI a b)])
  | .ix s, [.sl t l, i] => match i.int? with
    | some (_, n) => needT (Nat.beq s t.size) (.if_ (idxOK n l.length) [.ro (t.tv (l.getD n.toNat t.dflt))])
    | none => .err
  | .si, [.s l, i] => match i.int? with
    | some (_, n) => .if_ (idxOK n l.length) [.u8 (l.getD n.toNat 0)]
    | none => .err
  | .ai m s agg, [.ag cs, i] => match i.int?, agg with
    | some (_, n), false => match arrT cs n.toNat with
      | some x => needT (Nat.beq s 1 && Nat.beq m cs.length) (.if_ (idxOK n m) [x])
      | none => .err
    | some (_, n), true => match colsT s m n.toNat cs s with
      | some xs => needT (Nat.beq (m * s) cs.length) (.if_ (idxOK n m) [.ag xs])
      | none => .err
    | _, _ => .err
  | .fe o n agg, [.ag cs] => oneT (partT cs o n agg)
  | .sc s true true, [.sl t l, i, j] => match i.int?, j.int? with
    | some (_, a), some (_, b) => needT (Nat.beq s t.size) (.if_ (cutOK a b l.length) [.sl t ((l.take b.toNat).drop a.toNat)])
    | _, _ => .err
  | .sc s true false, [.sl t l, i] => match i.int? with
    | some (_, a) => needT (Nat.beq s t.size) (.if_ (cutOK a l.length l.length) [.sl t (l.drop a.toNat)])
    | _ => .err
  | .sc s false true, [.sl t l, j] => match j.int? with
    | some (_, b) => needT (Nat.beq s t.size) (.if_ (cutOK 0 b l.length) [.sl t (l.take b.toNat)])
    | _ => .err
  | .sc s false false, [.sl t l] => needT (Nat.beq s t.size) (.ok [.sl t l])
  | .ss true true, [.s l, i, j] => match i.int?, j.int? with
    | some (_, a), some (_, b) => .if_ (cutOK a b l.length) [.s ((l.take b.toNat).drop a.toNat)]
    | _, _ => .err
  | .ss true false, [.s l, i] => match i.int? with
    | some (_, a) => .if_ (cutOK a l.length l.length) [.s (l.drop a.toNat)]
    | _ => .err
  | .ss false true, [.s l, j] => match j.int? with
    | some (_, b) => .if_ (cutOK 0 b l.length) [.s (l.take b.toNat)]
    | _ => .err
  | .ss false false, [.s l] => .ok [.s l]
  | .bx _, [x, _] => needT x.plain (.ok [.pt, .ag x.cells])
  | .ld _ o n agg, [.pt, .ag cs] => oneT (partT cs o n agg)
  | .st _ o n, [.pt, .ag cs, x] => needT (x.plain && Nat.beq x.cells.length n && Nat.ble (o + n) cs.length) (.ok [.ag (spliceT cs o x.cells)])
  | .lr n agg, [.ro x] => needT (x.plain && (x.isAg == agg) && Nat.beq x.cells.length n) (.ok [x])
  | .fa _ _ _, [.pt] => .ok [.pt]
  | .fr o n agg, [.ro (.ag cs)] => match partT cs o n agg with
    | some x => .ok [.ro x]
    | none => .err
  | .nc _ _, [.pt] => .ok [.pt]
  | .ncr, [.ro x] => .ok [.ro x]
  | .ex i, [.tu vs] => oneT vs[i]?
  | .ap _ _ s by_, [.sl t l, .sl t' m, _, _] => match t.app l t' m with
    | some n => needT (Nat.beq s t.size) (.if_ (apOK (l.length + m.length) by_) [.sl t n, .dead, .dead])
    | none => .err
  | .aps _ _ by_, [.sl .bs l, .s m, _, _] => .if_ (apOK (l.length + m.length) by_) [.sl .bs (l ++ m), .dead, .dead]
  | .an _ s by_, [.sl t l, _] => needT (Nat.beq s t.size) (.if_ (apOK l.length by_) [.sl t l, .dead])
  | .ans _ by_, [.s l, _] => .if_ (apOK l.length by_) [.sl .bs l, .dead]
  | .pss _, [.s l, _] => .if_ (lenOK l.length) [.pt, .sl .bs l]
  | .pln _, [.pt, .sl _ l] => .ok [.i .i64 l.length]
  | .pix _ s, [.pt, i, .sl t l] => match i.int? with
    | some (_, n) => needT (Nat.beq s t.size) (.if_ (idxOK n l.length) [.el n.toNat s 0])
    | none => .err
  | .pfa _ o, [.el i s o'] => .ok [.el i s (o' + o)]
  | .pld _ s n agg, [.el i s' o, .sl t l] => match partElT (t.tv (l.getD i t.dflt)) o n agg with
    | some x => needT (Nat.beq s' s && Nat.beq s t.size) (.if_ (decide (i < l.length)) [x])
    | none => .err
  | .pst _ s n, [.el i s' o, .sl t l, x] => match putElT (t.tv (l.getD i t.dflt)) o x with
    | some y => match t.el y with
      | some e => needT (Nat.beq s' s && Nat.beq s t.size && x.plain && Nat.beq x.cells.length n) (.if_ (decide (i < l.length)) [.sl t (l.set i e)])
      | none => .err
    | none => .err
  | .pfz _ s, [.pt, .sl t l] => needT (Nat.beq s t.size) (.ok [.sl t l, .sl t l, .dead])
  | .ppa _ _ s by_, [.pt, .sl t' m, .sl t l, _] => match t.app l t' m with
    | some n => needT (Nat.beq s t.size) (.if_ (apOK (l.length + m.length) by_) [.pt, .sl t l, .sl t n])
    | none => .err
  | .apq _ _ _ s by_, [.sl t l, .pt, _, _, .sl t' m] => match t.app l t' m with
    | some n => needT (Nat.beq s t.size) (.if_ (apOK (l.length + m.length) by_) [.sl t n, .dead, .dead])
    | none => .err
  | .la _ n s, [.pt, i, .ag _] => match i.int? with
    | some (_, m) => .if_ (idxOK m n) [.el m.toNat s 0]
    | none => .err
  | .ll _ s, [.el i s' o, .ag cs] => match arrT cs i with
    | some x => needT (Nat.beq s' s && Nat.beq s 1 && Nat.beq o 0) (.if_ (decide (i < cs.length)) [x])
    | none => .err
  | .xib, [.s l, .u8 c] => .ok [.i .i64 (Lib.indexByte l c)]
  | _, _ => .err
theorem idxOK_iff {n:Int} {l:Nat}:idxOK n l=true ↔ 0≤n∧n<l:=by simp [idxOK]
theorem cutOK_iff {a b:Int} {l:Nat}:cutOK a b l=true ↔ 0≤a∧a≤b∧b≤l:=by simp [cutOK,and_assoc]
theorem apOK_iff {n b:Nat}:apOK n b=true ↔ n≤maxLen∧n * b≤140737488355328:=by simp [apOK]
theorem mkOK_iff {l c:Int} {b:Nat}:mkOK l c b=true ↔ 0≤l∧l≤c∧c * b≤140737488355328∧c≤maxLen:=by simp [mkOK,and_assoc]
theorem lenOK_iff {n:Nat}:lenOK n=true ↔ n≤maxLen:=by simp [lenOK]
theorem getD_map {A:Type} (f:A→AV) (l:List A) (n:Int) (d:A) (h:0≤n∧n<l.length):(l.map f)[n.toNat]?=some (f (l.getD n.toNat d)):=by
 have:n.toNat<l.length:=by omega
 simp [List.getD_eq_getElem?_getD,List.getElem?_eq_getElem this]
theorem getD_str (l:Str) (n:Int) (h:0≤n∧n<l.length):l[n.toNat]?=some (l.getD n.toNat 0):=by
 have:n.toNat<l.length:=by omega
 simp [List.getD_eq_getElem?_getD,List.getElem?_eq_getElem this]
theorem semK_ok (E:Env) {k:K} {vs ws:List TV} (h:(semK k vs).holds ws):sem E k (vs.map TV.av) (ws.map TV.av):=by
 unfold semK at h
 split at h
 -- mv
 ·cases h;rfl
 ·obtain ⟨x,rfl,e⟩:=pickT_ok _ _ _ _ h;simp only [List.map,sem,TV.av];rw [e]
 ·obtain ⟨x,rfl,a,b,v,e1,e2,e3,e4⟩:=binT_ok _ _ _ _ h
  simp only [List.map,sem,e1,e2,e4];exact ⟨v,e3,rfl⟩
 ·cases h;rename_i neg a b;cases neg <;> rfl
 ·obtain ⟨x,rfl,a,v,e1,e2,e3⟩:=unT_ok _ _ _ h
  simp only [List.map,sem,e1,e3];exact ⟨v,e2,rfl⟩
 ·split at h
  ·rename_i e;cases h;simp only [List.map,sem,TV.int?_av e,intTV_av]
  ·exact h.elim
 ·cases h;rfl
 ·obtain ⟨h1,rfl⟩:=h;exact ⟨lenOK_iff.1 h1,rfl⟩
 ·obtain ⟨h1,rfl⟩:=h;exact ⟨lenOK_iff.1 h1,rfl⟩
 ·cases h;exact ⟨_,rfl,rfl,rfl⟩
 ·cases h;simp only [List.map,sem,TV.av,List.length_map]
 ·cases h;simp only [List.map,sem,TV.av,strAV]
 ·obtain ⟨e,h⟩:=needT_holds h;cases h;simp only [List.map,sem,TV.av]
 ·obtain ⟨e,h⟩:=needT_holds h;cases h;simp only [List.map,sem,TV.av]
 ·split at h
  ·rename_i t l i k n e
   obtain ⟨e1,h1,rfl⟩:=needT_holds h
   have e1:=Nat.eq_of_beq_eq_true e1
   have h1:=idxOK_iff.1 h1
   simp only [List.map,sem,TV.av,TV.int?_av e,STy.tv_av]
   exact ⟨_,e1,h1.1,getD_map _ _ _ _ h1,rfl⟩
  ·exact h.elim
 ·split at h
  ·rename_i e
   obtain ⟨h1,rfl⟩:=h
   have h1:=idxOK_iff.1 h1
   simp only [List.map,sem,TV.av,strAV,TV.int?_av e]
   exact ⟨_,h1.1,getD_str _ _ h1,rfl⟩
  ·exact h.elim
 ·split at h
  ·rename_i m s cs i k n e
   split at h
   ·rename_i x hx
    obtain ⟨e1,h1,rfl⟩:=needT_holds h
    simp only [Bool.and_eq_true] at e1
    have e2:=Nat.eq_of_beq_eq_true e1.1
    have e3:=Nat.eq_of_beq_eq_true e1.2
    subst e2;subst e3
    have h1:=idxOK_iff.1 h1
    have hx:=arrT_ok hx (by omega)
    simp only [List.map,sem,TV.av,TV.int?_av e]
    refine ⟨x.av,h1.1,h1.2,?_,rfl⟩
    simp [partAV,TV.avs_map,hx]
   ·exact h.elim
  ·rename_i m s cs i _ _ k n e
   split at h
   ·rename_i xs hx
    obtain ⟨e1,h1,rfl⟩:=needT_holds h
    have e1:=Nat.eq_of_beq_eq_true e1
    have h1:=idxOK_iff.1 h1
    have hx:=colsT_ok e1 (by omega) s (Nat.le_refl _) hx
    simp only [List.map,sem,TV.av,TV.int?_av e]
    have hle:n.toNat * s+s≤cs.length:=by
     have:(n.toNat+1) * s≤m * s:=Nat.mul_le_mul_right _ (by omega)
     rw [Nat.succ_mul] at this;omega
    refine ⟨(TV.ag xs).av,h1.1,h1.2,?_,by simp only [TV.av]⟩
    rw [Nat.sub_self,Nat.add_zero] at hx
    simp [partAV,TV.avs_map,TV.av,hx,hle,List.map_take,List.map_drop]
   ·exact h.elim
  ·exact h.elim
 ·obtain ⟨y,e,rfl⟩:=oneT_holds h
  simp only [List.map,sem,TV.av,TV.avs_map];exact ⟨_,partT_av e,rfl⟩
 ·split at h
  ·rename_i i j _ a _ b e1 e2
   obtain ⟨e,h1,rfl⟩:=needT_holds h
   have h1:=cutOK_iff.1 h1
   simp only [List.map,sem,TV.av,TV.int?_av e1,TV.int?_av e2,List.length_map]
   exact ⟨Nat.eq_of_beq_eq_true e,h1.1,h1.2.1,h1.2.2,by simp [Nat.eq_of_beq_eq_true e,List.map_take,List.map_drop]⟩
  ·exact h.elim
 ·split at h
  ·rename_i i _ a e1
   obtain ⟨e,h1,rfl⟩:=needT_holds h
   have h1:=cutOK_iff.1 h1
   simp only [List.map,sem,TV.av,TV.int?_av e1,List.length_map]
   exact ⟨Nat.eq_of_beq_eq_true e,h1.1,h1.2.1,by simp [Nat.eq_of_beq_eq_true e,List.map_take,List.map_drop]⟩
  ·exact h.elim
 ·split at h
  ·rename_i i _ a e1
   obtain ⟨e,h1,rfl⟩:=needT_holds h
   have h1:=cutOK_iff.1 h1
   simp only [List.map,sem,TV.av,TV.int?_av e1,List.length_map]
   exact ⟨Nat.eq_of_beq_eq_true e,h1.2.1,h1.2.2,by simp [Nat.eq_of_beq_eq_true e,List.map_take,List.map_drop]⟩
  ·exact h.elim
 ·obtain ⟨e,h⟩:=needT_holds h
  cases h
  simp only [List.map,sem,TV.av]
  exact ⟨Nat.eq_of_beq_eq_true e,by rw [Nat.eq_of_beq_eq_true e]⟩
 ·split at h
  ·rename_i i j _ a _ b e1 e2
   obtain ⟨h1,rfl⟩:=h
   have h1:=cutOK_iff.1 h1
   simp only [List.map,sem,TV.av,strAV,TV.int?_av e1,TV.int?_av e2]
   exact ⟨h1.1,h1.2.1,h1.2.2,by simp [List.take_drop,List.drop_take]⟩
  ·exact h.elim
 ·split at h
  ·rename_i i _ a e1
   obtain ⟨h1,rfl⟩:=h
   have h1:=cutOK_iff.1 h1
   simp only [List.map,sem,TV.av,strAV,TV.int?_av e1]
   exact ⟨h1.1,h1.2.1,by simp⟩
  ·exact h.elim
 ·split at h
  ·rename_i i _ a e1
   obtain ⟨h1,rfl⟩:=h
   have h1:=cutOK_iff.1 h1
   simp only [List.map,sem,TV.av,strAV,TV.int?_av e1]
   exact ⟨h1.2.1,h1.2.2,by simp⟩
  ·exact h.elim
 ·cases h;rfl
 ·obtain ⟨e,h⟩:=needT_holds h;cases h
  simp only [List.map,sem,TV.av,TV.avs_map]
  exact ⟨TV.plain_av _ e,by rw [TV.cells_av _ e]⟩
 ·obtain ⟨y,e,rfl⟩:=oneT_holds h
  simp only [List.map,sem,TV.av,TV.avs_map];exact ⟨_,partT_av e,rfl⟩
 ·obtain ⟨e,h⟩:=needT_holds h;cases h
  simp only [Bool.and_eq_true] at e
  obtain ⟨⟨e1,e2⟩,e3⟩:=e
  simp only [List.map,sem,TV.av,TV.avs_map]
  refine ⟨TV.plain_av _ e1,?_,?_,?_⟩
  ·rw [TV.cells_av _ e1,List.length_map];exact Nat.eq_of_beq_eq_true e2
  ·rw [List.length_map];exact Nat.le_of_ble_eq_true e3
  ·rw [TV.cells_av _ e1,spliceT_av]
 ·obtain ⟨e,h⟩:=needT_holds h;cases h
  simp only [Bool.and_eq_true,beq_iff_eq] at e
  obtain ⟨⟨e1,e2⟩,e3⟩:=e
  simp only [List.map,sem,TV.av]
  refine ⟨?_,?_,trivial⟩
  ·rw [TV.isAg_av _ e1,e2]
  ·rw [TV.cells_av _ e1,List.length_map];exact Nat.eq_of_beq_eq_true e3
 ·cases h;rfl
 ·split at h
  ·rename_i x e
   cases h
   simp only [List.map,sem,TV.av,TV.avs_map];exact ⟨_,partT_av e,rfl⟩
  ·exact h.elim
 ·cases h;rfl
 ·cases h;rfl
 ·obtain ⟨y,e,rfl⟩:=oneT_holds h
  simp only [List.map,sem,TV.av,TV.avs_map];exact ⟨y.av,by simp [e],rfl⟩
 ·split at h
  ·rename_i n e
   obtain ⟨e0,h1,rfl⟩:=needT_holds h
   obtain ⟨rfl,e1,e2⟩:=STy.app_av e
   have h1:=apOK_iff.1 h1
   simp only [List.map,sem,TV.av,List.length_map]
   have e0:=Nat.eq_of_beq_eq_true e0
   exact ⟨e0.symm,e0.symm,by intro x hx;obtain ⟨y,_,rfl⟩:=List.mem_map.1 hx;rw [e0];exact (STy.av_plain _ y).2,h1.1,h1.2,by rw [e1,e0]⟩
  ·exact h.elim
 ·obtain ⟨h1,rfl⟩:=h
  have h1:=apOK_iff.1 h1
  simp only [List.map,sem,TV.av,strAV,List.length_map]
  exact ⟨rfl,h1.1,h1.2,by simp [STy.size];intro _ _;rfl⟩
 ·obtain ⟨e0,h1,rfl⟩:=needT_holds h
  have h1:=apOK_iff.1 h1
  have e0:=Nat.eq_of_beq_eq_true e0
  simp only [List.map,sem,TV.av,List.length_map]
  exact ⟨e0.symm,by intro x hx;obtain ⟨y,_,rfl⟩:=List.mem_map.1 hx;rw [e0];exact (STy.av_plain _ y).2,h1.1,h1.2,by rw [e0]⟩
 ·obtain ⟨h1,rfl⟩:=h
  have h1:=apOK_iff.1 h1
  simp only [List.map,sem,TV.av,strAV]
  exact ⟨h1.1,h1.2,by simp [STy.size];intro _ _;rfl⟩
 ·obtain ⟨h1,rfl⟩:=h;exact ⟨lenOK_iff.1 h1,rfl⟩
 ·cases h;simp only [List.map,sem,TV.av,List.length_map]
 ·split at h
  ·rename_i s i t l k n e
   obtain ⟨e1,h1,rfl⟩:=needT_holds h
   have e1:=Nat.eq_of_beq_eq_true e1
   have h1:=idxOK_iff.1 h1
   simp only [List.map,sem,TV.av,TV.int?_av e,List.length_map]
   exact ⟨e1.symm,h1.1,by omega,trivial⟩
  ·exact h.elim
 ·cases h;rfl
 ·split at h
  ·rename_i s n agg i s' o t l _ x e
   obtain ⟨e1,h1,rfl⟩:=needT_holds h
   simp only [Bool.and_eq_true,decide_eq_true_eq] at e1 h1
   have e2:=Nat.eq_of_beq_eq_true e1.1
   have e3:=Nat.eq_of_beq_eq_true e1.2
   simp only [List.map,sem,TV.av]
   refine ⟨t.av l[i],_,e2,e3.symm,by simp [List.getElem?_eq_getElem h1],?_,rfl⟩
   have:=partElT_av (STy.tv_plain t _) e
   rw [STy.tv_av,List.getD_eq_getElem?_getD,List.getElem?_eq_getElem h1] at this
   exact this
  ·exact h.elim
 ·split at h
  ·rename_i s n i s' o t l x _ y e
   split at h
   ·rename_i _ z e'
    obtain ⟨e1,h1,rfl⟩:=needT_holds h
    simp only [Bool.and_eq_true,decide_eq_true_eq] at e1 h1
    obtain ⟨⟨⟨e2,e3⟩,e4⟩,e5⟩:=e1
    have e2:=Nat.eq_of_beq_eq_true e2
    have e3:=Nat.eq_of_beq_eq_true e3
    have e5:=Nat.eq_of_beq_eq_true e5
    have:=putElT_av (STy.tv_plain t _) e4 e
    rw [STy.tv_av,List.getD_eq_getElem?_getD,List.getElem?_eq_getElem h1,←STy.el_av e'] at this
    simp only [List.map,sem,TV.av]
    refine ⟨t.av l[i],_,e2,e3.symm,by simp [List.getElem?_eq_getElem h1],TV.plain_av _ e4,by rw [TV.cells_av _ e4,List.length_map];exact e5,this,?_⟩
    rw [List.map_set,e3]
   ·exact h.elim
  ·exact h.elim
 ·obtain ⟨e0,h⟩:=needT_holds h;cases h
  have e0:=Nat.eq_of_beq_eq_true e0
  simp only [List.map,sem,TV.av]
  exact ⟨e0.symm,by rw [e0]⟩
 ·split at h
  ·rename_i n e
   obtain ⟨e0,h1,rfl⟩:=needT_holds h
   obtain ⟨rfl,e1,e2⟩:=STy.app_av e
   have h1:=apOK_iff.1 h1
   simp only [List.map,sem,TV.av,List.length_map]
   have e0:=Nat.eq_of_beq_eq_true e0
   exact ⟨e0.symm,e0.symm,h1.1,h1.2,by rw [e1,e0]⟩
  ·exact h.elim
 ·split at h
  ·rename_i n e
   obtain ⟨e0,h1,rfl⟩:=needT_holds h
   obtain ⟨rfl,e1,e2⟩:=STy.app_av e
   have h1:=apOK_iff.1 h1
   simp only [List.map,sem,TV.av,List.length_map]
   have e0:=Nat.eq_of_beq_eq_true e0
   exact ⟨e0.symm,e0.symm,h1.1,h1.2,by rw [e1,e0]⟩
  ·exact h.elim
 ·split at h
  ·rename_i e
   obtain ⟨h1,rfl⟩:=h
   have h1:=idxOK_iff.1 h1
   simp only [List.map,sem,TV.av,TV.int?_av e]
   exact ⟨h1.1,h1.2,trivial⟩
  ·exact h.elim
 ·split at h
  ·rename_i x hx
   obtain ⟨e1,h1,rfl⟩:=needT_holds h
   simp only [Bool.and_eq_true,decide_eq_true_eq] at e1 h1
   obtain ⟨⟨e2,e3⟩,e4⟩:=e1
   have e2:=Nat.eq_of_beq_eq_true e2
   have e3:=Nat.eq_of_beq_eq_true e3
   have e4:=Nat.eq_of_beq_eq_true e4
   subst e3;subst e4
   have hx:=arrT_ok hx h1
   simp only [List.map,sem,TV.av]
   refine ⟨x.av,e2,?_,rfl⟩
   simp [partAV,TV.avs_map,hx]
  ·exact h.elim
 ·cases h
  rename_i l c
  have hc:((c.toNat:Int).toNat).toUInt8=c:=by simp
  simp only [List.map,sem,TV.av,strAV,byteAV,hc,iAV]
 ·exact h.elim
end Go.Eng
namespace Go.Eng
inductive TK where
 | k (x:K)
 | bl (t:STy) (n:Nat)
 | blt (t:STy) (n k:Nat)
 | bd (z:List TV) (pl:List (Nat × Nat))
 | al (m:Nat) (z:List TV) (ts:List (Nat × (Nat × Nat)))
 | mk (d by_:Nat) (t:STy) (z:t.El)
 | nl (t:STy) (d:Nat)
 | bxt (m:Nat) (ts:List (Nat × (Nat × STy)))
 | stt (m o n:Nat) (ts:List (Nat × (Nat × STy)))
abbrev erTs (ts:List (Nat × (Nat × STy))):List (Nat × (Nat × Nat)):=ts.map fun t=>(t.1,t.2.1,t.2.2.size)
def nilAtT (cs:List TV):List (Nat × (Nat × STy))→List TV
 | []=>cs
 | t :: ts=>(nilAtT cs ts).set t.1 (.sl t.2.2 [])
def isNil:Option TV→Bool
 | some (.c (.slice none 0 0))=>true
 | _=>false
def nilsT (cs:List TV):List (Nat × (Nat × STy))→Bool
 | []=>true
 | t :: ts=>isNil cs[t.1]?&&nilsT cs ts
theorem nilsT_av {cs : List TV} : ∀ {ts : List (Nat × (Nat × STy))}, nilsT cs ts = true → (∀ t ∈ erTs ts, (cs.map TV.av)[t.1]? = some .nil) ∧ (nilAtT cs ts).map TV.av = nilAt (cs.map TV.av) (erTs ts)
  | [], _ => ⟨fun _ h => (by cases h), rfl⟩
  | t :: ts, h => by
    simp only [nilsT, Bool.and_eq_true] at h
    obtain ⟨h1, h3⟩ := h
    obtain ⟨h4, h5⟩ := nilsT_av h3
    refine ⟨fun u hu => ?_, ?_⟩
    · rcases List.mem_cons.1 hu with rfl | hu
      · unfold isNil at h1
        split at h1
        · rename_i e; rw [List.getElem?_map, e]; rfl
        · cases h1
      · exact h4 u hu
    · simp only [nilAtT, nilAt, List.map_set, h5, List.map_cons]; rfl
def TK.erase:TK→K
 | .k x=>x
 | .bl t n => .bl t.size n
 | .blt t n d => .blt t.size n d
 | .bd z pl => .bd (TV.avs z) pl
 | .al m z ts => .al m (TV.avs z) ts
 | .mk d b t z => .mk d t.size b (t.av z)
 | .nl t d => .nl d t.size
 | .bxt m ts => .bxt m (erTs ts)
 | .stt m o n ts => .stt m o n (erTs ts)
inductive TOpd where
 | s (t:Nat)
 | c (x:TV)
 | g (n:Nat)
def TOpd.erase:TOpd→Opd
 | .s t => .s t
 | .c x => .c x.av
 | .g n => .g n
structure TOp where
 k:TK
 rs:List TOpd
 ds:List Nat
 gd:Option (Nat × Bool):=none
def TOp.erase (m:TOp):MOp:=⟨m.k.erase,m.rs.map TOpd.erase,m.ds,m.gd⟩
inductive TM where
 | skip
 | reg (ops:List TOp)
 | seq (a:TM) (keep:Option (List Nat)) (b:TM)
 | cond (x:TOpd) (G:List (Nat × Gh)) (a b:TM)
 | block (id:Nat) (G:List (Nat × Gh)) (b:TM)
 | loop (keep:List Nat) (G:List (Nat × Gh)) (b:TM)
 | exit (id:Nat)
 | ret
 | sco (b:TM)
 | scp (b:TM)
 | lab (l:Nat) (keep:List Nat) (G:List (Nat × Gh)) (r b:TM)
def TM.erase:TM→M
 | .skip => .skip
 | .reg ops => .reg (ops.map TOp.erase)
 | .seq a _ b => .seq a.erase b.erase
 | .cond x G a b => .cond x.erase G a.erase b.erase
 | .block id G b => .block id G b.erase
 | .loop keep G b => .loop keep G b.erase
 | .exit id => .exit id
 | .ret => .ret
 | .sco b => .sco b.erase
 | .scp b => .scp b.erase
 | .lab l keep G r b => .lab l keep G r.erase b.erase
abbrev Ctr:=List TV→Res
structure TEnv where
 fs:Nat→Ctr × FSig
 gl:Nat→TV
def Ctr.fs (c:Ctr × FSig):FS:=⟨fun ins outs=>∃ti to_,ins=ti.map TV.av∧outs=to_.map TV.av∧(c.1 ti).holds to_,c.2⟩
def TEnv.env (E:TEnv):Env:=⟨fun n=>Ctr.fs (E.fs n),fun n=>(E.gl n).av⟩
abbrev TS:=Nat→TV
abbrev TS.av (τ:TS):Sg:=fun k=>(τ k).av
def setT (τ:TS):List Nat→List TV→TS
 | t :: ts,x :: xs=>fun k=>cond (Nat.beq k t) x (setT τ ts xs k)
 | _,_=>τ
def headT (keep:List Nat) (vals:List TV):TS:=setT (fun _ => .dead) keep vals
theorem setT_av (τ : TS) : ∀ (ts : List Nat) (xs : List TV), (setT τ ts xs).av = updL τ.av ts (xs.map TV.av)
  | t :: ts, x :: xs => by
    funext k
    simp only [TS.av, setT, List.map_cons, updL, upd]
    rw [← setT_av τ ts xs]
    cases h : Nat.beq k t with
    | true => rw [if_pos (Nat.eq_of_beq_eq_true h)]; rfl
    | false => rw [if_neg (Nat.ne_of_beq_eq_false h)]; rfl
  | [], _ => rfl
  | _ :: _, [] => rfl
theorem headT_av (keep:List Nat) (vals:List TV):(headT keep vals).av=head keep (vals.map TV.av):=setT_av _ keep vals
def TOpd.ev (E:TEnv) (τ:TS):TOpd→TV
 | .s t=>τ t
 | .c x=>x
 | .g n=>E.gl n
theorem TOpd.ev_av (E:TEnv) (τ:TS) (x:TOpd):x.erase.ev E.env τ.av=(x.ev E τ).av:=by cases x <;> rfl
def CS.insT (c:CS) (vs:List TV):List TV :=
 match c.ref with
 | some (i,_)=>(vs.take c.n).set i (vs.getD (c.n+(c.new.map (·.2)).toList.length) .dead)
 | none=>vs.take c.n
def CS.mainT (c : CS) (outs : List TV) : TV :=
  match Nat.beq c.nres 1 with
  | true => match c.new with
    | some _ => .pt
    | none => outs.headD .dead
  | false => .tu ((outs.take c.nres).mapIdx fun i x => cond (c.new.any (·.1 == i)) .pt x)
def CS.refOK (c : CS) (vs : List TV) : Bool :=
  match c.ref with
  | some (i, _) => match vs[i]? with
    | some .pt => true
    | _ => false
  | none => true
def CS.give (c:CS) (outs:List TV):List TV:=c.mainT outs :: (outs.drop c.nres++c.lks.map fun _ => .dead)
def callT (C : Ctr) (c : CS) (vs : List TV) : Res :=
  match c.refOK vs with
  | true => match C (c.insT vs) with
    | .ok outs => needT (Nat.beq outs.length (c.nres + c.mems.length)) (.ok (c.give outs))
    | .if_ p outs => needT (Nat.beq outs.length (c.nres + c.mems.length)) (.if_ p (c.give outs))
    | .err => .err
  | false => .err
def resT (nres:Nat) (r:Res):Res :=
 match r with
 | .ok outs=>needT (Nat.beq outs.length nres) (.ok [cond (Nat.beq nres 1) (outs.headD .dead) (.tu outs)])
 | .if_ p outs=>needT (Nat.beq outs.length nres) (.if_ p [cond (Nat.beq nres 1) (outs.headD .dead) (.tu outs)])
 | .err => .err
def pcallT (C:Ctr) (n nres i s:Nat) (vs:List TV):Res :=
 match vs[n]?,vs[i]? with
 | some (.sl t l),some .pt=>needT (Nat.beq s t.size) (resT nres (C ((vs.take n).set i (.sl t l))))
 | _,_ => .err
def pcalnT (C:Ctr) (nres i s:Nat) (vs:List TV):Res :=
 match vs[i]? with
 | some (.sl t [])=>needT (Nat.beq s t.size) (resT nres (C vs))
 | _ => .err
def TV.isV:TV→Bool
 | .u8 _=>true
 | .u16 _=>true
 | .u32 _=>true
 | .u64 _=>true
 | .i _ _=>true
 | .b _=>true
 | .s _=>true
 | .c _=>true
 | _=>false
def allV:List TV→Bool
 | []=>true
 | x :: r=>x.isV&&allV r
def resV (nres:Nat) (r:Res):Res :=
 match r with
 | .ok outs=>needT (Nat.beq outs.length nres&&allV outs) (.ok [cond (Nat.beq nres 1) (outs.headD .dead) (.tu outs)])
 | .if_ p outs=>needT (Nat.beq outs.length nres&&allV outs) (.if_ p [cond (Nat.beq nres 1) (outs.headD .dead) (.tu outs)])
 | .err => .err
def rcallT (C:Ctr) (n nres i:Nat) (vs:List TV):Res :=
 match vs[n]?,vs[i]? with
 | some (.ag cs),some .pt=>resV nres (C ((vs.take n).set i (.ro (.ag cs))))
 | _,_ => .err
def sliceT (t:STy) (vs rest:List TV):Res :=
 match t.els vs with
 | some l => .ok (.sl t l :: rest)
 | none => .err
def semT (E : TEnv) (k : TK) (vs : List TV) : Res :=
  match k with
  | .k (.call f c) => callT (E.fs f).1 c vs
  | .k (.pcall f n nres i _ s) => pcallT (E.fs f).1 n nres i s vs
  | .k (.pcaln f _ nres i s) => pcalnT (E.fs f).1 nres i s vs
  | .k (.rcall f n nres i _) => rcallT (E.fs f).1 n nres i vs
  | .k k => semK k vs
  | .bl t n => needT (Nat.beq vs.length n) (sliceT t vs [])
  | .blt t n _ => needT (Nat.beq vs.length (n + 1)) (sliceT t (vs.take n) [.dead])
  | .bd z pl => match fillT z pl vs with
    | some cs => .ok [.ag cs]
    | none => .err
  | .al _ z ts => .ok (.pt :: .ag z :: ts.map fun _ => .dead)
  | .mk _ by_ t z => match vs with
    | [.i .i64 l, .i .i64 c, _] => .if_ (mkOK l c by_) [.sl t (List.replicate l.toNat z), .dead]
    | _ => .err
  | .nl t _ => match vs with
    | [_] => .ok [.sl t [], .dead]
    | _ => .err
  | .bxt _ ts => match vs with
    | x :: _ => needT (x.plain && nilsT x.cells ts) (.ok (.pt :: .ag (nilAtT x.cells ts) :: ts.map fun _ => .dead))
    | _ => .err
  | .stt _ o n ts => match vs with
    | .pt :: .ag cs :: x :: _ => needT (x.plain && Nat.beq x.cells.length n && Nat.ble (o + n) cs.length && nilsT (spliceT cs o x.cells) ts) (.ok (.ag (nilAtT (spliceT cs o x.cells) ts) :: ts.map fun _ => .dead))
    | _ => .err
def cnds : List TV → Option Bool
  | [] => none
  | x :: r => match x.cnd, cnds r with
    | none, q => q
    | some p, none => some p
    | some p, some q => some (p && q)
def underT (c:Bool) (q:Option Bool) (r:Res):Res :=
 match r,q with
 | .ok ws,none => .ok (ws.map (.gd c))
 | .ok ws,some q => .if_ (!c || q) (ws.map (.gd c))
 | .if_ p ws,none => .if_ (!c || p) (ws.map (.gd c))
 | .if_ p ws,some q => .if_ (!c || (q&&p)) (ws.map (.gd c))
 | .err,_ => .err
def guardT (τ:TS) (t:Nat) (b:Bool):Option Bool :=
 match τ t with
 | .b x=>some (cond b x (!x))
 | .gd q (.b x)=>some (q&&cond b x (!x))
 | _=>none
def lenT (n:Nat) (r:Res):Res :=
 match r with
 | .ok ws=>needT (Nat.beq ws.length n) (.ok ws)
 | .if_ p ws=>needT (Nat.beq ws.length n) (.if_ p ws)
 | .err => .err
def bareT (k : TK) (vs : List TV) : List TV :=
  match k with
  | .k .pick => match vs with
    | x :: r => x.bare :: r
    | [] => []
  | _ => vs.map TV.bare
def cndT (k : TK) (vs : List TV) : Option Bool :=
  match k with
  | .k .pick => match vs with
    | x :: _ => x.cnd
    | [] => none
  | _ => cnds vs
def stepT (E : TEnv) (m : TOp) (τ : TS) : Res :=
  match m.gd with
  | none => lenT m.ds.length (semT E m.k (m.rs.map (TOpd.ev E τ)))
  | some (t, b) => match guardT τ t b with
    | some c => lenT m.ds.length (underT c (cndT m.k (m.rs.map (TOpd.ev E τ))) (semT E m.k (bareT m.k (m.rs.map (TOpd.ev E τ)))))
    | none => .err
section
variable {R:Type}
def runT (E : TEnv) : List TOp → TS → (TS → Option R) → Option R
  | [], τ, K => K τ
  | m :: ms, τ, K => match stepT E m τ with
    | .ok ws => runT E ms (setT τ m.ds ws) K
    | .if_ p ws => ck p (runT E ms (setT τ m.ds ws) K)
    | .err => none
def restr (keep:Option (List Nat)) (τ:TS):TS :=
 match keep with
 | none=>τ
 | some ks=>headT ks (ks.map τ)
abbrev Cont (R:Type):=MX→TS→Option R
def seqK (f:TS→Cont R→Option R) (keep:Option (List Nat)) (K:Cont R):Cont R:=fun e τ =>
 match e with
 | .normal=>f (restr keep τ) K
 | e=>K e τ
def blockK (id : Nat) (K : Cont R) : Cont R := fun e τ =>
  match e with
  | .exit j => match Nat.beq j id with
    | true => K .normal τ
    | false => K (.exit j) τ
  | e => K e τ
def isN:MX→Bool
 | .normal=>true
 | _=>false
def isG (l:Nat):MX→Bool
 | .exit j=>Nat.beq j (gid l)
 | _=>false
def loopN (f : TS → Cont R → Option R) (tr : MX → Bool) (keep : List Nat) : Nat → TS → Cont R → Option R
  | 0, _, _ => none
  | n + 1, τ, K => f τ fun e τ' =>
    match tr e with
    | true => loopN f tr keep n (headT keep (keep.map τ')) K
    | false => K e τ'
open Classical in
noncomputable def lim (g:Nat→Option R):Option R:=if h:∃n r,g n=some r then g h.choose else none
noncomputable def loopL (f:TS→Cont R→Option R) (tr:MX→Bool) (keep:List Nat) (τ:TS) (K:Cont R):Option R:=lim fun n=>loopN f tr keep n τ K
noncomputable def loopK (f:TS→Cont R→Option R) (keep:List Nat) (τ:TS) (K:Cont R):Option R:=loopL f isN keep (headT keep (keep.map τ)) K
noncomputable def againK (f:TS→Cont R→Option R) (tr:MX→Bool) (keep:List Nat) (K:Cont R):Cont R:=fun e τ =>
 match tr e with
 | true=>loopL f tr keep (headT keep (keep.map τ)) K
 | false=>K e τ
noncomputable def evO (R:Type) (E:TEnv) (m:TM):TS→Cont R→Option R :=
 TM.rec (motive:=fun _=>TS→Cont R→Option R)
  (fun τ K=>K .normal τ)
  (fun ops τ K=>runT E ops τ (K .normal))
  (fun _ keep _ fa fb τ K=>fa τ (seqK fb keep K))
  (fun x _ _ _ fa fb τ K=>match x.ev E τ with
   | .b t=>cond t (fa τ K) (fb τ K)
   | _=>none)
  (fun id _ _ f τ K=>f τ (blockK id K))
  (fun keep _ _ f τ K=>loopK f keep τ K)
  (fun id τ K=>K (.exit id) τ)
  (fun τ K=>K .ret τ)
  (fun _ f=>f)
  (fun _ f=>f)
  (fun l keep _ _ _ fr fb τ K=>fb τ (againK fr (isG l) keep K)) m
noncomputable def ev (R:Type) (E:TEnv) (m:TM):TS→Cont R→Option R :=
 TM.rec (motive:=fun _=>TS→Cont R→Option R)
  (fun τ K=>K .normal τ)
  (fun ops τ K=>runT E ops τ (K .normal))
  (fun _ keep b fa fb τ K=>match keep with
   | none=>fa τ (seqK fb none K)
   | some ks=>fa τ (seqK (evO R E b) (some ks) K))
  (fun x _ _ _ fa fb τ K=>match x.ev E τ with
   | .b t=>cond t (fa τ K) (fb τ K)
   | _=>none)
  (fun id _ _ f τ K=>f τ (blockK id K))
  (fun keep _ b _ τ K=>loopK (evO R E b) keep τ K)
  (fun id τ K=>K (.exit id) τ)
  (fun τ K=>K .ret τ)
  (fun _ f=>f)
  (fun _ f=>f)
  (fun l keep _ r _ _ fb τ K=>fb τ (againK (evO R E r) (isG l) keep K)) m
theorem ev_eq (E : TEnv) (m : TM) : evO R E m = ev R E m := by
  induction m with
  | skip => rfl
  | reg ops => rfl
  | seq a keep b iha ihb =>
    funext τ K
    show evO R E a τ (seqK (evO R E b) keep K) = (match keep with | none => ev R E a τ (seqK (ev R E b) none K) | some ks => ev R E a τ (seqK (evO R E b) (some ks) K))
    cases keep with
    | none => rw [iha, ihb]
    | some ks => rw [iha]
  | cond x G a b iha ihb =>
    funext τ K
    show (match x.ev E τ with | .b t => cond t (evO R E a τ K) (evO R E b τ K) | _ => none) = (match x.ev E τ with | .b t => cond t (ev R E a τ K) (ev R E b τ K) | _ => none)
    rw [iha, ihb]
  | block id G b ih =>
    funext τ K
    show evO R E b τ (blockK id K) = ev R E b τ (blockK id K)
    rw [ih]
  | loop keep G b ih => rfl
  | exit id => rfl
  | ret => rfl
  | sco b ih => exact ih
  | scp b ih => exact ih
  | lab l keep G r b ihr ihb =>
    funext τ K
    show evO R E b τ (againK (evO R E r) (isG l) keep K) = ev R E b τ (againK (evO R E r) (isG l) keep K)
    rw [ihb]
def Alg (f:TS→Cont R→Option R):Prop:=∀τ,∃p:Option (MX × TS),∀K:Cont R,f τ K=p.bind fun q=>K q.1 q.2
theorem lim_some {g:Nat→Option R} (hm:∀n r,g n=some r→g (n+1)=some r) {r:R}:lim g=some r ↔ ∃n,g n=some r:=by
 have up:∀n k r,g n=some r→g (n+k)=some r:=by
  intro n k
  induction k with
  | zero=>exact fun r h=>h
  | succ k ih=>exact fun r h=>hm _ _ (ih r h)
 unfold lim
 constructor
 ·intro h
  split at h
  ·rename_i hx;exact ⟨_,h⟩
  ·cases h
 ·rintro ⟨n,hn⟩
  have hx:∃n r,g n=some r:=⟨n,r,hn⟩
  rw [dif_pos hx]
  obtain ⟨r',hr'⟩:=hx.choose_spec
  rw [hr']
  have h1:=up _ n _ hr'
  have h2:=up _ hx.choose _ hn
  rw [Nat.add_comm] at h2
  rw [h1] at h2
  exact h2
theorem lim_congr {g g' : Nat → Option R} (hm : ∀ n r, g n = some r → g (n + 1) = some r) (hm' : ∀ n r, g' n = some r → g' (n + 1) = some r) (h : ∀ r, (∃ n, g n = some r) ↔ ∃ n, g' n = some r) : lim g = lim g' := by
  cases e : lim g with
  | some r => exact ((lim_some hm').2 ((h r).1 ((lim_some hm).1 e))).symm
  | none =>
    cases e' : lim g' with
    | none => rfl
    | some r =>
      have := (lim_some hm).2 ((h r).2 ((lim_some hm').1 e'))
      rw [e] at this; cases this
theorem loopN_mono {f : TS → Cont R → Option R} (hf : Alg f) {tr : MX → Bool} {keep : List Nat} {K : Cont R} : ∀ (n : Nat) (τ : TS) (r : R), loopN f tr keep n τ K = some r → loopN f tr keep (n + 1) τ K = some r
  | 0, _, _, h => by cases h
  | n + 1, τ, r, h => by
    obtain ⟨p, hp⟩ := hf τ
    rw [loopN] at h ⊢
    rw [hp] at h ⊢
    cases p with
    | none => cases h
    | some q =>
      obtain ⟨e, τ'⟩ := q
      simp only [Option.bind_some] at h ⊢
      cases ht : tr e with
      | true => rw [ht] at h; exact loopN_mono hf n _ r h
      | false => rw [ht] at h; exact h
theorem loopL_eq {f : TS → Cont R → Option R} (hf : Alg f) (tr : MX → Bool) (keep : List Nat) (τ : TS) (K : Cont R) : loopL f tr keep τ K = f τ (againK f tr keep K) := by
  obtain ⟨p, hp⟩ := hf τ
  rw [hp]
  have hN : ∀ n, loopN f tr keep (n + 1) τ K = p.bind fun q => match tr q.1 with | true => loopN f tr keep n (headT keep (keep.map q.2)) K | false => K q.1 q.2 := by
    intro n; rw [loopN, hp]
  cases p with
  | none =>
    cases e : loopL f tr keep τ K with
    | none => rfl
    | some r =>
      obtain ⟨n, hn⟩ := (lim_some (fun n r => loopN_mono hf n τ r)).1 e
      cases n with
      | zero => cases hn
      | succ n => rw [hN] at hn; cases hn
  | some q =>
    obtain ⟨e, τ'⟩ := q
    simp only [Option.bind_some] at hN ⊢
    cases ht : tr e with
    | true =>
      simp only [againK, ht] at hN ⊢
      refine lim_congr (fun n r => loopN_mono hf n τ r) (fun n r => loopN_mono hf n _ r) fun r => ⟨?_, ?_⟩
      · rintro ⟨n, hn⟩
        cases n with
        | zero => cases hn
        | succ n => rw [hN] at hn; exact ⟨n, hn⟩
      · rintro ⟨n, hn⟩
        exact ⟨n + 1, by rw [hN]; exact hn⟩
    | false =>
      simp only [againK, ht] at hN ⊢
      cases e' : K e τ' with
      | none =>
        cases e2 : loopL f tr keep τ K with
        | none => rfl
        | some r =>
          obtain ⟨n, hn⟩ := (lim_some (fun n r => loopN_mono hf n τ r)).1 e2
          cases n with
          | zero => cases hn
          | succ n => rw [hN, e'] at hn; cases hn
      | some r => exact (lim_some (fun n r => loopN_mono hf n τ r)).2 ⟨1, by rw [hN, e']⟩
theorem runT_alg (E : TEnv) : ∀ (ms : List TOp) (τ : TS), ∃ p : Option TS, ∀ K : TS → Option R, runT E ms τ K = p.bind K
  | [], τ => ⟨some τ, fun K => rfl⟩
  | m :: ms, τ => by
    simp only [runT]
    cases h : stepT E m τ with
    | ok ws => exact runT_alg E ms _
    | if_ p ws =>
      obtain ⟨q, hq⟩ := runT_alg E ms (setT τ m.ds ws)
      cases p with
      | true => exact ⟨q, fun K => hq K⟩
      | false => exact ⟨none, fun K => rfl⟩
    | err => exact ⟨none, fun K => rfl⟩
noncomputable def iterN (P : TS → Option (MX × TS)) (tr : MX → Bool) (keep : List Nat) : Nat → TS → Option (MX × TS)
  | 0, _ => none
  | n + 1, τ => (P τ).bind fun q => match tr q.1 with
    | true => iterN P tr keep n (headT keep (keep.map q.2))
    | false => some q
open Classical in
theorem loopL_alg {f : TS → Cont R → Option R} (hf : Alg f) (tr : MX → Bool) (keep : List Nat) : Alg (loopL f tr keep) := by
  intro τ
  let P := fun τ => (hf τ).choose
  have hP : ∀ τ K, f τ K = (P τ).bind fun q => K q.1 q.2 := fun τ => (hf τ).choose_spec
  have hI : ∀ n τ K, loopN f tr keep n τ K = (iterN P tr keep n τ).bind fun q => K q.1 q.2 := by
    intro n
    induction n with
    | zero => exact fun _ _ => rfl
    | succ n ih =>
      intro τ K
      rw [loopN, iterN, hP]
      cases P τ with
      | none => rfl
      | some q =>
        simp only [Option.bind_some]
        cases tr q.1 with
        | true => exact ih _ K
        | false => rfl
  have hmono : ∀ n τ q, iterN P tr keep n τ = some q → iterN P tr keep (n + 1) τ = some q := by
    intro n
    induction n with
    | zero => intro _ _ h; cases h
    | succ n ih =>
      intro τ q h
      rw [iterN] at h ⊢
      cases e : P τ with
      | none => rw [e] at h; cases h
      | some q' =>
        rw [e] at h
        simp only [Option.bind_some] at h ⊢
        cases ht : tr q'.1 with
        | true => rw [ht] at h; exact ih _ q h
        | false => rw [ht] at h; exact h
  by_cases hx : ∃ n q, iterN P tr keep n τ = some q
  · obtain ⟨n, q, hq⟩ := hx
    have hge : ∀ k, iterN P tr keep (n + k) τ = some q := by
      intro k
      induction k with
      | zero => exact hq
      | succ k ih => exact hmono _ _ _ ih
    refine ⟨some q, fun K => ?_⟩
    simp only [Option.bind_some]
    cases e : K q.1 q.2 with
    | some r => exact (lim_some (fun n r => loopN_mono hf n τ r)).2 ⟨n, by rw [hI, hq]; exact e⟩
    | none =>
      cases e' : loopL f tr keep τ K with
      | none => rfl
      | some r =>
        obtain ⟨m, hm⟩ := (lim_some (fun n r => loopN_mono hf n τ r)).1 e'
        have : loopN f tr keep (m + n) τ K = some r := by
          clear e e'
          induction n with
          | zero => exact hm
          | succ n ih =>
            have up : ∀ k, loopN f tr keep (m + k) τ K = some r := by
              intro k
              induction k with
              | zero => exact hm
              | succ k ih => exact loopN_mono hf _ _ _ ih
            exact up _
        rw [hI, Nat.add_comm, hge] at this
        simp only [Option.bind_some] at this
        rw [e] at this; cases this
  · refine ⟨none, fun K => ?_⟩
    cases e' : loopL f tr keep τ K with
    | none => rfl
    | some r =>
      obtain ⟨m, hm⟩ := (lim_some (fun n r => loopN_mono hf n τ r)).1 e'
      rw [hI] at hm
      cases e : iterN P tr keep m τ with
      | none => rw [e] at hm; cases hm
      | some q => exact absurd ⟨m, q, e⟩ hx
theorem loopK_alg {f:TS→Cont R→Option R} (hf:Alg f) (keep:List Nat):Alg (loopK f keep):=fun τ=>loopL_alg hf isN keep _
theorem ev_alg (E : TEnv) (m : TM) : Alg (evO R E m) := by
  induction m with
  | skip => exact fun τ => ⟨some (.normal, τ), fun K => rfl⟩
  | reg ops =>
    intro τ
    obtain ⟨p, hp⟩ := runT_alg (R := R) E ops τ
    exact ⟨p.map fun τ => (.normal, τ), fun K => by rw [Option.bind_map]; exact hp _⟩
  | seq a keep b iha ihb =>
    intro τ
    obtain ⟨p, hp⟩ := iha τ
    cases p with
    | none => exact ⟨none, fun K => hp _⟩
    | some q =>
      obtain ⟨e, τ'⟩ := q
      cases e with
      | normal =>
        obtain ⟨p', hp'⟩ := ihb (restr keep τ')
        exact ⟨p', fun K => (hp _).trans (hp' _)⟩
      | exit i => exact ⟨some (.exit i, τ'), fun K => hp _⟩
      | ret => exact ⟨some (.ret, τ'), fun K => hp _⟩
  | cond x G a b iha ihb =>
    intro τ
    show ∃ p : Option (MX × TS), ∀ K : Cont R, (match x.ev E τ with | .b t => cond t (evO R E a τ K) (evO R E b τ K) | _ => none) = _
    split
    · rename_i t _
      cases t with
      | true => exact iha τ
      | false => exact ihb τ
    · exact ⟨none, fun K => rfl⟩
  | block id G b ih =>
    intro τ
    obtain ⟨p, hp⟩ := ih τ
    cases p with
    | none => exact ⟨none, fun K => hp _⟩
    | some q =>
      obtain ⟨e, τ'⟩ := q
      cases e with
      | normal => exact ⟨some (.normal, τ'), fun K => hp _⟩
      | exit i =>
        cases hb : Nat.beq i id with
        | true => exact ⟨some (.normal, τ'), fun K => (hp _).trans (by simp only [Option.bind_some, blockK, hb])⟩
        | false => exact ⟨some (.exit i, τ'), fun K => (hp _).trans (by simp only [Option.bind_some, blockK, hb])⟩
      | ret => exact ⟨some (.ret, τ'), fun K => hp _⟩
  | loop keep G b ih => exact loopK_alg ih keep
  | exit id => exact fun τ => ⟨some (.exit id, τ), fun K => rfl⟩
  | ret => exact fun τ => ⟨some (.ret, τ), fun K => rfl⟩
  | sco b ih => exact ih
  | scp b ih => exact ih
  | lab l keep G r b ihr ihb =>
    intro τ
    obtain ⟨p, hp⟩ := ihb τ
    cases p with
    | none => exact ⟨none, fun K => hp _⟩
    | some q =>
      obtain ⟨e, τ'⟩ := q
      cases ht : isG l e with
      | true =>
        obtain ⟨p', hp'⟩ := loopL_alg ihr (isG l) keep (headT keep (keep.map τ'))
        exact ⟨p', fun K => (hp _).trans (by simp only [Option.bind_some, againK, ht]; exact hp' K)⟩
      | false => exact ⟨some (e, τ'), fun K => (hp _).trans (by simp only [Option.bind_some, againK, ht])⟩
theorem ev_loop (E:TEnv) (tr:MX→Bool) (keep:List Nat) (b:TM) (τ:TS) (K:Cont R) :
  loopL (evO R E b) tr keep τ K=ev R E b τ (againK (evO R E b) tr keep K):=by rw [loopL_eq (ev_alg E b),ev_eq]
end
end Go.Eng
namespace Go.Eng
theorem insT_av (c : CS) (vs : List TV) : (c.insT vs).map TV.av = c.ins (vs.map TV.av) := by
  unfold CS.insT CS.ins
  cases c.ref with
  | none => simp [List.map_take]
  | some q =>
    simp only [List.map_set, List.map_take]
    congr 1
    simp only [List.getD_eq_getElem?_getD, List.getElem?_map]
    cases vs[c.n + (c.new.map (·.2)).toList.length]? <;> rfl
theorem mainT_av (c : CS) (outs : List TV) : (c.mainT outs).av = c.main (outs.map TV.av) := by
  unfold CS.mainT CS.main
  cases h : Nat.beq c.nres 1 with
  | true =>
    rw [if_pos (Nat.eq_of_beq_eq_true h)]
    cases c.new with
    | some q => rfl
    | none => cases outs <;> rfl
  | false =>
    rw [if_neg (Nat.ne_of_beq_eq_false h)]
    simp only [TV.av, TV.avs_map, AV.tu.injEq]
    apply List.ext_getElem?
    intro i
    simp only [List.getElem?_map, List.getElem?_mapIdx, List.getElem?_take]
    split
    · cases outs[i]? with
      | none => rfl
      | some x =>
        simp only [Option.map_some, Option.some.injEq]
        cases h : (c.new.any fun q => q.1 == i) <;> simp
        rfl
    · rfl
section
variable {E:TEnv}
theorem callT_ok {f : Nat} {c : CS} {vs ws : List TV} (h : (callT (E.fs f).1 c vs).holds ws) : sem E.env (.call f c) (vs.map TV.av) (ws.map TV.av) := by
  unfold callT at h
  cases hr : c.refOK vs with
  | false => rw [hr] at h; exact h.elim
  | true =>
    rw [hr] at h
    have key : ∀ {outs : List TV}, ((E.fs f).1 (c.insT vs)).holds outs → Nat.beq outs.length (c.nres + c.mems.length) = true → ws = c.give outs → sem E.env (.call f c) (vs.map TV.av) (ws.map TV.av) := by
      intro outs h1 h2 h3
      subst h3
      refine ⟨?_, outs.map TV.av, ⟨_, _, (insT_av c vs).symm, rfl, h1⟩, by rw [List.length_map]; exact Nat.eq_of_beq_eq_true h2, ?_⟩
      · unfold CS.refOK at hr
        cases hc : c.ref with
        | none => trivial
        | some q =>
          rw [hc] at hr
          simp only at hr ⊢
          split at hr
          · rename_i e; rw [List.getElem?_map, e]; rfl
          · cases hr
      · simp only [CS.give, List.map_cons, mainT_av, List.map_append, List.map_drop, List.map_map]
        rfl
    simp only at h
    cases hC : (E.fs f).1 (c.insT vs) with
    | ok outs =>
      rw [hC] at h
      obtain ⟨h1, h2⟩ := needT_holds h
      exact key (outs := outs) (by rw [hC]; rfl) h1 h2
    | if_ p outs =>
      rw [hC] at h
      obtain ⟨h1, h2⟩ := needT_holds h
      exact key (outs := outs) (by rw [hC]; exact ⟨h2.1, rfl⟩) h1 h2.2
    | err => rw [hC] at h; exact h.elim
theorem sliceT_ok {t:STy} {vs rest ws:List TV} (h:(sliceT t vs rest).holds ws):∃l,l.map t.av=vs.map TV.av∧(∀x∈vs.map TV.av,x.plain=true∧x.cells.length=t.size)∧ws = .sl t l :: rest:=by
 unfold sliceT at h
 split at h
 ·rename_i l e
  obtain ⟨h1,h2⟩:=STy.els_av e
  exact ⟨l,h1,h2,h⟩
 ·exact h.elim
theorem resT_ok {C : Ctr} {nres : Nat} {vs ws : List TV} (h : (resT nres (C vs)).holds ws) : ∃ outs, (C vs).holds outs ∧ outs.length = nres ∧ ws = [cond (Nat.beq nres 1) (outs.headD .dead) (.tu outs)] := by
  unfold resT at h
  cases hC : C vs with
  | ok outs =>
    rw [hC] at h
    obtain ⟨h1, h2⟩ := needT_holds h
    exact ⟨outs, rfl, Nat.eq_of_beq_eq_true h1, h2⟩
  | if_ p outs =>
    rw [hC] at h
    obtain ⟨h1, h2⟩ := needT_holds h
    exact ⟨outs, ⟨h2.1, rfl⟩, Nat.eq_of_beq_eq_true h1, h2.2⟩
  | err => rw [hC] at h; exact h.elim
theorem resMain {nres:Nat} (outs:List TV):(cond (Nat.beq nres 1) (outs.headD .dead) (.tu outs):TV).av=if nres=1 then (outs.map TV.av).headD .dead else .tu (outs.map TV.av):=by
 cases h:Nat.beq nres 1 with
 | true=>rw [if_pos (Nat.eq_of_beq_eq_true h)];cases outs <;> rfl
 | false=>rw [if_neg (Nat.ne_of_beq_eq_false h)];simp only [cond_false,TV.av,TV.avs_map]
theorem pcallT_ok {f n nres i k s:Nat} {vs ws:List TV} (h:(pcallT (E.fs f).1 n nres i s vs).holds ws):sem E.env (.pcall f n nres i k s) (vs.map TV.av) (ws.map TV.av):=by
 unfold pcallT at h
 split at h
 ·rename_i t l e1 e2
  obtain ⟨h0,h⟩:=needT_holds h
  obtain ⟨outs,h1,h2,rfl⟩:=resT_ok h
  have h0:=Nat.eq_of_beq_eq_true h0
  refine ⟨l.map t.av,outs.map TV.av,by rw [List.getElem?_map,e1,h0];rfl,by rw [List.getElem?_map,e2];rfl,⟨_,outs,?_,rfl,h1⟩,by simpa using h2,by simp only [List.map_cons,List.map_nil,resMain]⟩
  rw [List.map_set,List.map_take,h0];rfl
 ·exact h.elim
theorem pcalnT_ok {f n nres i s:Nat} {vs ws:List TV} (h:(pcalnT (E.fs f).1 nres i s vs).holds ws):sem E.env (.pcaln f n nres i s) (vs.map TV.av) (ws.map TV.av):=by
 unfold pcalnT at h
 split at h
 ·rename_i t e1
  obtain ⟨h0,h⟩:=needT_holds h
  obtain ⟨outs,h1,h2,rfl⟩:=resT_ok h
  have h0:=Nat.eq_of_beq_eq_true h0
  exact ⟨outs.map TV.av,by rw [List.getElem?_map,e1,h0];rfl,⟨vs,outs,rfl,rfl,h1⟩,by simpa using h2,by simp only [List.map_cons,List.map_nil,resMain]⟩
 ·exact h.elim
theorem allV_ok : ∀ {l : List TV}, allV l = true → ∀ x ∈ l.map TV.av, ∃ y, x = .v y
  | [], _, x, hx => by cases hx
  | z :: r, h, x, hx => by
    simp only [allV, Bool.and_eq_true] at h
    rcases List.mem_cons.1 hx with rfl | hx
    · cases z <;> first | exact ⟨_, rfl⟩ | cases h.1
    · exact allV_ok h.2 x hx
theorem rcallT_ok {f n nres i m : Nat} {vs ws : List TV} (h : (rcallT (E.fs f).1 n nres i vs).holds ws) : sem E.env (.rcall f n nres i m) (vs.map TV.av) (ws.map TV.av) := by
  unfold rcallT at h
  split at h
  · rename_i cs e1 e2
    have key : ∃ outs, ((E.fs f).1 ((vs.take n).set i (.ro (.ag cs)))).holds outs ∧ outs.length = nres ∧ allV outs = true ∧ ws = [cond (Nat.beq nres 1) (outs.headD .dead) (.tu outs)] := by
      unfold resV at h
      cases hC : (E.fs f).1 ((vs.take n).set i (.ro (.ag cs))) with
      | ok outs =>
        rw [hC] at h
        obtain ⟨h1, h2⟩ := needT_holds h
        simp only [Bool.and_eq_true] at h1
        exact ⟨outs, rfl, Nat.eq_of_beq_eq_true h1.1, h1.2, h2⟩
      | if_ p outs =>
        rw [hC] at h
        obtain ⟨h1, h2⟩ := needT_holds h
        simp only [Bool.and_eq_true] at h1
        exact ⟨outs, ⟨h2.1, rfl⟩, Nat.eq_of_beq_eq_true h1.1, h1.2, h2.2⟩
      | err => rw [hC] at h; exact h.elim
    obtain ⟨outs, h1, h2, h3, rfl⟩ := key
    refine ⟨cs.map TV.av, outs.map TV.av, by rw [List.getElem?_map, e1]; simp only [Option.map_some, TV.av, TV.avs_map], by rw [List.getElem?_map, e2]; rfl, ⟨_, outs, ?_, rfl, h1⟩, by simpa using h2, allV_ok h3, by simp only [List.map_cons, List.map_nil, resMain]⟩
    rw [List.map_set, List.map_take]; simp only [TV.av, TV.avs_map]
  · exact h.elim
theorem semT_ok {k : TK} {vs ws : List TV} (h : (semT E k vs).holds ws) : sem E.env k.erase (vs.map TV.av) (ws.map TV.av) := by
  cases k with
  | k x =>
    by_cases hc : ∃ f c, x = .call f c
    · obtain ⟨f, c, rfl⟩ := hc
      exact callT_ok h
    · cases x
      case call f c => exact (hc ⟨_, _, rfl⟩).elim
      case pcall f n nres i k s => exact pcallT_ok h
      case pcaln f n nres i s => exact pcalnT_ok h
      case rcall f n nres i m => exact rcallT_ok h
      all_goals exact semK_ok _ h
  | bl t n =>
    obtain ⟨h0, h⟩ := needT_holds h
    obtain ⟨l, h1, h2, rfl⟩ := sliceT_ok h
    have h0 := Nat.eq_of_beq_eq_true h0
    simp only [TK.erase, sem, List.map, TV.av, h1, List.length_map]
    exact ⟨h0, h2, trivial⟩
  | blt t n d =>
    obtain ⟨h0, h⟩ := needT_holds h
    obtain ⟨l, h1, h2, rfl⟩ := sliceT_ok h
    have h0 := Nat.eq_of_beq_eq_true h0
    simp only [TK.erase, sem, List.map, TV.av, h1, List.length_map, ← List.map_take]
    exact ⟨h0, h2, trivial⟩
  | bd z pl =>
    simp only [semT] at h
    split at h
    · rename_i cs e
      cases h
      simp only [TK.erase, sem, List.map, TV.av, TV.avs_map]
      exact ⟨_, fillT_av e, rfl⟩
    · exact h.elim
  | al m z ts =>
    simp only [semT] at h
    cases h
    simp only [TK.erase, sem, List.map_cons, TV.av, List.map_map]
    rfl
  | mk d b t z =>
    simp only [semT] at h
    split at h
    · obtain ⟨h1, rfl⟩ := h
      obtain ⟨h1, h2, h3, h4⟩ := mkOK_iff.1 h1
      simp only [TK.erase, sem, List.map, TV.av]
      exact ⟨(STy.av_plain _ _).1, (STy.av_plain _ _).2, h1, h2, h3, h4, by simp⟩
    · exact h.elim
  | nl t d =>
    simp only [semT] at h
    split at h
    · cases h; rfl
    · exact h.elim
  | bxt m ts =>
    simp only [semT] at h
    split at h
    · obtain ⟨e, h⟩ := needT_holds h
      cases h
      simp only [Bool.and_eq_true] at e
      obtain ⟨h1, h2⟩ := nilsT_av e.2
      simp only [TK.erase, sem, List.map_cons, TV.av, TV.avs_map, TV.cells_av _ e.1]
      exact ⟨TV.plain_av _ e.1, h1, by rw [h2]; simp only [erTs, List.map_map]; rfl⟩
    · exact h.elim
  | stt m o n ts =>
    simp only [semT] at h
    split at h
    · obtain ⟨e, h⟩ := needT_holds h
      cases h
      simp only [Bool.and_eq_true] at e
      obtain ⟨⟨⟨e1, e2⟩, e3⟩, e4⟩ := e
      obtain ⟨h1, h2⟩ := nilsT_av e4
      rw [spliceT_av] at h1 h2
      simp only [TK.erase, sem, List.map_cons, TV.av, TV.avs_map, TV.cells_av _ e1, List.length_map]
      exact ⟨TV.plain_av _ e1, Nat.eq_of_beq_eq_true e2, Nat.le_of_ble_eq_true e3, h1, by rw [h2]; simp only [erTs, List.map_map]; rfl⟩
    · exact h.elim
theorem cnds_all : ∀ {l : List TV}, (∀ q, cnds l = some q → q = true) → ∀ x ∈ l, ∀ q, x.cnd = some q → q = true
  | [], _, _, hx, _, _ => by cases hx
  | y :: r, h, x, hx, q, hq => by
    simp only [cnds] at h
    rcases List.mem_cons.1 hx with rfl | hx
    · rw [hq] at h
      cases e : cnds r with
      | none => rw [e] at h; exact h _ rfl
      | some p => rw [e] at h; exact (Bool.and_eq_true_iff.1 (h _ rfl)).1
    · refine cnds_all (l := r) ?_ x hx q hq
      intro p hp
      rw [hp] at h
      cases e : y.cnd with
      | none => rw [e] at h; exact h _ rfl
      | some p' => rw [e] at h; exact (Bool.and_eq_true_iff.1 (h _ rfl)).2
theorem underT_true {c:Bool} {q:Option Bool} {r:Res} {ws:List TV} (h:(underT c q r).holds ws) (hc:c=true):∃vs,r.holds vs∧ws=vs.map (.gd c)∧∀p,q=some p→p=true:=by
 subst hc
 cases r <;> cases q
 ·exact ⟨_,rfl,h,by simp⟩
 ·rename_i vs q
  obtain ⟨h1,rfl⟩:=h
  exact ⟨vs,rfl,rfl,by rintro _ ⟨⟩;simpa using h1⟩
 ·rename_i p vs
  obtain ⟨h1,rfl⟩:=h
  exact ⟨vs,⟨by simpa using h1,rfl⟩,rfl,by simp⟩
 ·rename_i p vs q
  obtain ⟨h1,rfl⟩:=h
  simp at h1
  exact ⟨vs,⟨h1.2,rfl⟩,rfl,by rintro _ ⟨⟩;exact h1.1⟩
 ·exact h.elim
 ·exact h.elim
theorem underT_false {c:Bool} {q:Option Bool} {r:Res} {ws:List TV} (h:(underT c q r).holds ws):∃vs:List TV,ws=vs.map (.gd c):=by
 cases r <;> cases q <;> first | exact ⟨_,h⟩ | exact ⟨_,h.2⟩ | exact h.elim
theorem lenT_holds {n:Nat} {r:Res} {ws:List TV} (h:(lenT n r).holds ws):r.holds ws∧ws.length=n:=by
 cases r with
 | ok vs=>obtain ⟨h1,h2⟩:=needT_holds h;cases h2;exact ⟨rfl,Nat.eq_of_beq_eq_true h1⟩
 | if_ p vs=>obtain ⟨h1,h2⟩:=needT_holds h;obtain ⟨h2,rfl⟩:=h2;exact ⟨⟨h2,rfl⟩,Nat.eq_of_beq_eq_true h1⟩
 | err=>exact h.elim
theorem guardT_ok {τ:TS} {t:Nat} {b c:Bool} (h:guardT τ t b=some c):guardV τ.av (some (t,b))=some c:=by
 unfold guardT at h
 simp only [guardV,TS.av]
 split at h
 ·rename_i x e;cases h;rw [e];cases b <;> cases x <;> rfl
 ·rename_i q x e;cases h;rw [e];cases q <;> cases b <;> cases x <;> rfl
 ·cases h
theorem bareT_av {k:TK} {vs:List TV} (h:∀p,cndT k vs=some p→p=true):(bareT k vs).map TV.av=vs.map TV.av:=by
 have base:(∀p,cnds vs=some p→p=true)→(vs.map TV.bare).map TV.av=vs.map TV.av:=fun h=>by
  rw [List.map_map];exact List.map_congr_left fun x hx=>TV.bare_av (cnds_all h x hx)
 unfold cndT at h
 unfold bareT
 split at h
 ·split at h
  ·simp only [List.map_cons];rw [TV.bare_av h]
  ·rfl
 ·exact base h
theorem stepT_ok {m : TOp} {τ : TS} {ws : List TV} (h : (stepT E m τ).holds ws) : stepS E.env m.erase τ.av (setT τ m.ds ws).av := by
  unfold stepT at h
  have hev : ∀ l : List TOpd, (l.map TOpd.erase).map (Opd.ev E.env τ.av) = (l.map (TOpd.ev E τ)).map TV.av := by
    intro l; simp only [List.map_map]; exact List.map_congr_left fun x _ => TOpd.ev_av E τ x
  cases hg : m.gd with
  | none =>
    rw [hg] at h
    obtain ⟨h1, h2⟩ := lenT_holds h
    refine ⟨ws.map TV.av, ?_, by simpa [TOp.erase] using h2, setT_av _ _ _⟩
    simp only [TOp.erase, hg, guardV, hev]
    exact semT_ok h1
  | some q =>
    obtain ⟨t, b⟩ := q
    rw [hg] at h
    simp only at h
    cases hc : guardT τ t b with
    | none => rw [hc] at h; exact h.elim
    | some c =>
      rw [hc] at h
      obtain ⟨h1, h2⟩ := lenT_holds h
      refine ⟨ws.map TV.av, ?_, by simpa [TOp.erase] using h2, setT_av _ _ _⟩
      simp only [TOp.erase, hg, guardT_ok hc]
      cases c with
      | true =>
        obtain ⟨vs, h3, rfl, h4⟩ := underT_true h1 rfl
        have e1 : (vs.map (TV.gd true)).map TV.av = vs.map TV.av := by simp only [List.map_map]; exact List.map_congr_left fun x _ => rfl
        have e2 := bareT_av h4
        simp only [hev, e1, ← e2]
        exact semT_ok h3
      | false =>
        obtain ⟨vs, rfl⟩ := underT_false h1
        simp only [List.map_map]
        apply List.ext_getElem?
        intro i
        simp only [List.length_map] at h2
        simp only [List.getElem?_map]
        by_cases hi : i < vs.length
        · rw [List.getElem?_eq_getElem hi, List.getElem?_eq_getElem (by omega)]; rfl
        · rw [List.getElem?_eq_none (by omega), List.getElem?_eq_none (by omega)]; rfl
theorem runT_ok {R : Type} {r : R} {K : TS → Option R} : ∀ {ms : List TOp} {τ : TS}, runT E ms τ K = some r → ∃ τ' : TS, runS E.env (ms.map TOp.erase) τ.av τ'.av ∧ K τ' = some r
  | [], τ, h => ⟨τ, rfl, h⟩
  | m :: ms, τ, h => by
    simp only [runT] at h
    cases hs : stepT E m τ with
    | ok ws =>
      rw [hs] at h
      obtain ⟨τ', h1, h2⟩ := runT_ok h
      exact ⟨τ', ⟨_, stepT_ok (ws := ws) (by rw [hs]; rfl), h1⟩, h2⟩
    | if_ p ws =>
      rw [hs] at h
      obtain ⟨hp, h⟩ := ck_some.1 h
      obtain ⟨τ', h1, h2⟩ := runT_ok h
      exact ⟨τ', ⟨_, stepT_ok (ws := ws) (by rw [hs]; exact ⟨hp, rfl⟩), h1⟩, h2⟩
    | err => rw [hs] at h; cases h
theorem restr_le (keep : Option (List Nat)) (τ : TS) : Le (restr keep τ).av τ.av := by
  cases keep with
  | none => exact fun _ => .inl rfl
  | some ks =>
    intro k
    have : ∀ ks : List Nat, headT ks (ks.map τ) k = τ k ∨ headT ks (ks.map τ) k = .dead := by
      intro ks
      induction ks with
      | nil => exact .inr rfl
      | cons j ks ih =>
        simp only [headT, List.map_cons, setT] at ih ⊢
        cases h : Nat.beq k j with
        | true => left; rw [Nat.eq_of_beq_eq_true h]; rfl
        | false => exact ih
    rcases this ks with e | e
    · left; simp only [TS.av, restr, e]
    · right; simp only [TS.av, restr, e]; rfl
theorem agr_map (σ:Sg):∀keep:List Nat,Agr σ keep (keep.map σ)
 | []=>trivial
 | k :: ks=>⟨rfl,agr_map σ ks⟩
theorem ev_ok {R : Type} {r : R} {m : TM} : ∀ {τ : TS} {K : Cont R}, evO R E m τ K = some r → wpm E.env m.erase (fun e σ => ∃ τ' : TS, σ = τ'.av ∧ K e τ' = some r) τ.av := by
  induction m with
  | skip => exact fun h => ⟨_, rfl, h⟩
  | reg ops =>
    intro τ K h
    obtain ⟨τ', h1, h2⟩ := runT_ok (E := E) h
    exact ⟨_, h1, τ', rfl, h2⟩
  | seq a keep b iha ihb =>
    intro τ K h
    show wpm E.env a.erase _ τ.av
    refine wpm_mono (m := a.erase) (Q := fun e σ => ∃ τ' : TS, σ = τ'.av ∧ seqK (evO R E b) keep K e τ' = some r) (fun e σ q => ?_) (iha h)
    obtain ⟨τ', rfl, q⟩ := q
    cases e with
    | normal => exact ⟨_, restr_le keep τ', ihb q⟩
    | exit i => exact ⟨τ', rfl, q⟩
    | ret => exact ⟨τ', rfl, q⟩
  | cond x G a b iha ihb =>
    intro τ K h
    have h : (match x.ev E τ with | .b t => cond t (evO R E a τ K) (evO R E b τ K) | _ => none) = some r := h
    split at h
    · rename_i t e
      refine .inl ⟨t, by rw [TOpd.ev_av, e]; rfl, ?_, ?_⟩
      · rintro rfl; exact iha h
      · rintro rfl; exact ihb h
    · cases h
  | block id G b ih =>
    intro τ K h
    show wpm E.env b.erase _ τ.av
    refine wpm_mono (m := b.erase) (Q := fun e σ => ∃ τ' : TS, σ = τ'.av ∧ blockK id K e τ' = some r) (fun e σ q => ?_) (ih h)
    obtain ⟨τ', rfl, q⟩ := q
    cases e with
    | normal => exact ⟨τ', rfl, q⟩
    | exit i =>
      simp only [blockK] at q ⊢
      cases hb : Nat.beq i id with
      | true => rw [hb] at q; rw [if_pos (Nat.eq_of_beq_eq_true hb)]; exact ⟨τ', rfl, q⟩
      | false => rw [hb] at q; rw [if_neg (Nat.ne_of_beq_eq_false hb)]; exact ⟨τ', rfl, q⟩
    | ret => exact ⟨τ', rfl, q⟩
  | loop keep G b ih =>
    intro τ K h
    have hl := (lim_some (fun n r => loopN_mono (ev_alg E b) n _ r)).1 h
    obtain ⟨n, hn⟩ := hl
    refine ⟨{ p : Nat × TS // loopN (evO R E b) isN keep p.1 (headT keep (keep.map p.2)) K = some r }, fun p => keep.map p.1.2.av, fun p => p.1.1, ⟨(n, τ), hn⟩, agr_map _ keep, ?_⟩
    rintro ⟨⟨n, τ⟩, hn⟩
    cases n with
    | zero => cases hn
    | succ n =>
      simp only [loopN] at hn
      have e : head keep (keep.map τ.av) = (headT keep (keep.map τ)).av := by rw [headT_av, List.map_map]; rfl
      simp only
      rw [e]
      refine wpm_mono (fun e σ q => ?_) (ih hn)
      obtain ⟨τ', rfl, q⟩ := q
      cases e with
      | normal => exact ⟨⟨(n, τ'), q⟩, Nat.lt_succ_self n, agr_map _ keep⟩
      | exit i => exact ⟨τ', rfl, q⟩
      | ret => exact ⟨τ', rfl, q⟩
  | exit id => exact fun h => ⟨_, rfl, h⟩
  | ret => exact fun h => ⟨_, rfl, h⟩
  | sco b ih => exact fun h => ih h
  | scp b ih => exact fun h => ih h
  | lab l keep G x b ihx ihb =>
    intro τ K h
    have key : ∀ {e : MX} {τ' : TS}, againK (evO R E x) (isG l) keep K e τ' = some r → (e = .exit (gid l) ∧ ∃ n, loopN (evO R E x) (isG l) keep n (headT keep (keep.map τ')) K = some r) ∨ (e ≠ .exit (gid l) ∧ K e τ' = some r) := by
      intro e τ' q
      simp only [againK] at q
      cases ht : isG l e with
      | true =>
        rw [ht] at q
        left
        cases e <;> simp only [isG, Bool.false_eq_true] at ht
        exact ⟨by rw [Nat.eq_of_beq_eq_true ht], (lim_some (fun n r => loopN_mono (ev_alg E x) n _ r)).1 q⟩
      | false =>
        rw [ht] at q
        refine .inr ⟨?_, q⟩
        rintro rfl
        simp [isG] at ht
    refine ⟨{ p : Nat × TS // loopN (evO R E x) (isG l) keep p.1 (headT keep (keep.map p.2)) K = some r }, fun p => keep.map p.1.2.av, fun p => p.1.1, ?_, ?_⟩
    · refine wpm_mono (fun e σ q => ?_) (ihb h)
      obtain ⟨τ', rfl, q⟩ := q
      rcases key q with ⟨rfl, n, hn⟩ | ⟨hne, q⟩
      · simp only [if_true]
        exact ⟨⟨(n, τ'), hn⟩, agr_map _ keep⟩
      · cases e with
        | exit j =>
          have : j ≠ gid l := fun e => hne (by rw [e])
          simp only [this, if_false]
          exact ⟨τ', rfl, q⟩
        | normal => exact ⟨τ', rfl, q⟩
        | ret => exact ⟨τ', rfl, q⟩
    · rintro ⟨⟨n, τ⟩, hn⟩
      cases n with
      | zero => cases hn
      | succ n =>
        simp only [loopN] at hn
        have e : head keep (keep.map τ.av) = (headT keep (keep.map τ)).av := by rw [headT_av, List.map_map]; rfl
        simp only
        rw [e]
        refine wpm_mono (fun e σ q => ?_) (ihx hn)
        obtain ⟨τ', rfl, q⟩ := q
        cases ht : isG l e with
        | true =>
          rw [ht] at q
          cases e <;> simp only [isG, Bool.false_eq_true] at ht
          rw [Nat.eq_of_beq_eq_true ht]
          simp only [if_true]
          exact ⟨⟨(n, τ'), q⟩, Nat.lt_succ_self n, agr_map _ keep⟩
        | false =>
          rw [ht] at q
          cases e with
          | exit j =>
            have : j ≠ gid l := fun e => by subst e; simp [isG] at ht
            simp only [this, if_false]
            exact ⟨τ', rfl, q⟩
          | normal => exact ⟨τ', rfl, q⟩
          | ret => exact ⟨τ', rfl, q⟩
end
structure TFD where
 np:Nat
 m:TM
 ref:Option (Nat × Nat):=none
 tips:List (Nat × (Nat × Nat)):=[]
 res:List RV
 own:List (Nat × Nat):=[]
 new:Option (Nat × Nat):=none
 tnew:List (Nat × Nat):=[]
 ps:Option (Nat × (Nat × Nat)):=none
def TFD.erase (d:TFD):FD:={ np:=d.np,m:=d.m.erase,ref:=d.ref,tips:=d.tips,res:=d.res,own:=d.own,new:=d.new,tnew:=d.tnew,ps:=d.ps }
def RV.getT (τ : TS) : RV → Option TV
  | .t j => some (τ j)
  | .c a m n agg => match τ a, τ m with
    | .pt, .ag cs => partT cs 0 n agg
    | _, _ => none
def outLT (τ : TS) : List RV → Option (List TV)
  | [] => some []
  | r :: rs => match r.getT τ with
    | some x => match outLT τ rs with
      | some l => some (x :: l)
      | none => none
    | none => none
def TV.isSl:TV→Bool
 | .sl _ _=>true
 | _=>false
def TV.isPt:TV→Bool
 | .pt=>true
 | _=>false
def TFD.outT (d:TFD) (τ:TS):Option (List TV) :=
 match outLT τ d.res with
 | some rs=>cond (d.own.all (fun q=>(rs.getD q.1 .dead).isSl)&&d.new.toList.all (fun q=>(rs.getD q.1 .dead).isPt)) (some (rs++d.new.toList.map (fun q=>τ q.2)++d.ref.toList.map (fun q=>τ q.2)++d.ps.toList.map (fun q=>τ (lk q.2.1)))) none
 | none=>none
def TFD.startT (d : TFD) (ins : List TV) : TS :=
  match d.ref with
  | none => match d.ps with
    | none => headT (List.range d.np) ins
    | some (i, k, _) => headT (lk k :: List.range d.np) (ins.getD i .dead :: ins.set i .pt)
  | some (i, m) => headT (m :: List.range d.np) (ins.getD i .dead :: ins.set i .pt)
def endK (d:TFD):Cont (List TV):=fun e τ =>
 match e with
 | .exit _=>none
 | _=>d.outT τ
noncomputable def TFD.run (E:TEnv) (d:TFD) (ins:List TV):Option (List TV):=ev (List TV) E d.m (d.startT ins) (endK d)
theorem outLT_av {τ : TS} : ∀ {rs : List RV} {xs : List TV}, outLT τ rs = some xs → outL τ.av rs = some (xs.map TV.av)
  | [], xs, h => by cases h; rfl
  | r :: rs, xs, h => by
    simp only [outLT] at h
    split at h
    · rename_i x hx
      split at h
      · rename_i l hl
        cases h
        have e : r.get τ.av = some x.av := by
          cases r with
          | t j => cases hx; rfl
          | c a m n agg =>
            simp only [RV.getT] at hx
            split at hx
            · rename_i cs e1 e2
              simp only [RV.get, TS.av, e1, e2, TV.av, TV.avs_map]
              exact partT_av hx
            · cases hx
        simp only [outL, e, outLT_av hl]
        rfl
      · cases h
    · cases h
theorem outT_av {d : TFD} {τ : TS} {outs : List TV} (h : d.outT τ = some outs) : d.erase.OutS τ.av (outs.map TV.av) := by
  unfold TFD.outT at h
  split at h
  · rename_i rs hrs
    cases hc : (d.own.all (fun q => (rs.getD q.1 .dead).isSl) && d.new.toList.all (fun q => (rs.getD q.1 .dead).isPt)) with
    | false => rw [hc] at h; cases h
    | true =>
      rw [hc] at h
      cases h
      simp only [Bool.and_eq_true, List.all_eq_true] at hc
      refine ⟨rs.map TV.av, outLT_av hrs, ?_, ?_, ?_⟩
      · intro q hq
        have := hc.1 q hq
        rw [List.getElem?_map]
        rw [List.getD_eq_getElem?_getD] at this
        cases e : rs[q.1]? with
        | none => rw [e] at this; cases this
        | some x =>
          rw [e] at this
          cases x <;> simp [TV.isSl] at this
          exact ⟨_, _, rfl⟩
      · intro q hq
        have hq : d.new = some q := hq
        have := hc.2 q (by rw [hq]; simp)
        rw [List.getElem?_map]
        rw [List.getD_eq_getElem?_getD] at this
        cases e : rs[q.1]? with
        | none => rw [e] at this; cases this
        | some x =>
          rw [e] at this
          cases x <;> simp [TV.isPt] at this
          rfl
      · simp only [List.map_append, List.map_map]
        rfl
  · cases h
theorem startT_av (d : TFD) (ins : List TV) : (d.startT ins).av = d.erase.start (ins.map TV.av) := by
  unfold TFD.startT FD.start
  have : d.erase.ref = d.ref := rfl
  rw [this]
  have : d.erase.ps = d.ps := rfl
  rw [this]
  cases d.ref with
  | none =>
    cases d.ps with
    | none => exact headT_av _ _
    | some q =>
      obtain ⟨i, k, s⟩ := q
      simp only [headT_av, List.map_cons, List.map_set]
      congr 2
      simp only [List.getD_eq_getElem?_getD, List.getElem?_map]
      cases ins[i]? <;> rfl
  | some q =>
    obtain ⟨i, m⟩ := q
    simp only [headT_av, List.map_cons, List.map_set]
    congr 2
    simp only [List.getD_eq_getElem?_getD, List.getElem?_map]
    cases ins[i]? <;> rfl
theorem run_ok {E:TEnv} {d:TFD} {ins outs:List TV} (h:d.run E ins=some outs):d.erase.runs E.env (ins.map TV.av) (outs.map TV.av):=by
 have h:ev (List TV) E d.m (d.startT ins) (endK d)=some outs:=h
 rw [←ev_eq] at h
 have:=ev_ok h
 unfold FD.runs
 rw [←startT_av]
 refine wpm_mono (fun e σ q=>?_) this
 obtain ⟨τ',rfl,q⟩:=q
 cases e with
 | exit i=>cases q
 | normal=>exact outT_av q
 | ret=>exact outT_av q
theorem spec_of {P:Program} {E:TEnv} (hE:∀f,SpecOK P E.env.gl f (Ctr.fs (E.fs f))) {f:Nat} {fn:Func} {d:TFD} (hf:P.funcs[f]?=some fn)
  (hc:chkF P (fun n=>(E.fs n).2) fn d.erase=true) {c:Ctr} (hG:∀ins outs,(c ins).holds outs→ins.length=d.np∧d.run E ins=some (outs++d.ps.toList.map fun q=>ins.getD q.1 .dead)):SpecOK P E.env.gl f (Ctr.fs (c,d.erase.sg)):=by
 refine spec_ok (E:=E.env) (sg:=fun n=>(E.fs n).2) (fun n=>⟨hE n,rfl⟩) hf hc rfl ?_
 rintro ins outs ⟨ti,to_,rfl,rfl,h⟩
 obtain ⟨h1,h2⟩:=hG ti to_ h
 refine ⟨by simpa [TFD.erase] using h1,?_⟩
 have:=run_ok h2
 rw [List.map_append,List.map_map] at this
 have e:d.ps.toList.map (TV.av ∘ fun q=>ti.getD q.1 .dead)=d.erase.ps.toList.map fun q=>(ti.map TV.av).getD q.1 .dead:=by
  show _=d.ps.toList.map _
  refine List.map_congr_left fun q _=>?_
  simp only [Function.comp_apply,List.getD_eq_getElem?_getD,List.getElem?_map]
  cases ti[q.1]? <;> rfl
 rwa [e] at this
end Go.Eng
namespace Go.Eng
open Go.RowKit
def Old (w:World):Reach:=fun b _=>b<w.heap.size
theorem calls_of_spec {P : Program} {gl : Nat → AV} {f : Nat} {c : Ctr} {sg : FSig} (hsg : sg = {}) (h : SpecOK P gl f (Ctr.fs (c, sg))) {ti : List TV} {xs : List Value} {w : World}
    (hgl : ∀ n, Rep (Old w) w (gl n) (.pointer (some ⟨n, 0, none⟩))) (hc : (c ti).holds [.b true]) (ha : RepT (Old w) w (ti.map TV.av) xs) :
    Calls P f ⟨xs⟩ w fun e w' => e = .returned (.bool true) ∧ Below w.heap.size w w' := by
  subst hsg
  refine (h.1 rfl w (Old w) (ti.map TV.av) [.v (.bool true)] xs ⟨ti, [.b true], rfl, rfl, hc⟩ (fun b o hb => hb) hgl ha).mono ?_
  rintro e w' ⟨x, R', rfl, hx, hr, ho⟩
  obtain ⟨rvs, tr, to_, tn, bn, br, cn, cr, h1, h2, h3, h4, _⟩ := ho
  refine ⟨?_, hx.os, hx.tape, hx.output, hx.size, fun k hk => hx.heap k hk id⟩
  congr 1
  rw [h2]
  have h1 : rvs.length = 1 := h1
  match rvs, h1 with
  | [y], _ =>
    have h4 : RepT R' w' [.v (.bool true)] [y] := h4
    cases h4 with
    | cons a _ => cases a; rfl
theorem u8_wf {n:Int} (h:(Lit.int .u8 n).wf=true):((UInt8.ofInt n).toNat:Int)=n:=by
 have hx:0≤n∧n≤255:=by simpa [Lit.wf,IntKind.min,IntKind.max,IntKind.signed,IntKind.bits] using h
 rw [u8_ofInt,wrap_u8'];omega
def noCtr:Ctr × FSig:=(fun _ => .err,{})
theorem spec_none {P:Program} {gl:Nat→AV} {f:Nat}:SpecOK P gl f (Ctr.fs noCtr):=by
 refine ⟨fun _=>?_,fun i s hps=>by cases hps⟩
 intro w R ins outs xs hg
 obtain ⟨ti,to_,_,_,h⟩:=hg
 exact h.elim
def envL (gl:Nat→TV) (l:List (Nat × (Ctr × FSig))):TEnv:=⟨fun n=>look l n,gl⟩
where look:List (Nat × (Ctr × FSig))→Nat→Ctr × FSig
 | [],_=>noCtr
 | (k,c) :: r,n=>cond (Nat.beq n k) c (look r n)
theorem env_ok {P : Program} {gl : Nat → TV} {l : List (Nat × (Ctr × FSig))} (h : ∀ p ∈ l, SpecOK P (fun n => (gl n).av) p.1 (Ctr.fs p.2)) : ∀ f, SpecOK P (envL gl l).env.gl f (Ctr.fs ((envL gl l).fs f)) := by
  intro f
  show SpecOK P (fun n => (gl n).av) f (Ctr.fs (envL.look l f))
  induction l with
  | nil => exact spec_none
  | cons p r ih =>
    obtain ⟨k, c⟩ := p
    simp only [envL.look]
    cases hb : Nat.beq f k with
    | true => rw [Nat.eq_of_beq_eq_true hb]; exact h (k, c) (List.mem_cons_self ..)
    | false => exact ih fun q hq => h q (List.mem_cons_of_mem _ hq)
theorem meets {P : Program} {gl : Nat → TV} {l : List (Nat × (Ctr × FSig))} (hE : ∀ p ∈ l, SpecOK P (fun n => (gl n).av) p.1 (Ctr.fs p.2)) {f : Nat} {d : TFD}
    (hc : ((P.funcs[f]?).any fun fn => chkF P (fun n => ((envL gl l).fs n).2) fn d.erase) = true) {c : Ctr} (hG : ∀ ins outs, (c ins).holds outs → ins.length = d.np ∧ d.run (envL gl l) ins = some (outs ++ d.ps.toList.map fun q => ins.getD q.1 .dead)) :
    SpecOK P (fun n => (gl n).av) f (Ctr.fs (c, d.erase.sg)) := by
  cases hf : P.funcs[f]? with
  | none => rw [hf] at hc; cases hc
  | some fn =>
    rw [hf] at hc
    exact spec_of (E := envL gl l) (env_ok hE) hf hc hG
theorem all_nil {A:Type} {p:A→Prop}:∀x∈([]:List A),p x:=fun _ h=>by cases h
theorem all_cons {A:Type} {p:A→Prop} {a:A} {l:List A} (h:p a) (t:∀x∈l,p x):∀x∈a :: l,p x:=fun x hx=>by
 rcases List.mem_cons.1 hx with rfl | hx
 ·exact h
 ·exact t x hx
end Go.Eng
namespace Go.Eng
open Go.RowKit
theorem spec_sub {P:Program} {gl:Nat→AV} {f:Nat} {sg:FSig} {c':Ctr} (h:∀ti to_,(c' ti).holds to_→∃c:Ctr,SpecOK P gl f (Ctr.fs (c,sg))∧(c ti).holds to_):SpecOK P gl f (Ctr.fs (c',sg)):=by
 refine ⟨fun hps w R ins outs xs hG h1 h2 h3=>?_,fun i s hps w R ins outs xs v es hG h1 h2 h3 h4 h5 h6 h7=>?_⟩
 ·obtain ⟨ti,to_,e1,e2,hc⟩:=hG
  obtain ⟨c,hs,hc⟩:=h ti to_ hc
  exact hs.1 hps w R ins outs xs ⟨ti,to_,e1,e2,hc⟩ h1 h2 h3
 ·obtain ⟨ti,to_,e1,e2,hc⟩:=hG
  obtain ⟨c,hs,hc⟩:=h ti to_ hc
  exact hs.2 i s hps w R ins outs xs v es ⟨ti,to_,e1,e2,hc⟩ h1 h2 h3 h4 h5 h6 h7
theorem spec_zero {P:Program} {gl:Nat→AV} {f:Nat} {sg:FSig} {c:Ctr} (h:∀ti to_,¬(c ti).holds to_):SpecOK P gl f (Ctr.fs (c,sg)) :=
 ⟨fun _ _ _ _ _ _ hG=>by obtain ⟨_,_,_,_,hc⟩:=hG;exact (h _ _ hc).elim,fun _ _ _ _ _ _ _ _ _ _ hG=>by obtain ⟨_,_,_,_,hc⟩:=hG;exact (h _ _ hc).elim⟩
theorem lk_eq (j k:Nat):(lk j=lk k)=(j=k):=propext ⟨lk_inj,fun e=>by rw [e]⟩
theorem lk_ne {k n:Nat} (h:n<1000000):(lk k=n)=False:=by have:=lk_ge k;simp;omega
theorem lk_ne' {k n:Nat} (h:n<1000000):(n=lk k)=False:=by have:=lk_ge k;simp;omega
section
variable {E:Env} {Q:MX→Sg→Prop} {σ:Sg}
theorem rg {m:MOp} {ms:List MOp} {ws:List AV} (hg:m.gd=none) (hs:sem E m.k (m.rs.map (Opd.ev E σ)) ws) (hl:ws.length=m.ds.length) (h:wpm E (.reg ms) Q (updL σ m.ds ws)):wpm E (.reg (m :: ms)) Q σ:=by
 obtain ⟨σ',h1,h2⟩:=h
 refine ⟨σ',⟨updL σ m.ds ws,⟨ws,?_,hl,rfl⟩,h1⟩,h2⟩
 rw [hg];exact hs
theorem rg_end (h:Q .normal σ):wpm E (.reg []) Q σ:=⟨σ,rfl,h⟩
theorem sq {a b:M} (h:wpm E a (fun e σ'=>match e with | .normal=>wpm E b Q σ' | e=>Q e σ') σ):wpm E (.seq a b) Q σ:=by
 show wpm E a _ σ
 refine wpm_mono (fun e σ' q=>?_) h
 cases e with
 | normal=>exact ⟨σ',fun _ => .inl rfl,q⟩
 | exit i=>exact q
 | ret=>exact q
end
def cloneA (s:Nat):M := .seq (.reg [⟨.mv,[.s 0],[3],none⟩,⟨.nls,[.s 3],[4],none⟩]) (.cond (.s 4) [] (.seq (.reg [⟨.nl 101 s,[.s (lk 101)],[2,lk 101],none⟩]) .ret) .skip)
def cloneB (s b:Nat):M := .seq (.reg [⟨.blt s 0 102,[.s (lk 102)],[5,lk 102],none⟩,⟨.mv,[.s 0],[6],none⟩,
 ⟨.ap 102 103 s b,[.s 5,.s 6,.s (lk 102),.s (lk 103)],[7,lk 102,lk 103],none⟩,⟨.mv,[.s 7],[2],none⟩]) .ret
def cloneD (s b:Nat):FD:={ np:=1,m := .seq (.reg [⟨.mv,[.c (.sl s [])],[2],none⟩]) (.seq (cloneA s) (cloneB s b)),res:=[.t 2],own:=[(0,s)] }
theorem clone_runs (E : Env) (s b : Nat) (es : List AV) (hc : ∀ x ∈ es, x.cells.length = s) (h1 : es.length ≤ maxLen) (h2 : es.length * b ≤ 140737488355328) : (cloneD s b).runs E [.sl s es] [.sl s es] := by
  have hB : ∀ σ : Sg, σ 0 = .sl s es → wpm E (cloneB s b) (fun e σ => match e with | .exit _ => False | _ => (cloneD s b).OutS σ [.sl s es]) σ := by
    intro σ h0
    refine sq (rg (ws := [.sl s [], .dead]) rfl ⟨rfl, fun x hx => (by cases hx), rfl⟩ rfl ?_)
    refine rg (ws := [.sl s es]) rfl (by simp [sem, Opd.ev, updL, upd, lk_eq, lk_ne, lk_ne', h0]) rfl ?_
    refine rg (ws := [.sl s es, .dead, .dead]) rfl ⟨rfl, rfl, hc, by simpa using h1, by simpa using h2, by simp⟩ rfl ?_
    refine rg (ws := [.sl s es]) rfl rfl rfl ?_
    refine rg_end ?_
    exact ⟨[.sl s es], rfl, fun q hq => (by simp [cloneD] at hq; subst hq; exact ⟨s, es, rfl⟩), fun q hq => (by cases hq), rfl⟩
  refine sq (rg (ws := [.sl s []]) rfl rfl rfl (rg_end ?_))
  refine sq ?_
  refine sq (rg (ws := [.sl s es]) rfl rfl rfl ?_)
  cases es with
  | nil =>
    refine rg (ws := [.ab]) rfl rfl rfl (rg_end ?_)
    refine .inr ⟨rfl, ?_, ?_⟩
    · refine sq (rg (ws := [.sl s [], .dead]) rfl rfl rfl (rg_end ?_))
      exact ⟨[.sl s []], rfl, fun q hq => (by simp [cloneD] at hq; subst hq; exact ⟨s, [], rfl⟩), fun q hq => (by cases hq), rfl⟩
    · exact hB _ rfl
  | cons e es =>
    refine rg (ws := [.v (.bool false)]) rfl rfl rfl (rg_end ?_)
    refine .inl ⟨false, rfl, fun h => (by cases h), fun _ => ?_⟩
    exact hB _ rfl
def clonePA (s:Nat):M := .seq (.reg [⟨.mv,[.s 0],[3],none⟩,⟨.pnl 999999,[.s 3,.s (lk 999999)],[4],none⟩]) (.cond (.s 4) [] (.seq (.reg [⟨.mv,[.c (.sl s [])],[2],none⟩]) .ret) .skip)
def clonePB (s b:Nat):M := .seq (.reg [⟨.blt s 0 102,[.s (lk 102)],[5,lk 102],none⟩,⟨.mv,[.s 0],[6],none⟩,
 ⟨.apq 102 103 999999 s b,[.s 5,.s 6,.s (lk 102),.s (lk 103),.s (lk 999999)],[7,lk 102,lk 103],none⟩,⟨.mv,[.s 7],[2],none⟩]) .ret
def clonePD (s b:Nat):FD:={ np:=1,m := .seq (.reg [⟨.mv,[.c (.sl s [])],[2],none⟩]) (.seq (clonePA s) (clonePB s b)),res:=[.t 2],ps:=some (0,999999,s) }
theorem cloneP_runs (E : Env) (s b : Nat) (es : List AV) (h1 : es.length ≤ maxLen) (h2 : es.length * b ≤ 140737488355328) : (clonePD s b).runs E [.sl s es] ([.sl s es] ++ [.sl s es]) := by
  have hB : ∀ σ : Sg, σ 0 = .pt → σ (lk 999999) = .sl s es → wpm E (clonePB s b) (fun e σ => match e with | .exit _ => False | _ => (clonePD s b).OutS σ ([.sl s es] ++ [.sl s es])) σ := by
    intro σ h0 h9
    refine sq (rg (ws := [.sl s [], .dead]) rfl ⟨rfl, fun x hx => (by cases hx), rfl⟩ rfl ?_)
    refine rg (ws := [.pt]) rfl (by simp [sem, Opd.ev, updL, upd, lk_eq, lk_ne, lk_ne', h0]) rfl ?_
    refine rg (ws := [.sl s es, .dead, .dead]) rfl ?_ rfl ?_
    · simp [sem, Opd.ev, updL, upd, lk_eq, lk_ne, lk_ne', h9]
      exact ⟨h1, h2⟩
    refine rg (ws := [.sl s es]) rfl rfl rfl ?_
    refine rg_end ?_
    refine ⟨[.sl s es], rfl, fun q hq => (by cases hq), fun q hq => (by cases hq), ?_⟩
    simp [clonePD, updL, upd, lk_eq, lk_ne, lk_ne', h9]
  have hs0 : (clonePD s b).start [.sl s es] 0 = .pt := by simp [clonePD, FD.start, head, updL, upd, lk_eq, lk_ne, lk_ne', List.range, List.range.loop]
  have hs9 : (clonePD s b).start [.sl s es] (lk 999999) = .sl s es := by simp [clonePD, FD.start, head, updL, upd, lk_eq, lk_ne, lk_ne', List.range, List.range.loop]
  have go : ∀ σ : Sg, σ 0 = .pt → σ (lk 999999) = .sl s es → wpm E (clonePD s b).m (fun e σ => match e with | .exit _ => False | _ => (clonePD s b).OutS σ ([.sl s es] ++ [.sl s es])) σ := by
    intro σ h0 h9
    refine sq (rg (ws := [.sl s []]) rfl rfl rfl (rg_end ?_))
    refine sq ?_
    refine sq (rg (ws := [.pt]) rfl (by simp [sem, Opd.ev, updL, upd, h0]) rfl ?_)
    cases es with
    | nil =>
      refine rg (ws := [.ab]) rfl (by simp [sem, Opd.ev, updL, upd, lk_eq, lk_ne, lk_ne', h9]) rfl (rg_end ?_)
      refine .inr ⟨rfl, ?_, ?_⟩
      · refine sq (rg (ws := [.sl s []]) rfl rfl rfl (rg_end ?_))
        refine ⟨[.sl s []], rfl, fun q hq => (by cases hq), fun q hq => (by cases hq), ?_⟩
        simp [clonePD, updL, upd, lk_eq, lk_ne, lk_ne', h9]
      · exact hB _ (by simp [updL, upd, h0]) (by simp [updL, upd, lk_eq, lk_ne, lk_ne', h9])
    | cons e es =>
      refine rg (ws := [.v (.bool false)]) rfl (by simp [sem, Opd.ev, updL, upd, lk_eq, lk_ne, lk_ne', h9]) rfl (rg_end ?_)
      refine .inl ⟨false, rfl, fun h => (by cases h), fun _ => ?_⟩
      exact hB _ (by simp [updL, upd, h0]) (by simp [updL, upd, lk_eq, lk_ne, lk_ne', h9])
  exact go _ hs0 hs9
def cloneC (t:STy) (b:Nat):Ctr:=fun l=>match l with
 | [.sl t' l]=>if t'=t then .if_ (apOK l.length b) [.sl t' l] else .err
 | _ => .err
theorem STy.av_len (t:STy) (l:List t.El):∀x∈l.map t.av,x.cells.length=t.size:=by
 intro x hx;obtain ⟨y,_,rfl⟩:=List.mem_map.1 hx;exact (t.av_plain y).2
theorem clone_ok {P : Program} {gl : Nat → AV} {t : STy} {b f : Nat} (hc : ((P.funcs[f]?).any fun fn => chkF P (fun _ => {}) fn (cloneD t.size b)) = true) : SpecOK P gl f (Ctr.fs (cloneC t b, { own := [(0, t.size)] })) := by
  cases hf : P.funcs[f]? with
  | none => rw [hf] at hc; cases hc
  | some fn =>
    rw [hf] at hc
    refine spec_ok (E := ⟨fun _ => Ctr.fs noCtr, gl⟩) (sg := fun _ => {}) (fun n => ⟨spec_none, rfl⟩) hf hc rfl ?_
    rintro ins outs ⟨ti, to_, rfl, rfl, h⟩
    replace h : (cloneC t b ti).holds to_ := h
    unfold cloneC at h
    split at h
    · rename_i t' l
      split at h
      · rename_i e
        subst e
        obtain ⟨h1, rfl⟩ := h
        obtain ⟨h1, h2⟩ := apOK_iff.1 h1
        refine ⟨rfl, ?_⟩
        exact clone_runs _ _ _ _ (STy.av_len _ l) (by simpa using h1) (by simpa using h2)
      · exact h.elim
    · exact h.elim
theorem cloneP_ok {P : Program} {gl : Nat → AV} {t : STy} {b f : Nat} (hc : ((P.funcs[f]?).any fun fn => chkF P (fun _ => {}) fn (clonePD t.size b)) = true) : SpecOK P gl f (Ctr.fs (cloneC t b, { ps := some (0, t.size) })) := by
  cases hf : P.funcs[f]? with
  | none => rw [hf] at hc; cases hc
  | some fn =>
    rw [hf] at hc
    refine spec_ok (E := ⟨fun _ => Ctr.fs noCtr, gl⟩) (sg := fun _ => {}) (fun n => ⟨spec_none, rfl⟩) hf hc rfl ?_
    rintro ins outs ⟨ti, to_, rfl, rfl, h⟩
    replace h : (cloneC t b ti).holds to_ := h
    unfold cloneC at h
    split at h
    · rename_i t' l
      split at h
      · rename_i e
        subst e
        obtain ⟨h1, rfl⟩ := h
        obtain ⟨h1, h2⟩ := apOK_iff.1 h1
        refine ⟨rfl, ?_⟩
        exact cloneP_runs _ _ _ _ (by simpa using h1) (by simpa using h2)
      · exact h.elim
    · exact h.elim
end Go.Eng
namespace Go.Eng
open Go.RowKit
def Opens (P:Program) (n:Nat) (t:TypeId) (A:Type) (g:A→List AV):Prop :=
 ∀(H:Type) (enc:TypeId × Value→H) (w:World) (base:Nat) (spare:Nat→Bool) (held:Bool) (cs:List Value) (x:DataW H × List MemPlace),DataW.trod enc P w base spare held n t cs=some x→∃a:A,RepL (Old w) w (g a) cs
section
variable {P:Program} {n:Nat} {t:TypeId}
theorem opens_int {k:IntKind} (ht:P.underlying t=some (.int k)):Opens P n t Int fun m=>[.v (.int k m)]:=by
 intro H enc w base spare held cs x h
 obtain ⟨m,rfl,_,_⟩:=DataW.trod_int ht h
 exact ⟨m,.cons rfl (.v _) .nil⟩
theorem u64_wf {n:Int} (h:(Lit.int .u64 n).wf=true):((UInt64.ofInt n).toNat:Int)=n:=by
 have hx:0≤n∧n≤18446744073709551615:=by simpa [Lit.wf,IntKind.min,IntKind.max,IntKind.signed,IntKind.bits] using h
 have e:IntKind.u64.wrap n=n % (18446744073709551616:Nat):=by simp [IntKind.wrap,IntKind.bits,IntKind.signed]
 rw [u64_ofInt,e];omega
theorem opens_u64 (ht:P.underlying t=some (.int .u64)):Opens P n t UInt64 fun m=>[u64AV m]:=by
 intro H enc w base spare held cs x h
 obtain ⟨m,rfl,_,hw⟩:=DataW.trod_int ht h
 refine ⟨UInt64.ofInt m,.cons rfl ?_ .nil⟩
 rw [u64AV,u64_wf hw];exact .v _
theorem opens_u8 (ht:P.underlying t=some (.int .u8)):Opens P n t UInt8 fun m=>[byteAV m]:=by
 intro H enc w base spare held cs x h
 obtain ⟨m,rfl,_,hw⟩:=DataW.trod_int ht h
 refine ⟨UInt8.ofInt m,.cons rfl ?_ .nil⟩
 rw [byteAV,u8_wf hw];exact .v _
theorem opens_str (ht:P.underlying t=some .string):Opens P n t Str fun m=>[strAV m]:=by
 intro H enc w base spare held cs x h
 obtain ⟨m,rfl,_,_⟩:=DataW.trod_string ht h
 exact ⟨m.data.toList,.cons rfl (.v _) .nil⟩
theorem opens_slice {e : TypeId} {A : Type} {av : A → AV} {s : Nat} (ht : P.underlying t = some (.slice e)) (hs : P.cellsOf e = s) (hpos : 0 < s) (hav : ∀ a, (av a).cells.length = s) (he : ∀ m, m < n → Opens P m e A fun a => (av a).cells) : Opens P n t (List A) fun l => [.sl s (l.map av)] := by
  intro H enc w base spare held cs x h
  rcases DataW.trod_slice ht h with ⟨rfl, _⟩ | ⟨a, len, cap, elems, rest, m, rfl, rfl, _, _, h2, h3, h4, h5, _, _⟩
  · exact ⟨[], .cons rfl (.nil _) .nil⟩
  · by_cases h0 : len = 0
    · subst h0; exact ⟨[], .cons rfl (.em _ h3) .nil⟩
    · have get : ∀ i, i < len → ∃ ys, w.cells? base (a.add (i * s)) s = some ys ∧ ∃ y : A, RepL (Old w) w (av y).cells ys := fun i hi => by
        have := h5 i hi
        rw [hs] at this
        have hlt : i < elems.length := by omega
        rw [List.getElem?_eq_getElem hlt] at this
        obtain ⟨ys, h6, h7⟩ := Option.bind_eq_some_iff.1 this
        exact ⟨ys, h6, he m (Nat.lt_succ_self m) H enc w base spare held ys _ h7⟩
      have hspot : a.spot = none := by
        obtain ⟨ys, h6, _⟩ := get 0 (by omega)
        obtain ⟨_, h7, h8⟩ := World.cells?_some h6
        have h9 := h8 0 hpos
        cases hy : ys[0]? with
        | none => rw [List.getElem?_eq_none_iff] at hy; omega
        | some y => rw [hy] at h9; simpa [Addr.add] using World.cell?_spot h9
      obtain ⟨b, off, spot⟩ := a
      simp only at hspot
      subst hspot
      have key : ∀ k i, i + k = len → ∃ l : List A, l.length = k ∧ RepE (Old w) w s (l.map av) b (off + i * s) := by
        intro k
        induction k with
        | zero => exact fun i _ => ⟨[], rfl, .nil _ _ _⟩
        | succ k ih =>
          intro i hi
          obtain ⟨l, hl, hE⟩ := ih (i + 1) (by omega)
          obtain ⟨ys, h6, y, h7⟩ := get i (by omega)
          obtain ⟨_, h8, h9⟩ := World.cells?_some h6
          refine ⟨y :: l, by simp [hl], .cons (RepAt.write (hav y) h7 (fun j hj => ?_) (fun j z hz => ?_)) ?_⟩
          · have h10 := h9 j hj
            have hjy : j < ys.length := by omega
            rw [List.getElem?_eq_getElem hjy] at h10
            have hlt : b < w.heap.size := by
              by_cases hlt : b < w.heap.size
              · exact hlt
              · have : w.heap[b]? = none := Array.getElem?_eq_none (by omega)
                rw [addr_add, addr_add] at h10
                simp only [World.cell?, this] at h10
                cases h10
            exact hlt
          · have hj : j < s := by have := (List.getElem?_eq_some_iff.1 hz).1; omega
            have h10 := h9 j hj
            rw [hz, addr_add, addr_add] at h10
            exact h10
          · rw [show off + i * s + s = off + (i + 1) * s by rw [Nat.succ_mul]; omega]; exact hE
      obtain ⟨l, hl, hE⟩ := key len 0 (by omega)
      refine ⟨l, .cons rfl (.sl (by simp [hl]) h2 h3 ?_) .nil⟩
      simpa using hE
def OpensRow (P:Program) (n:Nat) (fs:List (TypeId × Nat)) (off:Nat) (A:Type) (g:A→List AV):Prop :=
 ∀(H:Type) (enc:TypeId × Value→H) (w:World) (base:Nat) (spare:Nat→Bool) (held:Bool) (cs:List Value),(∀f∈fs,∃x:DataW H × List MemPlace,DataW.trod enc P w base spare held n f.1 ((cs.drop f.2).take (P.cellsOf f.1))=some x)→cs.length=off+(fs.map fun f=>P.cellsOf f.1).sum→∃a:A,RepL (Old w) w (g a) (cs.drop off)
theorem row_nil {off:Nat}:OpensRow P n [] off Unit fun _=>[]:=by
 intro H enc w base spare held cs _ hl
 refine ⟨(),?_⟩
 rw [List.drop_of_length_le (by simp at hl;omega)];exact .nil
theorem row_cons {t:TypeId} {fs:List (TypeId × Nat)} {off c:Nat} {A B:Type} {g:A→List AV} {g':B→List AV} (hc:P.cellsOf t=c) (h:Opens P n t A g) (hr:OpensRow P n fs (off+c) B g'):OpensRow P n ((t,off) :: fs) off (A × B) fun p=>g p.1++g' p.2:=by
 subst hc
 intro H enc w base spare held cs hx hl
 obtain ⟨x,h1⟩:=hx (t,off) (List.mem_cons_self ..)
 obtain ⟨a,ha⟩:=h H enc w base spare held _ x h1
 obtain ⟨b,hb⟩:=hr H enc w base spare held cs (fun f' hf'=>hx f' (List.mem_cons_of_mem _ hf')) (by simp only [List.map_cons,List.sum_cons] at hl;omega)
 refine ⟨(a,b),?_⟩
 have e:cs.drop off=(cs.drop off).take (P.cellsOf t)++cs.drop (off+P.cellsOf t):=by
  rw [←List.drop_drop];exact (List.take_append_drop _ _).symm
 rw [e];exact ha.append hb
theorem opens_struct {fs:Array Field} {l:List (TypeId × Nat)} {A B:Type} {g:A→List AV} {g':B→List AV} (ht:P.underlying t=some (.struct fs)) (hl:(fs.toList.map fun f=>(f.type,f.offset))=l) (hc:P.cellsOf t=(l.map fun f=>P.cellsOf f.1).sum) (hr:∀m,m<n→OpensRow P m l 0 A g) (f:A→B) (hf:∀a,g a=g' (f a)):Opens P n t B g':=by
 intro H enc w base spare held cs x h
 obtain ⟨xs,m,rfl,_,h1,h2,h3⟩:=DataW.trod_struct ht h
 obtain ⟨a,ha⟩:=hr m (Nat.lt_succ_self m) H enc w base spare held cs (fun p hp=>by
  rw [←hl] at hp
  obtain ⟨f,hf,rfl⟩:=List.mem_map.1 hp
  obtain ⟨i,hi⟩:=List.getElem?_of_mem hf
  have hlt:=(List.getElem?_eq_some_iff.1 hi).1
  have:=h3 i f (by simpa using hi)
  have hlt':i<xs.length:=by rw [h2];simpa using hlt
  rw [List.getElem?_eq_getElem hlt'] at this
  exact ⟨_,this⟩) (by rw [h1,hc];simp)
 exact ⟨f a,by rw [←hf];simpa using ha⟩
def fieldsOf (P:Program) (t:TypeId):Option (List (TypeId × Nat)):=match P.underlying t with
 | some (.struct fs)=>some (fs.toList.map fun f=>(f.type,f.offset))
 | _=>none
theorem fieldsOf_spec {l:List (TypeId × Nat)} (h:fieldsOf P t=some l):∃fs,P.underlying t=some (.struct fs)∧(fs.toList.map fun f=>(f.type,f.offset))=l:=by
 unfold fieldsOf at h
 split at h
 ·rename_i fs e;cases h;exact ⟨fs,e,rfl⟩
 ·cases h
structure ValTys (P:Program) (tv tf tk ti tu ts tb ty:TypeId):Prop where
 v:fieldsOf P tv=some [(ti,0),(tu,1),(tu,2),(tu,3),(ts,4),(ts,5),(ti,6),(tb,7),(tk,8)]
 f:fieldsOf P tf=some [(ts,0),(tv,1)]
 k:P.underlying tk=some (.slice tf)
 i:P.underlying ti=some (.int .i64)
 u:P.underlying tu=some (.int .u64)
 s:P.underlying ts=some .string
 b:P.underlying tb=some (.slice ty)
 y:P.underlying ty=some (.int .u8)
 cv:P.cellsOf tv=9
 cf:P.cellsOf tf=10
 ck:P.cellsOf tk=1
 ci:P.cellsOf ti=1
 cu:P.cellsOf tu=1
 cs:P.cellsOf ts=1
 cb:P.cellsOf tb=1
 cy:P.cellsOf ty=1
def Val.avs (v:Val):List AV:=(Val.cells v).map TV.av
theorem opens_bytes {y:TypeId} (ht:P.underlying t=some (.slice y)) (hy:P.underlying y=some (.int .u8)) (hc:P.cellsOf y=1):Opens P n t Str fun l=>[bytesAV l] :=
 opens_slice (av:=byteAV) ht hc (by omega) (fun _=>rfl) fun _ _=>opens_u8 hy
theorem ValTys.val {tv tf tk ti tu ts tb ty : TypeId} (T : ValTys P tv tf tk ti tu ts tb ty) : ∀ n, Opens P n tv Val Val.avs ∧ Opens P n tf Fld fun f => (fldAV f).cells := by
  intro n
  induction n using Nat.strongRecOn with
  | _ n ih =>
    have hv : ∀ m, m ≤ n → (∀ k, k < m → Opens P k tf Fld fun f => (fldAV f).cells) → Opens P m tv Val Val.avs := fun m hm ihf => by
      obtain ⟨fs, h1, h2⟩ := fieldsOf_spec T.v
      have R := fun (k : Nat) (hk : k < m) => (row_cons (off := 0) T.ci (opens_int T.i) (row_cons T.cu (opens_u64 T.u) (row_cons T.cu (opens_u64 T.u) (row_cons T.cu (opens_u64 T.u) (row_cons T.cs (opens_str T.s) (row_cons T.cs (opens_str T.s) (row_cons T.ci (opens_int T.i) (row_cons T.cb (opens_bytes T.b T.y T.cy)
          (row_cons T.ck (opens_slice (av := fldAV) T.k T.cf (by omega) (fun f => by cases f; rfl) fun j hj => ihf j (by omega)) row_nil)))))))) : OpensRow P k _ 0 _ _)
      exact opens_struct h1 h2 (by simp [T.cv, T.ci, T.cu, T.cs, T.cb, T.ck]) R (fun a => (⟨a.1, a.2.1, a.2.2.1, a.2.2.2.1, a.2.2.2.2.1, a.2.2.2.2.2.1, a.2.2.2.2.2.2.1, a.2.2.2.2.2.2.2.1, a.2.2.2.2.2.2.2.2.1⟩ : Val)) (fun a => rfl)
    refine ⟨hv n (Nat.le_refl n) fun k hk => (ih k hk).2, ?_⟩
    obtain ⟨fs, h1, h2⟩ := fieldsOf_spec T.f
    have R := fun (k : Nat) (hk : k < n) => (row_cons (off := 0) T.cs (opens_str T.s) (row_cons T.cv (hv k (by omega) fun j hj => (ih j (by omega)).2) row_nil) : OpensRow P k _ 0 _ _)
    exact opens_struct h1 h2 (by simp [T.cf, T.cv, T.cs]) R (fun a => Fld.of a.1 a.2.1) (fun a => by
      simp [fldAV, Fld.of, AV.cells, Val.avs, Val.cells, TV.av, fldsAV_map, STy.size, STy.av, strAV, iAV, u64AV, bytesAV])
theorem ValTys.rep {tv tf tk ti tu ts tb ty:TypeId} (T:ValTys P tv tf tk ti tu ts tb ty) {H:Type} {enc:TypeId × Value→H} {w:World} {base:Nat} {spare:Nat→Bool} {held:Bool} {cs:Array Value} {d:DataW H} {p:List MemPlace} (h:DataW.Trod enc P w base spare held tv (.agg cs) d p) :
  ∃v:Val,Rep (Old w) w (TV.av (.ag (Val.cells v))) (.agg cs):=by
 obtain ⟨n,h⟩:=h
 obtain ⟨v,hv⟩:=(T.val n).1 H enc w base spare held _ _ h
 refine ⟨v,?_⟩
 simp only [TV.av,TV.avs_map]
 exact .ag (by have hv:RepL (Old w) w (v.cells.map TV.av) _:=hv;simpa [Value.cells] using hv)
end
end Go.Eng
namespace Go.Eng
open Go.IntWalk
theorem ck_of {R:Type} {p:Bool} {x:Option R} (h:p=true):ck p x=x:=by rw [h];rfl
theorem ck4 (a b:Bool):(!a || (a&&(b || (a&&!b))))=true:=by cases a <;> cases b <;> rfl
theorem ck5 (a b:Bool):(!a || (a&&(!b || (a&&b))))=true:=by cases a <;> cases b <;> rfl
theorem maxLen_eq:maxLen=9223372036854775807:=by decide
theorem big_len {n:Nat} (h:n≤1099511627776):lenOK n=true:=lenOK_iff.2 (by rw [maxLen_eq];omega)
theorem big_ap {n b:Nat} (h:n * b≤140737488355328) (h2:n≤140737488355328):apOK n b=true:=apOK_iff.2 ⟨by rw [maxLen_eq];omega,h⟩
theorem idx_ok {n:Int} {l:Nat} (h0:0≤n) (h1:n<l):idxOK n l=true:=idxOK_iff.2 ⟨h0,h1⟩
theorem ofInt_nat64 (n:Nat):(BitVec.ofInt 64 (n:Int))=BitVec.ofNat 64 n:=by
 apply BitVec.eq_of_toNat_eq;rw [BitVec.toNat_ofInt,BitVec.toNat_ofNat];omega
theorem and_i64 (a b:Nat) (ha:a<9223372036854775808) (hb:b<9223372036854775808):intBitsV .and .i64 a b=((a &&& b:Nat):Int):=by
 have h1:a &&& b≤a:=Nat.and_le_left
 have e:intBitsV .and .i64 a b=IntKind.i64.wrap (((BitVec.ofInt 64 (a:Int) &&& BitVec.ofInt 64 (b:Int)).toNat:Nat):Int):=rfl
 rw [e,ofInt_nat64,ofInt_nat64,BitVec.toNat_and,BitVec.toNat_ofNat,BitVec.toNat_ofNat,Nat.mod_eq_of_lt (by omega),Nat.mod_eq_of_lt (by omega)]
 exact i64_in _ (by omega)
theorem or_lt {a b k:Nat} (ha:a<2 ^ k) (hb:b<2 ^ k):a ||| b<2 ^ k:=Nat.or_lt_two_pow ha hb
theorem or_i64 (a b:Nat) (ha:a<9223372036854775808) (hb:b<9223372036854775808):intBitsV .or .i64 a b=((a ||| b:Nat):Int):=by
 have h1:a ||| b<9223372036854775808:=or_lt (k:=63) (by simpa using ha) (by simpa using hb)
 have e:intBitsV .or .i64 a b=IntKind.i64.wrap (((BitVec.ofInt 64 (a:Int) ||| BitVec.ofInt 64 (b:Int)).toNat:Nat):Int):=rfl
 rw [e,ofInt_nat64,ofInt_nat64,BitVec.toNat_or,BitVec.toNat_ofNat,BitVec.toNat_ofNat,Nat.mod_eq_of_lt (by omega),Nat.mod_eq_of_lt (by omega)]
 exact i64_in _ (by omega)
theorem or_add {a b k:Nat} (hb:b<2 ^ k):(a * 2 ^ k) ||| b=a * 2 ^ k+b:=by
 rw [←Nat.shiftLeft_eq,Nat.shiftLeft_add_eq_or_of_lt hb]
theorem drop_cons {α:Type} {l:List α} {i:Nat} (hi:i<l.length) (d:α):l.drop i=l.getD i d :: l.drop (i+1):=by
 rw [List.drop_eq_getElem_cons hi,List.getD_eq_getElem?_getD,List.getElem?_eq_getElem hi];rfl
theorem u64_nat (n:Nat):(UInt64.ofInt (n:Int)).toNat=n % 18446744073709551616:=by
 have h:=u64_ofInt (n:Int)
 rw [wrap_u64'] at h;omega
theorem u8_nat (n:Nat):(UInt8.ofInt (n:Int)).toNat=n % 256:=by
 have h:=u8_ofInt (n:Int)
 rw [wrap_u8'] at h;omega
end Go.Eng
namespace Go.Eng
namespace Utf
def isRune (r:Int):Bool:=decide (0≤r∧r≤1114111∧(r<55296∨57343<r))
def cont:Nat→Nat→Str→Option Nat
 | r,0,_=>some r
 | _,_+1,[]=>none
 | r,k+1,c :: l=>if 128≤c.toNat∧c.toNat<192 then cont (r * 64+(c.toNat - 128)) k l else none
def multi (r more least:Nat) (l:Str):Int × Int :=
 match cont r more l with
 | some r=>if r<least∨isRune r=false then (0,0) else ((r:Int),(more+1:Int))
 | none=>(0,0)
def rune : Str → Int × Int
  | [] => (0, 0)
  | c :: l =>
    if c.toNat < 128 then ((c.toNat : Int), 1)
    else if 192 ≤ c.toNat ∧ c.toNat < 224 then multi (c.toNat - 192) 1 128 l
    else if 224 ≤ c.toNat ∧ c.toNat < 240 then multi (c.toNat - 224) 2 2048 l
    else if 240 ≤ c.toNat ∧ c.toNat < 248 then multi (c.toNat - 240) 3 65536 l
    else (0, 0)
def runeAt (b:Str) (i:Int):Int × Int:=if i<0∨(b.length:Int)≤i then (0,0) else rune (b.drop i.toNat)
def lookN:Nat→Str→Nat × Nat
 | 0,_=>(0,0)
 | n+1,l=>if (rune l).2=0 then (0,0) else let q:=lookN n (l.drop (rune l).2.toNat);(q.1+(rune l).2.toNat,q.2+1)
def look (l:Str):Nat × Nat:=lookN l.length l
def whole (l:Str):Bool:=decide ((look l).1=l.length)
def zero (l:Str):Bool:=l.contains 0
end Utf
end Go.Eng
namespace Go.Eng
mutual
def Fld.bulk:Fld→Nat
 | .mk n _ _ _ _ t m _ y ks=>1+n.length+t.length+m.length+y.length+Fld.bulks ks
def Fld.bulks:List Fld→Nat
 | []=>0
 | f :: r=>Fld.bulk f+Fld.bulks r
end
namespace Tree
def nameTable:List Str:=[[],[100,111,117,98,108,101],[115,116,114,105,110,103],[100,111,99,117,109,101,110,116],[97,114,114,97,121],[98,105,110,97,114,121],[117,110,100,101,102,105,110,101,100],[111,98,106,101,99,116,105,100],[98,111,111,108],[100,97,116,101],[110,117,108,108],[114,101,103,101,120],[112,111,105,110,116,101,114],[99,111,100,101],[115,121,109,98,111,108],[115,99,111,112,101,100],[105,110,116,51,50],[116,105,109,101,115,116,97,109,112],[105,110,116,54,52],[100,101,99,105,109,97,108]]
def name (k:Int):Str :=
 if k=127 then [109,97,120,107,101,121]
 else if k=255 then [109,105,110,107,101,121]
 else if k<0∨20≤k then []
 else nameTable.getD k.toNat []
def kinds:List Int:=[1,2,3,4,5,6,7,8,9,10,11,12,13,14,15,16,17,18,19,127,255]
def kind (s:Str):Int × Bool :=
 match kinds.find? (fun k=>decide (name k=s)) with
 | some k=>(k,true)
 | none=>(0,false)
def hasN (i:Nat) (k:Int):Bool :=
 match i with
 | 0=>decide (k∈[1,9,17,18,16,8])
 | 1=>decide (k=19)
 | 2=>decide (k∈[2,13,14,11,12,15])
 | 3=>decide (k=11)
 | 4=>decide (k=5)
 | 5=>decide (k∈[5,7,12])
 | _=>decide (k∈[3,4,15])
def fieldsOK (v:Val):Bool :=
 (hasN 0 v.kind || decide (v.bits=0))&&(hasN 1 v.kind || (decide (v.high=0)&&decide (v.low=0)))&&(hasN 2 v.kind || decide (v.text=[]))&&(hasN 3 v.kind || decide (v.more=[])) &&
 (hasN 4 v.kind || decide (v.sub=0))&&(hasN 5 v.kind || decide (v.bytes=[]))&&(hasN 6 v.kind || decide (v.kids=[])) &&
 (!decide (v.kind=16) || decide (v.bits<4294967296))&&(!decide (v.kind=8) || decide (v.bits<2))&&(decide (0≤v.sub)&&decide (v.sub≤255))&&(!(decide (v.kind=7) || decide (v.kind=12)) || decide (v.bytes.length=12))
def wholeT (s:Str) (plain:Bool):Bool:=Utf.whole s&&!(plain&&Utf.zero s)
def own (v:Val):Int :=
 if name v.kind=[] then 5
 else if fieldsOK v=false then 1
 else if wholeT v.text (decide (v.kind=11))=false∨wholeT v.more (decide (v.kind=11))=false then 4
 else 0
def ownN (v:Val) (n:Str):Int:=if own v≠0 then own v else if wholeT n true=false then 4 else 0
mutual
def chkF:Fld→List Int→List Int × Int
 | .mk n k b h l t m s y ks,p=>if ownN ⟨k,b,h,l,t,m,s,y,ks⟩ n≠0 then (p,ownN ⟨k,b,h,l,t,m,s,y,ks⟩ n) else chkL ks 0 p
def chkL:List Fld→Nat→List Int→List Int × Int
 | [],_,_=>([],0)
 | f :: r,i,p=>if (chkF f (p++[(i:Int)])).2≠0 then chkF f (p++[(i:Int)]) else chkL r (i+1) p
end
mutual
def count:Fld→Nat
 | .mk _ _ _ _ _ _ _ _ _ ks=>1+countL ks
def countL:List Fld→Nat
 | []=>0
 | f :: r=>count f+countL r
end
mutual
def depth:Fld→Nat
 | .mk _ k _ _ _ _ _ _ _ ks=>if k=3∨k=4∨k=15 then depthL ks+1 else 0
def depthL:List Fld→Nat
 | []=>0
 | f :: r=>max (depth f) (depthL r)
end
noncomputable def same (a b:Val):Bool:=@decide (a=b) (Classical.propDecidable _)
def ownSame (a b:Val):Bool:=decide (a.kind=b.kind)&&decide (a.bits=b.bits)&&decide (a.high=b.high)&&decide (a.low=b.low)&&decide (a.text=b.text)&&decide (a.more=b.more)&&decide (a.sub=b.sub)&&decide (a.bytes=b.bytes)
end Tree
namespace Book
def room (left:Int):List Int→Int
 | []=>left
 | s :: r=>if left<0∨left<s then -1 else room (left - s) r
mutual
def value (left:Int):Fld→Int
 | .mk _ _ _ _ _ t m _ y ks=>values (room left [2,t.length,m.length,y.length]) ks
def values (left:Int):List Fld→Int
 | []=>left
 | f :: r=>if left<0 then left else values (value (room left [(f.name.length:Int)]) f) r
end
end Book
end Go.Eng
namespace Go.Eng
open Go.RowKit
theorem below_ext {w w':World} {R:Reach} (hR:∀b o,R b o→b<w.heap.size) (h:Below w.heap.size w w'):Ext w R (fun _=>False) w' R :=
 ⟨h.os,h.tape,h.output,h.size,fun b hb _=>h.block b hb,fun b o hr=>⟨hr,by simp only [World.cell?,h.block b (hR b o hr)]⟩,fun b o hr => .inl hr⟩
theorem spec_plain {P:Program} {gl:Nat→AV} {f:Nat} {c:Ctr} (h:∀(ti to_:List TV) (w:World) (R:Reach) (xs:List Value),(c ti).holds to_→RepT R w (ti.map TV.av) xs→(∀b o,R b o→b<w.heap.size)→(∀n,Rep R w (gl n) (.pointer (some ⟨n,0,none⟩))) →
  Calls P f ⟨xs⟩ w fun e w'=>∃x,e = .returned x∧Below w.heap.size w w'∧∀R w',RepT R w' (to_.map TV.av) [x]):SpecOK P gl f (Ctr.fs (c,{})):=by
 refine ⟨fun _ w R ins outs xs hG hR hgl ha=>?_,fun _ _ h=>by cases h⟩
 obtain ⟨ti,to_,rfl,rfl,hc⟩:=hG
 refine (h ti to_ w R xs hc ha hR hgl).mono ?_
 rintro e w' ⟨x,rfl,hb,hx⟩
 refine ⟨x,R,rfl,below_ext hR hb,fun b o hr=>Nat.lt_of_lt_of_le (hR b o hr) hb.size,?_⟩
 have hl:to_.length=1:=by
  have:=(hx R w').length
  simpa using this
 refine ⟨[x],[],[],[],0,0,[],[],rfl,rfl,by simp [hl,Ctr.fs],?_,fun j hj=>by simp [Ctr.fs] at hj,fun j hj=>by simp [Ctr.fs] at hj,rfl,rfl,rfl,?_,?_,?_,?_,?_,?_⟩
 ·have e:(List.mapIdx (fun i y=>if (Ctr.fs (c,{})).sg.new=some i then AV.pt else y) ((to_.map TV.av).take (Ctr.fs (c,{})).sg.nres))=to_.map TV.av:=by
   match to_,hl with
   | [a],_=>rfl
  rw [e];exact hx R w'
 all_goals intros
 all_goals simp_all [Ctr.fs,owners]
section
variable {R:Reach} {w:World}
end
structure ItmTys (P:Program) (t tk ti tu ts tb ty:TypeId):Prop where
 v:fieldsOf P t=some [(ti,0),(tu,1),(tb,2),(ts,3),(tk,4)]
 k:P.underlying tk=some (.slice t)
 i:P.underlying ti=some (.int .i64)
 u:P.underlying tu=some (.int .u64)
 s:P.underlying ts=some .string
 b:P.underlying tb=some (.slice ty)
 y:P.underlying ty=some (.int .u8)
 cv:P.cellsOf t=5
 ck:P.cellsOf tk=1
 ci:P.cellsOf ti=1
 cu:P.cellsOf tu=1
 cs:P.cellsOf ts=1
 cb:P.cellsOf tb=1
 cy:P.cellsOf ty=1
section
variable {P:Program} {t tk ti tu ts tb ty:TypeId}
theorem ItmTys.itm (T : ItmTys P t tk ti tu ts tb ty) : ∀ n, Opens P n t Itm fun f => (itmAV f).cells := by
  intro n
  induction n using Nat.strongRecOn with
  | _ n ih =>
    obtain ⟨fs, h1, h2⟩ := fieldsOf_spec T.v
    have R := fun (k : Nat) (hk : k < n) => (row_cons (off := 0) T.ci (opens_int T.i) (row_cons T.cu (opens_u64 T.u) (row_cons T.cb (opens_bytes T.b T.y T.cy) (row_cons T.cs (opens_str T.s)
      (row_cons T.ck (opens_slice (av := itmAV) T.k T.cv (by omega) (fun f => by cases f; rfl) fun j hj => ih j (by omega)) row_nil)))) : OpensRow P k _ 0 _ _)
    exact opens_struct h1 h2 (by simp [T.cv, T.ci, T.cu, T.cs, T.cb, T.ck]) R (fun a => Itm.mk a.1 a.2.1 a.2.2.1 a.2.2.2.1 a.2.2.2.2.1) (fun a => by
      simp [itmAV, AV.cells, itmsAV_map, strAV, iAV, u64AV, bytesAV])
theorem ItmTys.rep (T:ItmTys P t tk ti tu ts tb ty) {H:Type} {enc:TypeId × Value→H} {w:World} {base:Nat} {spare:Nat→Bool} {held:Bool} {cs:Array Value} {d:DataW H} {p:List MemPlace} (h:DataW.Trod enc P w base spare held t (.agg cs) d p) :
  ∃v:Itv,Rep (Old w) w (TV.av (.ag (Itv.cells v))) (.agg cs):=by
 obtain ⟨n,h⟩:=h
 obtain ⟨v,hv⟩:=T.itm n H enc w base spare held _ _ h
 refine ⟨v.val,?_⟩
 cases v with | mk k n b s ks =>
 simp only [TV.av,TV.avs_map,Itv.cells,Itm.val,Itm.kind,Itm.n,Itm.bytes,Itm.text,Itm.kids,List.map_cons,List.map_nil,STy.size,STy.av]
 refine .ag ?_
 have hv:RepL (Old w) w (itmAV (Itm.mk k n b s ks)).cells _:=hv
 show RepL (Old w) w [iAV k,u64AV n,bytesAV b,strAV s,.sl 5 (ks.map itmAV)] _
 simpa [itmAV,AV.cells,itmsAV_map,strAV,iAV,u64AV,bytesAV,Value.cells] using hv
end
end Go.Eng
namespace Go.Eng
open Go.RowKit Go.Sort
def glL:List (Nat × TV)→Nat→TV
 | [],_ => .dead
 | (k,v) :: r,n=>cond (Nat.beq n k) v (glL r n)
def tabV (k:IntKind) (zs:List Int):TV := .gv (zs.map fun z=>Value.int k z)
theorem gv_of_tab {P:Program} {w:World} {name:String} {k:IntKind} {zs:List Int} {g:Nat} (h:Lib.TabIs P w name k zs) (hg:P.globalNamed name=some g):Rep (Old w) w (tabV k zs).av (.pointer (some ⟨g,0,none⟩)):=by
 have hs:g<w.heap.size:=by
  unfold Lib.TabIs World.var? at h
  rw [hg] at h
  simp only [Option.bind_some] at h
  cases hh:w.heap[g]? with
  | none=>rw [hh] at h;cases h
  | some x=>exact (Array.getElem?_eq_some_iff.1 hh).1
 exact .gv (fun _=>hs) (fun o=>by have:=World.var?_cell hg h o;simpa using this)
theorem tab_of_gv {P : Program} {R : Reach} {w : World} {name : String} {k : IntKind} {z : Int} {zs : List Int} {g : Nat} (h : Rep R w (tabV k (z :: zs)).av (.pointer (some ⟨g, 0, none⟩))) (hg : P.globalNamed name = some g) : Lib.TabIs P w name k (z :: zs) := by
  have h : Rep R w (.gv ((z :: zs).map fun z => Value.int k z)) (.pointer (some ⟨g, 0, none⟩)) := h
  cases h with
  | gv h1 h2 =>
    have h0 := h2 0
    unfold Lib.TabIs World.var?
    rw [hg]
    simp only [Option.bind_some]
    simp only [World.cell?] at h0 h2
    cases hh : w.heap[g]? with
    | none => rw [hh] at h0; cases h0
    | some x =>
      rw [hh] at h0 h2
      cases x with
      | cells cs e f =>
        simp only at h2 ⊢
        congr 1
        apply Array.ext_getElem?
        intro i
        have := h2 i
        simp only [Option.isSome_none, Bool.false_eq_true, if_false] at this
        rw [this]
        simp
      | _ => cases h0
theorem gl_one {P:Program} {w:World} {name:String} {k:IntKind} {zs:List Int} {g:Nat} (h:Lib.TabIs P w name k zs) (hg:P.globalNamed name=some g):∀n,Rep (Old w) w ((glL [(g,tabV k zs)] n).av) (.pointer (some ⟨n,0,none⟩)):=by
 intro n
 unfold glL
 cases hb:Nat.beq n g with
 | true=>rw [Nat.eq_of_beq_eq_true hb];exact gv_of_tab h hg
 | false=>exact .dead _
theorem below_grow (w:World) (k:Nat) (os:Array Obj):Below w.heap.size w (grow (w.drewN k) os) :=
 ⟨rfl,rfl,rfl,by show w.heap.size≤(w.heap++os).size;simp,fun i hi=>heap_grow_old (w.drewN k) os hi⟩
def itoaC:Ctr:=fun l=>match l with
 | [.i .i64 n] => .if_ (decide (-9223372036854775808≤n∧n≤9223372036854775807)) [.s (Lib.itoa n)]
 | _ => .err
theorem itoa_ok {P:Program} {gl:Nat→TV} {f g:Nat} {k:IntKind} {z:Int} {zs:List Int} (hgl:(gl g)=tabV k (z :: zs))
  (h:∃name,P.globalNamed name=some g∧∀(n:Int),-9223372036854775808≤n→n≤9223372036854775807→∀w:World,Lib.TabIs P w name k (z :: zs)→Calls P f #[.int .i64 n] w fun e w'=>e = .returned (.string ⟨(Lib.itoa n).toArray⟩)∧∃k os,w'=grow (w.drewN k) os) :
  SpecOK P (fun n=>(gl n).av) f (Ctr.fs (itoaC,{})):=by
 obtain ⟨name,hg,h⟩:=h
 refine spec_plain fun ti to_ w R xs hc ha hR hG=>?_
 unfold itoaC at hc
 split at hc
 ·rename_i n
  obtain ⟨hp,rfl⟩:=hc
  have hp:=of_decide_eq_true hp
  have e:xs=[.int .i64 n]:=by
   have ha:RepT R w [.v (.int .i64 n)] xs:=ha
   cases ha with
   | cons a b=>cases a;cases b;rfl
  subst e
  have hg':=hG g
  rw [hgl] at hg'
  refine (h n hp.1 hp.2 w (tab_of_gv hg' hg)).mono ?_
  rintro e w' ⟨rfl,q,os,rfl⟩
  refine ⟨_,rfl,below_grow _ _ _,fun R w'=>?_⟩
  have:Rep R w' (.v (.string ⟨⟨Lib.itoa n⟩⟩)) (.string ⟨(Lib.itoa n).toArray⟩) := .v _
  exact .cons this .nil
 ·exact hc.elim
def digs (n:Nat):Str:=if h:n<10 then [UInt8.ofNat (48+n)] else digs (n / 10)++[UInt8.ofNat (48+n % 10)]
termination_by n
decreasing_by omega
theorem digs_dec (n : Nat) : Lib.decDigits n = digs n := by
  induction n using Nat.strongRecOn with
  | _ n ih =>
    rw [Lib.decDigits, digs]
    by_cases h : n < 10
    · rw [dif_pos h, dif_pos h]
    · rw [dif_neg h, dif_neg h, ih (n / 10) (by omega)]
theorem itoa_nat (n:Nat):Lib.itoa (n:Int)=digs n:=by
 rw [Lib.itoa,if_neg (by omega),Int.toNat_natCast,digs_dec]
end Go.Eng
namespace Go.Eng
namespace Tree
def regularFrom:Nat→List Fld→Bool
 | _,[]=>true
 | i,f :: r=>decide (f.name=digs i)&&regularFrom (i+1) r
def regular (l:List Fld):Bool:=regularFrom 0 l
end Tree
end Go.Eng
namespace Go.Eng
namespace Cur
def be (l:Str):UInt64:=l.foldl (fun v x=>v * 256+x.toUInt64) 0
def putLow (v:UInt64):Nat→Str
 | 0=>[]
 | n+1=>v.toUInt8 :: putLow (v / 256) n
def putHigh (v:UInt64) (n:Nat):Str:=(putLow v n).reverse
def left (r:Rdr):Int:=r.b.length - r.at_
def more (r:Rdr):Bool:=decide (r.at_<r.b.length)
def high (v:UInt64) (n:Int):Str:=if 1≤n∧n≤8 then putHigh v n.toNat else []
end Cur
namespace Itm
mutual
def bulk:Itm→Nat
 | .mk _ _ b t ks=>1+b.length+t.length+bulks ks
def bulks:List Itm→Nat
 | []=>0
 | k :: r=>bulk k+bulks r
end
mutual
def same:Itm→Itm→Bool
 | .mk k n b t ks,.mk k' n' b' t' ks'=>decide (k=k')&&decide (n=n')&&decide (t=t')&&decide (b=b')&&sames ks ks'
def sames:List Itm→List Itm→Bool
 | [],[]=>true
 | k :: r,k' :: r'=>same k k'&&sames r r'
 | [],_ :: _=>false
 | _ :: _,[]=>false
end
mutual
def room (left:Int):Itm→Int
 | .mk _ _ b t ks=>rooms (Book.room left [2,(t.length:Int),(b.length:Int)]) ks
def rooms (left:Int):List Itm→Int
 | []=>left
 | k :: r=>if left<0 then left else rooms (room left k) r
end
end Itm
namespace Mp
def own : Itm → Int
  | .mk k n b t ks =>
    if k < 1 ∨ 10 < k ∨ k = 7 then 5
    else if ((k = 3 ∨ k = 4 ∨ k = 5 ∨ k = 6) ∧ n ≠ 0) ∨ (k ≠ 3 ∧ k ≠ 10 ∧ b ≠ []) ∨ (k ≠ 4 ∧ t ≠ []) then 1
    else if k ≠ 5 ∧ k ≠ 6 ∧ ks ≠ [] then 1
    else if (k = 2 ∧ 9223372036854775808 ≤ n) ∨ (k = 8 ∧ (n < 20 ∨ 22 < n)) ∨ (k = 10 ∧ 127 < n) ∨ (k = 6 ∧ ks.length % 2 ≠ 0) then 1
    else if 4294967296 ≤ b.length ∨ 4294967296 ≤ t.length ∨ (k = 5 ∧ 4294967296 ≤ ks.length) ∨ 4294967296 ≤ ks.length / 2 then 1
    else if Utf.whole t then 0 else 4
mutual
def chk:Itm→Int
 | .mk k n b t ks=>if own (.mk k n b t ks)=0 then chks ks else own (.mk k n b t ks)
def chks:List Itm→Int
 | []=>0
 | k :: r=>if chk k=0 then chks r else chk k
end
def fieldsOK : Itm → Bool
  | .mk k n b t ks =>
    if k = 1 ∨ k = 9 then decide (b = [] ∧ t = [] ∧ ks = [])
    else if k = 2 then decide (n < 9223372036854775808 ∧ b = [] ∧ t = [] ∧ ks = [])
    else if k = 3 then decide (b.length < 4294967296 ∧ n = 0 ∧ t = [] ∧ ks = [])
    else if k = 4 then decide (t.length < 4294967296 ∧ n = 0 ∧ b = [] ∧ ks = [])
    else if k = 5 then decide (ks.length < 4294967296 ∧ n = 0 ∧ b = [] ∧ t = [])
    else if k = 6 then decide (ks.length % 2 = 0 ∧ ks.length / 2 < 4294967296 ∧ n = 0 ∧ b = [] ∧ t = [])
    else if k = 8 then decide (20 ≤ n ∧ n ≤ 22 ∧ b = [] ∧ t = [] ∧ ks = [])
    else if k = 10 then decide (n ≤ 127 ∧ b.length < 4294967296 ∧ t = [] ∧ ks = [])
    else decide (n = 0 ∧ b = [] ∧ t = [] ∧ ks = [])
def base (k:Int):Int:=if k=4 then 217 else if k=3 then 196 else if k=5 then 220 else if k=6 then 222 else 199
def fix (k:Int):Int:=if k=4 then 32 else if k=5∨k=6 then 16 else 0
def tab (k:Int):Int:=if k=4 then 160 else if k=5 then 144 else 128
def fixed (k n:Int):Int:=if k=10 then (if n=1 then 212 else if n=2 then 213 else if n=4 then 214 else if n=8 then 215 else if n=16 then 216 else 0) else 0
def sized (k n:Int):Int × Int :=
 if fixed k n≠0 then (fixed k n,0) else if n<fix k then (tab k+n,0)
 else if k=5∨k=6 then (if n<65536 then (base k,2) else (base k+1,4))
 else if n<256 then (base k,1) else if n<65536 then (base k+1,2) else (base k+2,4)
def unsigned (n:UInt64):Int × Int :=
 if n<128 then ((n.toNat:Int),0) else if n<256 then (204,1) else if n<65536 then (205,2) else if n<4294967296 then (206,4) else (207,8)
def signed (n:UInt64):Int × Int :=
 if n<32 then (255 - (n.toNat:Int),0) else if n<128 then (208,1) else if n<32768 then (209,2) else if n<2147483648 then (210,4) else (211,8)
def put (f:Int × Int) (n:UInt64):Str:=UInt8.ofInt f.1 :: Cur.high n f.2
def head : Itm → Str
  | .mk k n b t ks =>
    if k = 1 then put (unsigned n) n
    else if k = 2 then put (signed n) (~~~ n)
    else if k = 8 then [if n = 20 then 194 else if n = 21 then 195 else 192]
    else if k = 9 then put (203, 8) n
    else if k = 4 then put (sized 4 t.length) (UInt64.ofNat t.length)
    else if k = 3 then put (sized 3 b.length) (UInt64.ofNat b.length)
    else if k = 5 then put (sized 5 ks.length) (UInt64.ofNat ks.length)
    else if k = 6 then put (sized 6 (ks.length / 2 : Nat)) (UInt64.ofNat (ks.length / 2))
    else put (sized 10 b.length) (UInt64.ofNat b.length) ++ [n.toUInt8]
mutual
def lay:Itm→Str
 | .mk k n b t ks=>head (.mk k n b t ks)++b++t++lays ks
def lays:List Itm→Str
 | []=>[]
 | k :: r=>lay k++lays r
end
def enc (it:Itm):Str:=if chk it=0 then lay it else []
def wide (n:UInt64):Int:=if n<256 then 1 else if n<65536 then 2 else if n<4294967296 then 4 else 8
def step (n:Int):UInt8:=if n=1 then 0 else if n=2 then 1 else if n=4 then 2 else 3
def form (f:UInt8) (n:UInt64) (least:Int):Str:=(f+step (max (wide n) least) - step least) :: Cur.putHigh n (max (wide n) least).toNat
def ext (n k:UInt64):Str :=
 if n=1 then [212,k.toUInt8] else if n=2 then [213,k.toUInt8] else if n=4 then [214,k.toUInt8] else if n=8 then [215,k.toUInt8] else if n=16 then [216,k.toUInt8] else form 199 n 1++[k.toUInt8]
def rngOK (b:Str) (a n:Int):Bool:=decide (1≤n∧n≤8∧0≤a∧a≤b.length∧n≤b.length - a)
def rng (b:Str) (a n:Int):Str:=cond (rngOK b a n) ((b.drop a.toNat).take n.toNat) []
def first (c:Int):Int × UInt64 × Int :=
 if c<128 then (1,UInt64.ofInt c,0)
 else if c<144 then (6,UInt64.ofInt (c - 128),0)
 else if c<160 then (5,UInt64.ofInt (c - 144),0)
 else if c<192 then (4,UInt64.ofInt (c - 160),0)
 else if 224≤c then (2,UInt64.ofInt (255 - c),0)
 else if c=192 then (8,22,0)
 else if c=193 then (0,0,0)
 else if c≤195 then (8,UInt64.ofInt (c - 174),0)
 else if c≤198 then (3,0,if c=196 then 1 else if c=197 then 2 else 4)
 else if c≤201 then (10,0,if c=199 then 1 else if c=200 then 2 else 4)
 else if c=202 then (0,0,0)
 else if c=203 then (9,0,8)
 else if c≤207 then (1,0,if c=204 then 1 else if c=205 then 2 else if c=206 then 4 else 8)
 else if c≤211 then (2,0,if c=208 then 1 else if c=209 then 2 else if c=210 then 4 else 8)
 else if c≤216 then (10,if c=212 then 1 else if c=213 then 2 else if c=214 then 4 else if c=215 then 8 else 16,0)
 else if c≤219 then (4,0,if c=217 then 1 else if c=218 then 2 else 4)
 else if c≤221 then (5,0,if c=220 then 2 else 4)
 else (6,0,if c=222 then 2 else 4)
def zero:Itm := .mk 0 0 [] [] []
def below (n:UInt64) (size:Int):Option UInt64 :=
 let top:UInt64:=if size=1 then 128 else if size=2 then 32768 else if size=4 then 2147483648 else 9223372036854775808
 if n<top then none else some (top - 1 - (n - top))
structure Got where
 it:Itm
 err:Int
 at_:Int
 pos:Int
def bad (e p q:Int):Got:=⟨zero,e,p,q⟩
def row (b:Str) (it:Itm) (p q n:Int):Got :=
 if n<0∨(b.length:Int) - q<n then bad 2 p q
 else if it.kind≠4 then ⟨.mk it.kind it.n ((b.drop q.toNat).take n.toNat) it.text it.kids,0,0,q+n⟩
 else if Utf.whole ((b.drop q.toNat).take n.toNat) then ⟨.mk it.kind it.n it.bytes ((b.drop q.toNat).take n.toNat) it.kids,0,0,q+n⟩
 else bad 4 p (q+n)
def kids (f : Int → Got) (it : Itm) : Nat → Int → Got
  | 0, q => ⟨it, 0, 0, q⟩
  | n + 1, q =>
    let g := f q
    if g.err ≠ 0 then ⟨zero, g.err, g.at_, g.pos⟩
    else kids f (.mk it.kind it.n it.bytes it.text (it.kids ++ [g.it])) n g.pos
def num (it:Itm) (p c f q:Int):Got:=if f≠c then bad 3 p q else ⟨it,0,0,q⟩
def readEnd (b:Str) (sub:Int→Got) (p c k:Int) (n:UInt64) (long:Int) (t:UInt64) (q:Int):Got :=
 if k=8∨k=9 then ⟨.mk k n [] [] [],0,0,q⟩
 else if k=1 then num (.mk k n [] [] []) p c (unsigned n).1 q
 else if k=2 then (if long=0 then num (.mk k n [] [] []) p c (signed n).1 q else match below n long with
  | none=>bad 3 p q
  | some m=>num (.mk k m [] [] []) p c (signed m).1 q)
 else if (sized k n.toNat).1≠c∨127<t then bad 3 p q
 else if k=5 then kids sub (.mk k t [] [] []) n.toNat q
 else if k=6 then kids sub (.mk k t [] [] []) (2 * n.toNat) q
 else row b (.mk k t [] [] []) p q n.toNat
def readTail (b:Str) (sub:Int→Got) (p c k:Int) (n:UInt64) (long q:Int):Got :=
 if k=10 then (if (b.length:Int) - q<1 then bad 2 p q else readEnd b sub p c k n long (b.getD q.toNat 0).toUInt64 (q+1))
 else readEnd b sub p c k n long 0 q
def readAt (b:Str) (sub:Int→Got) (p c k:Int) (n0:UInt64) (long:Int):Got :=
 if k=0 then bad 3 p (p+1)
 else if (b.length:Int) - (p+1)<long then bad 2 p (p+1)
 else readTail b sub p c k (if long=0 then n0 else Cur.be ((b.drop (p+1).toNat).take long.toNat)) long (p+1+long)
def read (b : Str) : Nat → Int → Got
  | 0, p => bad 8 p p
  | d + 1, p =>
    if (b.length : Int) ≤ p then bad 2 p p
    else readAt b (read b d) p ((b.getD p.toNat 0).toNat : Int) (first ((b.getD p.toNat 0).toNat : Int)).1 (first ((b.getD p.toNat 0).toNat : Int)).2.1 (first ((b.getD p.toNat 0).toNat : Int)).2.2
def dec (b:Str) (depth:Int):Itm × Flt :=
 if depth<0∨1000<depth then (zero,⟨1,0,[]⟩)
 else
  let g:=read b depth.toNat 0
  if g.err≠0 then (zero,⟨g.err,g.at_,[]⟩)
  else if g.pos<b.length then (zero,⟨7,g.pos,[]⟩)
  else (g.it,⟨0,0,[]⟩)
end Mp
end Go.Eng
namespace Go.Eng
namespace Cb
def own : Itm → Int
  | .mk k n b t ks =>
    if k < 1 ∨ 9 < k then 5
    else if ((k = 3 ∨ k = 4 ∨ k = 5 ∨ k = 6) ∧ n ≠ 0) ∨ (k ≠ 3 ∧ b ≠ []) ∨ (k ≠ 4 ∧ t ≠ []) then 1
    else if k ≠ 5 ∧ k ≠ 6 ∧ k ≠ 7 ∧ ks ≠ [] then 1
    else if (k = 8 ∧ (n < 20 ∨ 23 < n)) ∨ (k = 6 ∧ ks.length % 2 ≠ 0) ∨ (k = 7 ∧ ks.length ≠ 1) then 1
    else if Utf.whole t then 0 else 4
mutual
def chk:Itm→Int
 | .mk k n b t ks=>if own (.mk k n b t ks)=0 then chks ks else own (.mk k n b t ks)
def chks:List Itm→Int
 | []=>0
 | k :: r=>if chk k=0 then chks r else chk k
end
def fieldsOK : Itm → Bool
  | .mk k n b t ks =>
    decide ((k = 1 ∨ k = 2 ∨ k = 9 ∨ k = 7 ∨ k = 8) ∨ n = 0) && decide (k = 3 ∨ b = []) && decide (k = 4 ∨ t = []) && decide ((k = 5 ∨ k = 6 ∨ k = 7) ∨ ks = []) &&
    decide (k ≠ 8 ∨ (20 ≤ n ∧ n ≤ 23)) && decide (k ≠ 6 ∨ ks.length % 2 = 0) && decide (k ≠ 7 ∨ ks.length = 1)
end Cb
namespace Db
def text (s:Str):Itm := .mk 4 0 [] s []
def raw (b:Str):Itm := .mk 3 0 b [] []
def plus (n:UInt64):Itm := .mk 1 n [] [] []
def simple (n:UInt64):Itm := .mk 8 n [] [] []
def list (l:List Itm):Itm := .mk 5 0 [] [] l
def map (l:List Itm):Itm := .mk 6 0 [] [] l
def integer (v:Int):Itm:=if v<0 then .mk 2 (UInt64.ofInt (-(v+1))) [] [] [] else .mk 1 (UInt64.ofInt v) [] [] []
def i32 (n:UInt64):Int:=IntKind.i32.wrap (n.toNat:Int)
def i64 (n:UInt64):Int:=IntKind.i64.wrap (n.toNat:Int)
def words (high low:UInt64):Str:=Cur.putHigh high 8++Cur.putHigh low 8
def tagged (v:Val) (m:List Itm):Itm :=
 if v.kind=4 then map m
 else if v.kind=5 then list [plus (UInt64.ofInt v.sub),raw v.bytes]
 else if v.kind=7 then raw v.bytes
 else if v.kind=9∨v.kind=18 then integer (i64 v.bits)
 else if v.kind=11 then list [text v.text,text v.more]
 else if v.kind=12 then list [text v.text,raw v.bytes]
 else if v.kind=13∨v.kind=14 then text v.text
 else if v.kind=15 then list [text v.text,map m]
 else if v.kind=17 then plus v.bits
 else if v.kind=19 then raw (words v.high v.low)
 else simple 22
def itemOf (v:Val) (m l:List Itm):Itm :=
 if v.kind=1 then .mk 9 v.bits [] [] []
 else if v.kind=2 then text v.text
 else if v.kind=3 then map m
 else if v.kind=4∧Tree.regular v.kids then list l
 else if v.kind=5∧v.sub=0 then raw v.bytes
 else if v.kind=6 then simple 23
 else if v.kind=10 then simple 22
 else if v.kind=8 then simple (20+v.bits)
 else if v.kind=16 then integer (i32 v.bits)
 else .mk 7 (UInt64.ofInt (1000+v.kind)) [] [] [tagged v m]
mutual
def item:Fld→Itm
 | .mk _ k b h l t m s y ks=>itemOf ⟨k,b,h,l,t,m,s,y,ks⟩ (mapped ks) (items ks)
def mapped:List Fld→List Itm
 | []=>[]
 | f :: r=>text f.name :: item f :: mapped r
def items:List Fld→List Itm
 | []=>[]
 | f :: r=>item f :: items r
end
def enc (v:Val):Itm × Flt :=
 if (Tree.chkF (Fld.of [] v) []).2≠0 then (Mp.zero,⟨(Tree.chkF (Fld.of [] v) []).2,0,(Tree.chkF (Fld.of [] v) []).1⟩)
 else if v.kind≠3 then (Mp.zero,⟨5,0,[]⟩)
 else (map (mapped v.kids),⟨0,0,[]⟩)
def zero:Val:=⟨0,0,0,0,[],[],0,[],[]⟩
inductive Got where
 | ok (v:Val)
 | bad (p:List Int)
inductive Gots where
 | ok (l:List Fld)
 | bad (p:List Int)
def Got.val:Got→Val
 | .ok v=>v
 | .bad _=>zero
def Got.flt:Got→Flt
 | .ok _=>⟨0,0,[]⟩
 | .bad p=>⟨12,0,p⟩
def Gots.flt:Gots→Flt
 | .ok _=>⟨0,0,[]⟩
 | .bad p=>⟨12,0,p⟩
def Gots.got (v:Val):Gots→Got
 | .ok l => .ok { v with kids:=l }
 | .bad p => .bad p
def number (it:Itm):Option Int :=
 if 9223372036854775808≤it.n then none
 else if it.kind=1 then some (it.n.toNat:Int)
 else if it.kind=2 then some (-1 - (it.n.toNat:Int))
 else none
def regularFrom:Nat→List Itm→Bool
 | _,[]=>true
 | i,[k]=>decide (k.kind=4∧k.text=digs i)
 | i,k :: _ :: r=>decide (k.kind=4∧k.text=digs i)&&regularFrom (i+1) r
def regular (l:List Itm):Bool:=regularFrom 0 l
def fst (it:Itm):Itm:=it.kids.getD 0 Mp.zero
def snd (it:Itm):Itm:=it.kids.getD 1 Mp.zero
def kinds (it:Itm) (a b:Int):Bool:=decide (it.kind=5∧it.kids.length=2∧(fst it).kind=a∧(snd it).kind=b)
def numberI (it:Itm):Int:=if 9223372036854775808≤it.n then 0 else if it.kind=2 then -1 - (it.n.toNat:Int) else (it.n.toNat:Int)
def doc (k:Int) (t:Str):Val:=⟨k,0,0,0,t,[],0,[],[]⟩
def smallV (n:UInt64) (it:Itm):Val × Bool :=
 if n<1000∨1255<n then (zero,false)
 else if n=1005 then
  (if kinds it 1 3∧1≤(fst it).n∧(fst it).n≤255 then (⟨5,0,0,0,[],[],((fst it).n.toNat:Int),(snd it).bytes,[]⟩,true) else (doc 5 [],false))
 else if n=1007 then (⟨7,0,0,0,[],[],0,it.bytes,[]⟩,decide (it.kind=3∧it.bytes.length=12))
 else if n=1009∨n=1018 then (⟨(n.toNat:Int) - 1000,UInt64.ofInt ((number it).getD 0),0,0,[],[],0,[],[]⟩,(number it).isSome)
 else if n=1011 then
  (if kinds it 4 4∧¬Utf.zero (fst it).text∧¬Utf.zero (snd it).text then (⟨11,0,0,0,(fst it).text,(snd it).text,0,[],[]⟩,true) else (doc 11 [],false))
 else if n=1012 then
  (if kinds it 4 3∧(snd it).bytes.length=12 then (⟨12,0,0,0,(fst it).text,[],0,(snd it).bytes,[]⟩,true) else (doc 12 [],false))
 else if n=1013∨n=1014 then (doc ((n.toNat:Int) - 1000) it.text,decide (it.kind=4))
 else if n=1017 then (⟨17,it.n,0,0,[],[],0,[],[]⟩,decide (it.kind=1))
 else if n=1019 then
  (if it.kind=3∧it.bytes.length=16 then (⟨19,0,Cur.be (it.bytes.take 8),Cur.be (it.bytes.drop 8),[],[],0,[],[]⟩,true) else (doc 19 [],false))
 else if n=1127∨n=1255 then (doc ((n.toNat:Int) - 1000) [],decide (it.kind=8∧it.n=22))
 else (doc ((n.toNat:Int) - 1000) [],false)
def small (n:UInt64) (it:Itm):Option Val:=if (smallV n it).2 then some (smallV n it).1 else none
def half (it:Itm):Val × Bool:=(⟨16,UInt64.ofInt (numberI it % 4294967296),0,0,[],[],0,[],[]⟩,(number it).isSome&&decide (-2147483648≤numberI it∧numberI it<2147483648))
def leaf (k:Int) (n:UInt64) (b t:Str):Option Val :=
 if k=9 then some ⟨1,n,0,0,[],[],0,[],[]⟩
 else if k=4 then some ⟨2,0,0,0,t,[],0,[],[]⟩
 else if k=3 then some ⟨5,0,0,0,[],[],0,b,[]⟩
 else if k=8 then some (if n=22 then ⟨10,0,0,0,[],[],0,[],[]⟩ else if n=23 then ⟨6,0,0,0,[],[],0,[],[]⟩ else ⟨8,n - 20,0,0,[],[],0,[],[]⟩)
 else if (half (.mk k n b t [])).2 then some (half (.mk k n b t [])).1 else none
def opt (o:Option Val) (p:List Int):Got:=match o with | some v => .ok v | none => .bad p
mutual
def value : Itm → List Int → Got
  | .mk k n b t ks, p =>
    if k = 6 then (fields ks 0 p).got (doc 3 [])
    else if k = 5 then (elems ks 0 p).got (doc 4 [])
    else if k = 7 then tags n ks p
    else opt (leaf k n b t) p
def tags (n : UInt64) : List Itm → List Int → Got
  | [], p => .bad p
  | x :: _, p => tagv n x p
def tagv (n : UInt64) : Itm → List Int → Got
  | .mk k m b t ks, p =>
    if n = 1004 then (if k = 6 ∧ ¬ regular ks then (fields ks 0 (p ++ [0])).got (doc 4 []) else .bad p)
    else if n = 1015 then (if kinds (.mk k m b t ks) 4 6 then pairv ks p else .bad p)
    else opt (small n (.mk k m b t ks)) p
def pairv : List Itm → List Int → Got
  | [], p => .bad p
  | [_], p => .bad p
  | a :: m :: _, p => pairIn a.text m p
def pairIn (t : Str) : Itm → List Int → Got
  | .mk _ _ _ _ ks, p => (fields ks 0 (p ++ [0, 1])).got (doc 15 t)
def fields : List Itm → Nat → List Int → Gots
  | [], _, _ => .ok []
  | [k], i, p => .bad (p ++ [(i : Int)])
  | k :: x :: r, i, p =>
    if k.kind ≠ 4 ∨ Utf.zero k.text then .bad (p ++ [(i : Int)])
    else match value x (p ++ [((i + 1 : Nat) : Int)]) with
      | .bad q => .bad q
      | .ok v => match fields r (i + 2) p with
        | .bad q => .bad q
        | .ok l => .ok (Fld.of k.text v :: l)
def elems : List Itm → Nat → List Int → Gots
  | [], _, _ => .ok []
  | x :: r, i, p =>
    match value x (p ++ [(i : Int)]) with
      | .bad q => .bad q
      | .ok v => match elems r (i + 1) p with
        | .bad q => .bad q
        | .ok l => .ok (Fld.of (digs i) v :: l)
end
def dec (it:Itm):Val × Flt :=
 if Cb.chk it≠0 then (zero,⟨Cb.chk it,0,[]⟩)
 else if it.kind≠6 then (zero,⟨12,0,[]⟩)
 else ((value it []).val,(value it []).flt)
end Db
end Go.Eng
namespace Go.Proofs
open Go.Shelf
def Tryd.laysM171_ren:Go.Shelf.Ren:=⟨fun | 171=>71 | 243=>86 | 246=>99 | 283=>102 | 284=>103 | 285=>104 | 286=>105 | 129=>107 | 317=>106 | 318=>108 | 319=>109 | 320=>110 | 337=>111 | 338=>112 | n=>n,fun | 3=>3 | 9=>9 | 2=>2 | 4=>4 | 171=>109 | 0=>0 | 53=>22 | 37=>23 | 5=>5 | 173=>112 | 212=>115 | 51=>79 | 20=>20 | 213=>116 | 46=>102 | 232=>119 | 233=>120 | n=>n,fun | 17=>1 | 18=>2 | 19=>3 | n=>n⟩
theorem Tryd.laysM171:Go.Proofs.LaysM.n171 Tryd.prog Tryd.laysM171_ren:={
 mixed:=by kernel_rfl
 f129:=Tryd.func107.trans (congrArg some (by kernel_rfl))
 f171:=Tryd.func71.trans (congrArg some (by kernel_rfl))
 f243:=Tryd.func86.trans (congrArg some (by kernel_rfl))
 f246:=Tryd.func99.trans (congrArg some (by kernel_rfl))
 f283:=Tryd.func102.trans (congrArg some (by kernel_rfl))
 f284:=Tryd.func103.trans (congrArg some (by kernel_rfl))
 f285:=Tryd.func104.trans (congrArg some (by kernel_rfl))
 f286:=Tryd.func105.trans (congrArg some (by kernel_rfl))
 f317:=Tryd.func106.trans (congrArg some (by kernel_rfl))
 f318:=Tryd.func108.trans (congrArg some (by kernel_rfl))
 f319:=Tryd.func109.trans (congrArg some (by kernel_rfl))
 f320:=Tryd.func110.trans (congrArg some (by kernel_rfl))
 f337:=Tryd.func111.trans (congrArg some (by kernel_rfl))
 f338:=Tryd.func112.trans (congrArg some (by kernel_rfl))
 t0:=Tryd.underlying0
 a0:=Tryd.isAgg0
 z0:=Tryd.sizeOf0
 v0:=Tryd.zeroValue0
 t2:=Tryd.underlying2
 a2:=Tryd.isAgg2
 z2:=Tryd.sizeOf2
 v2:=Tryd.zeroValue2
 t3:=Tryd.underlying3
 a3:=Tryd.isAgg3
 z3:=Tryd.sizeOf3
 v3:=Tryd.zeroValue3
 t4:=Tryd.underlying4
 a4:=Tryd.isAgg4
 z4:=Tryd.sizeOf4
 v4:=Tryd.zeroValue4
 t5:=Tryd.underlying5
 a5:=Tryd.isAgg5
 z5:=Tryd.sizeOf5
 v5:=Tryd.zeroValue5
 t9:=Tryd.underlying9
 a9:=Tryd.isAgg9
 z9:=Tryd.sizeOf9
 v9:=Tryd.zeroValue9
 t20:=Tryd.underlying20
 a20:=Tryd.isAgg20
 z20:=Tryd.sizeOf20
 v20:=Tryd.zeroValue20
 t37:=Tryd.underlying23
 a37:=Tryd.isAgg23
 z37:=Tryd.sizeOf23
 v37:=Tryd.zeroValue23
 t46:=Tryd.underlying102
 a46:=Tryd.isAgg102
 z46:=Tryd.sizeOf102
 v46:=Tryd.zeroValue102
 t51:=Tryd.underlying79
 a51:=Tryd.isAgg79
 z51:=Tryd.sizeOf79
 v51:=Tryd.zeroValue79
 t53:=Tryd.underlying22
 a53:=Tryd.isAgg22
 z53:=Tryd.sizeOf22
 v53:=Tryd.zeroValue22
 t171:=Tryd.underlying109
 a171:=Tryd.isAgg109
 z171:=Tryd.sizeOf109
 v171:=Tryd.zeroValue109
 t173:=Tryd.underlying112
 a173:=Tryd.isAgg112
 z173:=Tryd.sizeOf112
 v173:=Tryd.zeroValue112
 t212:=Tryd.underlying115
 a212:=Tryd.isAgg115
 z212:=Tryd.sizeOf115
 v212:=Tryd.zeroValue115
 t213:=Tryd.underlying116
 a213:=Tryd.isAgg116
 z213:=Tryd.sizeOf116
 t232:=Tryd.underlying119
 a232:=Tryd.isAgg119
 z232:=Tryd.sizeOf119
 v232:=Tryd.zeroValue119
 t233:=Tryd.underlying120
 a233:=Tryd.isAgg120
 z233:=Tryd.sizeOf120
 v233:=Tryd.zeroValue120
 g17:=by kernel_rfl
 g18:=by kernel_rfl
 g19:=by kernel_rfl
 i0:=by kernel_rfl
 i2:=by kernel_rfl
 i3:=by kernel_rfl
 i4:=by kernel_rfl
 i5:=by kernel_rfl
 i9:=by kernel_rfl
 i20:=by kernel_rfl
 i37:=by kernel_rfl
 i46:=by kernel_rfl
 i51:=by kernel_rfl
 i53:=by kernel_rfl
 i171:=by kernel_rfl
 i173:=by kernel_rfl
 i212:=by kernel_rfl
 i232:=by kernel_rfl
 i233:=by kernel_rfl
 m17:=by kernel_rfl
 m18:=by kernel_rfl
 m19:=by kernel_rfl }
open Go.RowKit Go.Sort Go.Lib in
theorem Tryd.itoa:∃name:String,Tryd.prog.globalNamed name=some 1∧∀(n:Int),-9223372036854775808≤n→n≤9223372036854775807→∀w:World,Lib.TabIs Tryd.prog w name .u64 Lib.pow10Tab →
  Calls Tryd.prog 71 #[.int .i64 n] w fun e w'=>e = .returned (.string ⟨(Lib.itoa n).toArray⟩)∧∃k os,w'=grow (w.drewN k) os:=by
 refine ⟨_,?_,fun n h0 h1 w htab=>Any.strconv_Itoa Tryd.laysM171 n h0 h1 w htab⟩
 kernel_rfl
end Go.Proofs
