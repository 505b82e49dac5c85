/- Texts of my own, one behind the other: YK, TpUtfPure, TpTreePure, TpBinPure, TpGatePure, TpSpPure, VC, TpC, TpG0, TpG1, TpG2, TpG3, TpG, TpUtfP, TpTreeP1, TpTreeP2, TpCur. -/
import Derived.Test.YthcgadjgfbnedaaGreatDoorT2
import Derived.ChangeArms
import Derived.ChangeShapes
import Derived.DataReads
import Derived.Lib.Bytealg
import Derived.Lib.TrailingZeros
import Derived.Lib.ItoaNum
import Derived.Test.YthcgadjgfbnedaaGreatDoorProg
set_option linter.unusedVariables false
set_option linter.unusedSimpArgs false
namespace Go.Eng
open Go.RowKit
def tJ (P:Program) (n:Nat) (t:TypeId) (A:Type) (g:A→List TV):Prop :=
 ∀(H:Type) (enc:TypeId × Value→H) (w:World) (base:Nat) (spare:Nat→Bool) (held:Bool) (cs:List Value) (x:DataW H × List MemPlace),DataW.trod enc P w base spare held n t cs=some x→∃a:A,bV (Old w) w (g a) cs
theorem Cg {n:Int} (h:(Lit.int .u8 n).wf=true):((UInt8.ofInt n).toNat:Int)=n:=by
 have hx:0≤n∧n≤255:=by simpa [Lit.wf,IntKind.min,IntKind.max,IntKind.signed,IntKind.bits] using h
 rw [kA,wrap_u8'];omega
section
variable {P:Program} {n:Nat} {t:TypeId}
theorem Jt (ht:P.underlying t=some (.int .i64)):tJ P n t Int fun m=>[.i .i64 m]:=by
 intro H enc w base spare held cs x h
 obtain ⟨m,rfl,_,_⟩:=DataW.trod_int ht h
 exact ⟨m,.cons rfl (.sc rfl) .nil⟩
theorem Kq {n:Int} (h:(Lit.int .u64 n).wf=true):((UInt64.ofInt n).toNat:Int)=n:=by
 have hx:0≤n∧n≤18446744073709551615:=by simpa [Lit.wf,IntKind.min,IntKind.max,IntKind.signed,IntKind.bits] using h
 have e:IntKind.u64.wrap n=n % (18446744073709551616:Nat):=by simp [IntKind.wrap,IntKind.bits,IntKind.signed]
 rw [k8,e];omega
theorem Ka {R:Reach} {w:World} {n:Int} (h:(Lit.int .u64 n).wf=true):Rep R w (.u64 (UInt64.ofInt n)) (.int .u64 n) := .sc (by show some _=some _;rw [Kq h])
theorem Jr (ht:P.underlying t=some (.int .u64)):tJ P n t UInt64 fun m=>[.u64 m]:=by
 intro H enc w base spare held cs x h
 obtain ⟨m,rfl,_,hw⟩:=DataW.trod_int ht h
 exact ⟨UInt64.ofInt m,.cons rfl (Ka hw) .nil⟩
theorem vT (ht:P.underlying t=some (.int .u8)):tJ P n t UInt8 fun m=>[.u8 m]:=by
 intro H enc w base spare held cs x h
 obtain ⟨m,rfl,_,hw⟩:=DataW.trod_int ht h
 exact ⟨UInt8.ofInt m,.cons rfl (.sc (by show some _=some _;rw [Cg hw])) .nil⟩
theorem Js (ht:P.underlying t=some .string):tJ P n t IY fun m=>[.s m]:=by
 intro H enc w base spare held cs x h
 obtain ⟨m,rfl,_,_⟩:=DataW.trod_string ht h
 exact ⟨m.data.toList,.cons rfl (.sc rfl) .nil⟩
theorem qn {e:TypeId} {st:ez} (ht:P.underlying t=some (.slice e)) (hs:P.cellsOf e=st.size) (uC:0<st.size) (he:∀m,m<n→tJ P m e st.El fun a=>(st.tv a).cells):tJ P n t (List st.El) fun l=>[.sl st l]:=by
 intro H enc w base spare held cs x h
 rcases DataW.trod_slice ht h with ⟨rfl,_⟩ | ⟨a,len,cap,elems,rest,m,rfl,rfl,_,_,h2,h3,h4,h5,_,_⟩
 ·exact ⟨[],.cons rfl (.sn _) .nil⟩
 ·by_cases h0:len=0
  ·subst h0;exact ⟨[],.cons rfl (.em _ h3) .nil⟩
  ·have get:∀i,i<len→∃ys,w.cells? base (a.add (i * st.size)) st.size=some ys∧∃y:st.El,bV (Old w) w (st.tv y).cells ys:=fun i hi=>by
    have:=h5 i hi
    rw [hs] at this
    have eL:i<elems.length:=by omega
    rw [ah eL] at this
    obtain ⟨ys,h6,h7⟩:=aE.1 this
    exact ⟨ys,h6,he m (Nat.lt_succ_self m) H enc w base spare held ys _ h7⟩
   have qC:a.spot=none:=by
    obtain ⟨ys,h6,_⟩:=get 0 (by omega)
    obtain ⟨_,h7,h8⟩:=World.cells?_some h6
    have h9:=h8 0 uC
    cases hy:ys[0]? with
    | none=>rw [List.getElem?_eq_none_iff] at hy;omega
    | some y=>rw [hy] at h9;simpa [Addr.add] using World.cell?_spot h9
   obtain ⟨b,off,spot⟩:=a
   simp only at qC
   subst qC
   have key:∀k i,i+k=len→∃l:List st.El,l.length=k∧fF (Old w) w st.size (l.map st.tv) b (off+i * st.size):=by
    intro k
    induction k with
    | zero=>exact fun i _=>⟨[],rfl,.nil _ _ _⟩
    | succ k ih =>
     intro i hi
     obtain ⟨l,hl,hE⟩:=ih (i+1) (by omega)
     obtain ⟨ys,h6,y,h7⟩:=get i (by omega)
     obtain ⟨_,h8,h9⟩:=World.cells?_some h6
     refine ⟨y :: l,by simp [hl],.cons (gC.write (ez.fM st y) h7 (fun j hj=>?_) (fun j z hz=>?_)) ?_⟩
     ·have iU:=h9 j hj
      have EY:j<ys.length:=by omega
      rw [ah EY] at iU
      by_cases eL:b<w.heap.size
      ·exact eL
      ·have:w.heap[b]?=none:=Array.getElem?_eq_none (by omega)
       rw [addr_add,addr_add] at iU
       simp only [World.cell?,this] at iU
       cases iU
     ·have hj:j<st.size:=by have:=(av.1 hz).1;omega
      have iU:=h9 j hj
      rw [hz,addr_add,addr_add] at iU
      exact iU
     ·rw [show off+i * st.size+st.size=off+(i+1) * st.size by rw [Nat.succ_mul];omega];exact hE
   obtain ⟨l,hl,hE⟩:=key len 0 (by omega)
   refine ⟨l,.cons rfl (.sl hl.symm h2 h3 ?_) .nil⟩
   simpa using hE
def Jm (P:Program) (n:Nat) (fs:List (TypeId × Nat)) (off:Nat) (A:Type) (g:A→List TV):Prop :=
 ∀(H:Type) (enc:TypeId × Value→H) (w:World) (base:Nat) (spare:Nat→Bool) (held:Bool) (cs:List Value),(∀f∈fs,∃x:DataW H × List MemPlace,DataW.trod enc P w base spare held n f.1 ((cs.drop f.2).take (P.cellsOf f.1))=some x)→cs.length=off+(fs.map fun f=>P.cellsOf f.1).sum→∃a:A,bV (Old w) w (g a) (cs.drop off)
theorem JN {off:Nat}:Jm P n [] off Unit fun _=>[]:=by
 intro H enc w base spare held cs _ hl
 refine ⟨(),?_⟩
 rw [aW (by simp at hl;omega)];exact .nil
theorem Ji {t:TypeId} {fs:List (TypeId × Nat)} {off c:Nat} {A B:Type} {g:A→List TV} {g':B→List TV} (hc:P.cellsOf t=c) (h:tJ P n t A g) (hr:Jm P n fs (off+c) B g'):Jm P n ((t,off) :: fs) off (A × B) fun p=>g p.1++g' p.2:=by
 subst hc
 intro H enc w base spare held cs hx hl
 obtain ⟨x,h1⟩:=hx (t,off) (List.mem_cons_self ..)
 obtain ⟨a,ha⟩:=h H enc w base spare held _ x h1
 obtain ⟨b,hb⟩:=hr H enc w base spare held cs (fun f' CT=>hx f' (List.mem_cons_of_mem _ CT)) (by simp only [aP,List.sum_cons] at hl;omega)
 refine ⟨(a,b),?_⟩
 have e:cs.drop off=(cs.drop off).take (P.cellsOf t)++cs.drop (off+P.cellsOf t):=by
  rw [←List.drop_drop];exact (List.take_append_drop _ _).symm
 rw [e];exact ha.append hb
theorem Jq {fs:Array Field} {l:List (TypeId × Nat)} {A B:Type} {g:A→List TV} {g':B→List TV} (ht:P.underlying t=some (.struct fs)) (hl:(fs.toList.map fun f=>(f.type,f.offset))=l) (hc:P.cellsOf t=(l.map fun f=>P.cellsOf f.1).sum) (hr:∀m,m<n→Jm P m l 0 A g) (f:A→B) (hf:∀a,g a=g' (f a)):tJ P n t B g':=by
 intro H enc w base spare held cs x h
 obtain ⟨xs,m,rfl,_,h1,h2,h3⟩:=DataW.trod_struct ht h
 obtain ⟨a,ha⟩:=hr m (Nat.lt_succ_self m) H enc w base spare held cs (fun p hp=>by
  rw [←hl] at hp
  obtain ⟨f,hf,rfl⟩:=aS.1 hp
  obtain ⟨i,hi⟩:=List.getElem?_of_mem hf
  have eL:=(av.1 hi).1
  have:=h3 i f (by simpa using hi)
  have EV:i<xs.length:=by rw [h2];simpa using eL
  rw [ah EV] at this
  exact ⟨_,this⟩) (by rw [h1,hc];simp)
 exact ⟨f a,by rw [←hf];simpa using ha⟩
def fieldsOf (P:Program) (t:TypeId):Option (List (TypeId × Nat)):=match P.underlying t with
 | some (.struct fs)=>some (fs.toList.map fun f=>(f.type,f.offset))
 | _=>none
theorem Jo {l:List (TypeId × Nat)} (h:fieldsOf P t=some l):∃fs,P.underlying t=some (.struct fs)∧(fs.toList.map fun f=>(f.type,f.offset))=l:=by
 unfold fieldsOf at h
 split at h
 ·rename_i fs e;cases h;exact ⟨fs,e,rfl⟩
 ·cases h
structure ValTys (P:Program) (tv tf tk ti tu ts tb ty:TypeId):Prop where
 v:fieldsOf P tv=some [(ti,0),(tu,1),(tu,2),(tu,3),(ts,4),(ts,5),(ti,6),(tb,7),(tk,8)]
 f:fieldsOf P tf=some [(ts,0),(tv,1)]
 k:P.underlying tk=some (.slice tf)
 i:P.underlying ti=some (.int .i64)
 u:P.underlying tu=some (.int .u64)
 s:P.underlying ts=some .string
 b:P.underlying tb=some (.slice ty)
 y:P.underlying ty=some (.int .u8)
 cv:P.cellsOf tv=9
 cf:P.cellsOf tf=10
 ck:P.cellsOf tk=1
 ci:P.cellsOf ti=1
 cu:P.cellsOf tu=1
 cs:P.cellsOf ts=1
 cb:P.cellsOf tb=1
 cy:P.cellsOf ty=1
theorem qo {y:TypeId} (ht:P.underlying t=some (.slice y)) (hy:P.underlying y=some (.int .u8)) (hc:P.cellsOf y=1):tJ P n t IY fun l=>[.sl .bs l] :=
 qn (st := .bs) ht hc (by decide) fun _ _=>vT hy
theorem ValTys.val {tv tf tk ti tu ts tb ty:TypeId} (T:ValTys P tv tf tk ti tu ts tb ty):∀n,tJ P n tv Val Val.cells∧tJ P n tf bx bx.cells:=by
 intro n
 induction n using Nat.strongRecOn with
 | _ n ih =>
  have hv:∀m,m≤n→(∀k,k<m→tJ P k tf bx bx.cells)→tJ P m tv Val Val.cells:=fun m hm KX=>by
   obtain ⟨fs,h1,h2⟩:=Jo T.v
   have R:=fun (k:Nat) (hk:k<m)=>(Ji (off:=0) T.ci (Jt T.i) (Ji T.cu (Jr T.u) (Ji T.cu (Jr T.u) (Ji T.cu (Jr T.u) (Ji T.cs (Js T.s) (Ji T.cs (Js T.s) (Ji T.ci (Jt T.i) (Ji T.cb (qo T.b T.y T.cy)
     (Ji T.ck (qn (st := .fl) T.k T.cf (by decide) fun j hj=>KX j (by omega)) JN)))))))):Jm P k _ 0 _ _)
   exact Jq h1 h2 (by simp [T.cv,T.ci,T.cu,T.cs,T.cb,T.ck]) R (fun a=>(⟨a.1,a.2.1,a.2.2.1,a.2.2.2.1,a.2.2.2.2.1,a.2.2.2.2.2.1,a.2.2.2.2.2.2.1,a.2.2.2.2.2.2.2.1,a.2.2.2.2.2.2.2.2.1⟩:Val)) (fun a=>rfl)
  refine ⟨hv n (Nat.le_refl n) fun k hk=>(ih k hk).2,?_⟩
  obtain ⟨fs,h1,h2⟩:=Jo T.f
  have R:=fun (k:Nat) (hk:k<n)=>(Ji (off:=0) T.cs (Js T.s) (Ji T.cv (hv k (by omega) fun j hj=>(ih j (by omega)).2) JN):Jm P k _ 0 _ _)
  exact Jq h1 h2 (by simp [T.cf,T.cv,T.cs]) R (fun a=>bx.of a.1 a.2.1) (fun a=>by simp [bx.of,bx.cells,Val.cells,bx.name,bx.kind,bx.bits,bx.high,bx.low,bx.text,bx.more,bx.sub,bx.bytes,bx.kids])
end
end Go.Eng
set_option maxRecDepth 20000
namespace Go.Eng
namespace dp
def jg (r:Int):Bool:=decide (0≤r∧r≤1114111∧(r<55296∨57343<r))
def cont:Nat→Nat→IY→Option Nat
 | r,0,_=>some r
 | _,_+1,[]=>none
 | r,k+1,c :: l=>if 128≤c.toNat∧c.toNat<192 then cont (r * 64+(c.toNat - 128)) k l else none
def jz (r more least:Nat) (l:IY):Int × Int :=
 match cont r more l with
 | some r=>if r<least∨jg r=false then (0,0) else ((r:Int),(more+1:Int))
 | none=>(0,0)
def rune:IY→Int × Int
 | []=>(0,0)
 | c :: l =>
  if c.toNat<128 then ((c.toNat:Int),1)
  else if 192≤c.toNat∧c.toNat<224 then jz (c.toNat - 192) 1 128 l
  else if 224≤c.toNat∧c.toNat<240 then jz (c.toNat - 224) 2 2048 l
  else if 240≤c.toNat∧c.toNat<248 then jz (c.toNat - 240) 3 65536 l
  else (0,0)
def iY (b:IY) (i:Int):Int × Int:=if i<0∨(b.length:Int)≤i then (0,0) else rune (b.drop i.toNat)
def kK:Nat→IY→Nat × Nat
 | 0,_=>(0,0)
 | n+1,l=>if (rune l).2=0 then (0,0) else let q:=kK n (l.drop (rune l).2.toNat);(q.1+(rune l).2.toNat,q.2+1)
def look (l:IY):Nat × Nat:=kK l.length l
def whole (l:IY):Bool:=decide ((look l).1=l.length)
def zero (l:IY):Bool:=l.contains 0
end dp
end Go.Eng
set_option maxRecDepth 20000
namespace Go.Eng
mutual
def bx.dk:bx→Nat
 | .mk n _ _ _ _ t m _ y ks=>1+n.length+t.length+m.length+y.length+bx.cw ks
def bx.cw:List bx→Nat
 | []=>0
 | f :: r=>bx.dk f+bx.cw r
end
namespace Tree
def uo:List IY:=[[],[100,111,117,98,108,101],[115,116,114,105,110,103],[100,111,99,117,109,101,110,116],[97,114,114,97,121],[98,105,110,97,114,121],[117,110,100,101,102,105,110,101,100],[111,98,106,101,99,116,105,100],[98,111,111,108],[100,97,116,101],[110,117,108,108],[114,101,103,101,120],[112,111,105,110,116,101,114],[99,111,100,101],[115,121,109,98,111,108],[115,99,111,112,101,100],[105,110,116,51,50],[116,105,109,101,115,116,97,109,112],[105,110,116,54,52],[100,101,99,105,109,97,108]]
def name (k:Int):IY :=
 if k=127 then [109,97,120,107,101,121]
 else if k=255 then [109,105,110,107,101,121]
 else if k<0∨20≤k then []
 else uo.getD k.toNat []
def kinds:List Int:=[1,2,3,4,5,6,7,8,9,10,11,12,13,14,15,16,17,18,19,127,255]
def fu (i:Nat) (k:Int):Bool :=
 match i with
 | 0=>decide (k∈[1,9,17,18,16,8])
 | 1=>decide (k=19)
 | 2=>decide (k∈[2,13,14,11,12,15])
 | 3=>decide (k=11)
 | 4=>decide (k=5)
 | 5=>decide (k∈[5,7,12])
 | _=>decide (k∈[3,4,15])
def fieldsOK (v:Val):Bool :=
 (fu 0 v.kind || decide (v.bits=0))&&(fu 1 v.kind || (decide (v.high=0)&&decide (v.low=0)))&&(fu 2 v.kind || decide (v.text=[]))&&(fu 3 v.kind || decide (v.more=[])) &&
 (fu 4 v.kind || decide (v.sub=0))&&(fu 5 v.kind || decide (v.bytes=[]))&&(fu 6 v.kind || decide (v.kids=[])) &&
 (!decide (v.kind=16) || decide (v.bits<4294967296))&&(!decide (v.kind=8) || decide (v.bits<2))&&(decide (0≤v.sub)&&decide (v.sub≤255))&&(!(decide (v.kind=7) || decide (v.kind=12)) || decide (v.bytes.length=12))
def dr (s:IY) (plain:Bool):Bool:=dp.whole s&&!(plain&&dp.zero s)
def own (v:Val):Int :=
 if name v.kind=[] then 5
 else if fieldsOK v=false then 1
 else if dr v.text (decide (v.kind=11))=false∨dr v.more (decide (v.kind=11))=false then 4
 else 0
def oY (v:Val) (n:IY):Int:=if own v≠0 then own v else if dr n true=false then 4 else 0
mutual
def hU:bx→List Int→List Int × Int
 | .mk n k b h l t m s y ks,p=>if oY ⟨k,b,h,l,t,m,s,y,ks⟩ n≠0 then (p,oY ⟨k,b,h,l,t,m,s,y,ks⟩ n) else uX ks 0 p
def uX:List bx→Nat→List Int→List Int × Int
 | [],_,_=>([],0)
 | f :: r,i,p=>if (hU f (p++[(i:Int)])).2≠0 then hU f (p++[(i:Int)]) else uX r (i+1) p
end
mutual
def depth:bx→Nat
 | .mk _ k _ _ _ _ _ _ _ ks=>if k=3∨k=4∨k=15 then jJ ks+1 else 0
def jJ:List bx→Nat
 | []=>0
 | f :: r=>max (depth f) (jJ r)
end
end Tree
namespace DB
def room (left:Int):List Int→Int
 | []=>left
 | s :: r=>if left<0∨left<s then -1 else room (left - s) r
mutual
def value (left:Int):bx→Int
 | .mk _ _ _ _ _ t m _ y ks=>values (room left [2,t.length,m.length,y.length]) ks
def values (left:Int):List bx→Int
 | []=>left
 | f :: r=>if left<0 then left else values (value (room left [(f.name.length:Int)]) f) r
end
end DB
end Go.Eng
set_option maxRecDepth 20000
namespace Go.Eng
namespace Bs
def ff:Nat→Nat→IY
 | 0,_=>[]
 | n+1,v=>UInt8.ofNat (v % 256) :: ff n (v / 256)
def gD:IY→Nat
 | []=>0
 | c :: r=>c.toNat+256 * gD r
def vd (b:IY) (p:Nat):Nat:=gD ((b.drop p).take 4)
def cU (b:IY) (p:Nat):Int:=if vd b p<2147483648 then (vd b p:Int) else (vd b p:Int) - 4294967296
def gM (k:Int):Bool:=decide (k=1∨k=9∨k=17∨k=18)
def gF (k:Int):Bool:=decide (k=2∨k=13∨k=14)
mutual
def size:bx→Nat
 | .mk _ k _ _ _ t m s y ks =>
  if gM k then 8 else if k=16 then 4 else if k=8 then 1 else if k=19 then 16 else if gF k then t.length+5 else if k=11 then t.length+m.length+2
  else if k=5 then (if s=2 then y.length+9 else y.length+5) else if k=7 then 12 else if k=12 then t.length+17 else if k=3∨k=4 then dC ks+5 else if k=15 then t.length+9+(dC ks+5) else 0
def dC:List bx→Nat
 | []=>0
 | f :: r=>f.name.length+2+size f+dC r
end
def fC (t:IY):IY:=ff 4 (t.length+1)++(t++[0])
def ib (s:IY):IY:=ff 4 (s.length+5)++(s++[0])
def nL (s:Int) (y:IY):IY:=if s=2 then ff 4 (y.length+4)++(UInt8.ofInt s :: (ff 4 y.length++y)) else ff 4 y.length++(UInt8.ofInt s :: y)
def nM (s:IY):IY:=ff 4 (s.length+4)++s
mutual
def enc:bx→IY
 | .mk _ k b h l t m s y ks =>
  if gM k then ff 8 b.toNat else if k=16 then ff 4 b.toNat else if k=8 then ff 1 b.toNat else if k=19 then ff 8 l.toNat++ff 8 h.toNat else if gF k then fC t else if k=11 then (t++[0])++(m++[0])
  else if k=5 then nL s y else if k=7 then y else if k=12 then fC t++y else if k=3∨k=4 then ib (dS ks) else if k=15 then nM (fC t++ib (dS ks)) else []
def dS:List bx→IY
 | []=>[]
 | f :: r=>UInt8.ofInt f.kind :: ((f.name++[0])++enc f++dS r)
end
def iR (l:List bx):IY:=ib (dS l)
def encode (v:Val):IY × Int × List Int :=
 if (Tree.hU (bx.of [] v) []).2≠0 then ([],(Tree.hU (bx.of [] v) []).2,(Tree.hU (bx.of [] v) []).1)
 else if v.kind≠3 then ([],5,[]) else if 16777216<size (bx.of [] v) then ([],9,[]) else (iR v.kids,0,[])
def may (l:eK):Bool:=decide (1≤l.depth∧l.depth≤200∧5≤l.size∧l.size≤16777216∧0≤l.out∧l.out≤67108864)
abbrev E:=Int × Nat
def can (r:bA) (n:Int):Bool:=decide (1≤n∧n≤8∧n≤(r.b.length:Int) - r.at_)
def fH (r:bA) (n:Int):IY:=if can r n=true then (r.b.drop r.at_.toNat).take n.toNat else []
def jA (r:bA) (n:Int):bA:=if can r n=true then ⟨r.b,r.at_+n⟩ else r
def qY (r:bA) (n:Int):Bool:=decide (0≤n∧n≤(r.b.length:Int) - r.at_)
def pW (r:bA) (n:Int):IY:=if qY r n=true then (r.b.drop r.at_.toNat).take n.toNat else []
def o0 (r:bA) (n:Int):bA:=if qY r n=true then ⟨r.b,r.at_+n⟩ else r
def jr (b:IY) (at_:Nat) (x:IY):IY:=b.take at_++(x++b.drop (at_+x.length))
def ctext (b:IY) (a:Int):IY × Int × Int :=
 if a<0∨(b.length:Int)<a then ([],0,1) else if Lib.indexByte (b.drop a.toNat) 0<0 then ([],0,2)
 else if dp.whole ((b.drop a.toNat).take (Lib.indexByte (b.drop a.toNat) 0).toNat)=false then ([],0,4) else ((b.drop a.toNat).take (Lib.indexByte (b.drop a.toNat) 0).toNat,a+Lib.indexByte (b.drop a.toNat) 0+1,0)
def fixed (k:Int):Nat:=if gM k then 8 else if k=16∨gF k∨k=12∨k=15 then 4 else if k=8 then 1 else if k=19 then 16 else if k=7 then 12 else if k=5 then 5 else 0
def ended (b:IY) (q z:Nat):Except E (IY × Nat) :=
 let r:=ctext (b.take z) q
 if r.2.2≠0 then .error (r.2.2,q) else .ok (r.1,r.2.1.toNat)
def pU (n:Int) (b:IY) (q z:Nat):Except E (IY × Nat) :=
 if n<1∨(z:Int) - q - 4<n then .error (6,q) else
 if b.getD (q+4+n.toNat - 1) 0≠0 then .error (3,q+4+n.toNat - 1) else
 if dp.whole ((b.drop (q+4)).take (n.toNat - 1))=false then .error (4,q+4) else .ok ((b.drop (q+4)).take (n.toNat - 1),q+4+n.toNat)
def text (b:IY) (q z:Nat):Except E (IY × Nat):=if z - q<4 then .error (2,q) else pU (cU b q) b q z
def yV (n:Int) (b:IY) (q z:Nat):Except E (Int × IY × Nat) :=
 if n<0∨(z:Int) - q - 5<n then .error (6,q) else
 if ((b.getD (q+4) 0).toNat:Int)=2 then (if n<4∨cU b (q+5)≠n - 4 then .error (6,q+5) else .ok (((b.getD (q+4) 0).toNat:Int),(b.drop (q+9)).take (n.toNat - 4),q+5+n.toNat))
 else .ok (((b.getD (q+4) 0).toNat:Int),(b.drop (q+5)).take n.toNat,q+5+n.toNat)
def binary (b:IY) (q z:Nat):Except E (Int × IY × Nat):=yV (cU b q) b q z
def mH (dc:IY→Nat→Nat→Int→Except E (List bx × Nat)) (n:Int) (b:IY) (q z:Nat):IY × Except E (List bx × Nat) :=
 if n<14∨(z:Int) - q<n then ([],.error (6,q)) else
 match text b (q+4) (q+n.toNat) with
 | .error e=>([],.error e)
 | .ok (s,x)=>(s,dc b x (q+n.toNat) 2)
def ew (dc:IY→Nat→Nat→Int→Except E (List bx × Nat)) (b:IY) (q z:Nat):IY × Except E (List bx × Nat):=mH dc (cU b q) b q z
def sub (b:IY) (q n:Nat):IY:=(b.drop q).take n
def cS (k:Int):Val:=⟨k,0,0,0,[],[],0,[],[]⟩
def xQ (dc:IY→Nat→Nat→Int→Except E (List bx × Nat)) (b:IY) (k:Int) (q z:Nat):Except E (Val × Nat) :=
 if k=3∨k=4 then (match dc b q z 0 with
  | .error e => .error e
  | .ok (l,x) => .ok ({ cS k with kids:=l },x))
 else if k=15 then (match (ew dc b q z).2 with
  | .error e => .error e
  | .ok (l,x) => .ok ({ cS k with text:=(ew dc b q z).1,kids:=l },x))
 else .ok (cS k,q)
def xO (dc:IY→Nat→Nat→Int→Except E (List bx × Nat)) (b:IY) (k:Int) (q z:Nat):Except E (Val × Nat) :=
 if gF k then (match text b q z with
  | .error e => .error e
  | .ok (s,x) => .ok ({ cS k with text:=s },x))
 else if k=12 then (match text b q z with
  | .error e => .error e
  | .ok (s,x)=>if z - x<12 then .error (2,x) else .ok ({ cS k with text:=s,bytes:=sub b x 12 },x+12))
 else if k=11 then (match ended b q z with
  | .error e => .error e
  | .ok (s,x)=>match ended b x z with
   | .error e => .error e
   | .ok (m,y) => .ok ({ cS k with text:=s,more:=m },y))
 else if k=5 then (match binary b q z with
  | .error e => .error e
  | .ok (s,y,x) => .ok ({ cS k with sub:=s,bytes:=y },x))
 else xQ dc b k q z
def eM (dc:IY→Nat→Nat→Int→Except E (List bx × Nat)) (b:IY) (k:Int) (q z:Nat):Except E (Val × Nat) :=
 if z - q<fixed k then .error (2,q)
 else if gM k∨k=16∨k=8 then (if k=8∧1<gD (sub b q 1) then .error (3,q) else .ok ({ cS k with bits:=UInt64.ofNat (gD (sub b q (fixed k))) },q+fixed k))
 else if k=19 then .ok ({ cS k with low:=UInt64.ofNat (gD (sub b q 8)),high:=UInt64.ofNat (gD (sub b (q+8) 8)) },q+16)
 else if k=7 then .ok ({ cS k with bytes:=sub b q 12 },q+12)
 else xO dc b k q z
def rH (vl:Int→Nat→Nat→Except E (Val × Nat)) (b:IY) (z:Nat):Nat→Nat→List bx→Except E (List bx × Nat)
 | 0,at_,_ => .error (3,at_)
 | n+1,at_,acc =>
  if at_=z then (if b.getD z 0≠0 then .error (3,z) else .ok (acc,z+1)) else
  if b.getD at_ 0=0 then .error (3,at_) else
  if Tree.name ((b.getD at_ 0).toNat:Int)=[] then .error (5,at_) else
  let r:=ctext (b.take z) ((at_:Int)+1)
  if r.2.2≠0 then .error (r.2.2,at_+1) else
  match vl ((b.getD at_ 0).toNat:Int) r.2.1.toNat z with
  | .error e => .error e
  | .ok (v,x)=>rH vl b z n x (acc++[bx.of r.1 v])
def wS (vl:Int→Nat→Nat→Except E (Val × Nat)) (n:Int) (b:IY) (p z:Nat) (fZ:Int):Except E (List bx × Nat) :=
 if n<5∨(z:Int) - p<n∨(fZ=2∧(p:Int)+n≠z) then .error (6,p) else
 if fZ=1∧(p:Int)+n<z then .error (7,p+n.toNat) else
 rH vl b (p+n.toNat - 1) n.toNat (p+4) []
def doc:Nat→IY→Nat→Nat→Int→Except E (List bx × Nat)
 | 0,_,p,_,_ => .error (8,p)
 | d+1,b,p,z,fZ=>if z - p<4 then .error (2,p) else wS (eM (doc d) b) (cU b p) b p z fZ
def decode (b:IY) (l:eK):Except E (List bx) :=
 if may l=false then .error (1,0) else if l.size<(b.length:Int) then .error (9,0) else
 match doc l.depth.toNat b 0 b.length 1 with
 | .error e => .error e
 | .ok (ks,_) => .ok ks
def iI {A:Type}:Except E A→cq
 | .ok _=>⟨0,0,[]⟩
 | .error (e,a)=>⟨e,a,[]⟩
def gh {A:Type} (z:A):Except E A→A
 | .ok x=>x
 | .error _=>z
def nN:Except E (List bx)→Val
 | .ok ks=>⟨3,0,0,0,[],[],0,[],ks⟩
 | .error _=>cS 0
end Bs
end Go.Eng
set_option maxRecDepth 20000
namespace Go.Eng
structure bS where
 fk:Int
 depth:Int
 size:Int
 out:Int
 at_:Int
 bT:Bool
 deriving Inhabited
namespace Gt
def iP (b:IY) (a:Int):Int × Bool:=if 0≤a∧a+4≤(b.length:Int) then (Bs.cU b a.toNat,true) else (0,false)
def yr (g:bS):eK:=⟨g.depth,g.size,g.out⟩
def write (l:eK) (v:Val):IY × cq :=
 if Bs.may l=false then ([],⟨1,0,[]⟩)
 else if (Bs.encode v).2.1≠0 then ([],⟨(Bs.encode v).2.1,0,(Bs.encode v).2.2⟩)
 else if l.out<((Bs.encode v).1.length:Int) then ([],⟨9,0,[]⟩) else ((Bs.encode v).1,⟨0,0,[]⟩)
def trans (l:eK) (b:IY):IY × cq :=
 if (Bs.iI (Bs.decode b l)).err≠0 then ([],Bs.iI (Bs.decode b l)) else write l (Bs.nN (Bs.decode b l))
def vS (a:Int) (r:IY × cq):Out:=⟨a,r.1,[],r.2.err,if r.2.err=0 then r.2.at_ else r.2.at_+a,r.2.path⟩
def j0 (e a:Int):Out:=⟨a,[],[],e,a,[]⟩
def fA (l:eK):Nat→Int→IY→List Out→List Out × Int × IY × Bool
 | 0,a,h,acc=>(acc,a,h,false)
 | n+1,a,h,acc =>
  if h.length<4 then (acc,a,h,false)
  else if Bs.cU h 0<5 then (acc++[j0 6 a],a,[],true)
  else if l.size<Bs.cU h 0 then (acc++[j0 9 a],a,[],true)
  else if (h.length:Int)<Bs.cU h 0 then (acc,a,h,false)
  else fA l n (a+Bs.cU h 0) (h.drop (Bs.cU h 0).toNat) (acc++[vS a (trans l (h.take (Bs.cU h 0).toNat))])
def feed (g:bS) (piece h:IY):List Out × bS × IY :=
 if g.bT then ([],g,h)
 else ((fA (yr g) (h.length+piece.length+1) g.at_ (h++piece) []).1,
  ⟨g.fk,g.depth,g.size,g.out,(fA (yr g) (h.length+piece.length+1) g.at_ (h++piece) []).2.1,(fA (yr g) (h.length+piece.length+1) g.at_ (h++piece) []).2.2.2⟩,
  (fA (yr g) (h.length+piece.length+1) g.at_ (h++piece) []).2.2.1)
def dT (g:bS):bS:=⟨g.fk,g.depth,g.size,g.out,g.at_,true⟩
def end_ (g:bS) (h:IY):List Out × bS × IY :=
 if g.bT=true∨h=[] then ([],dT g,h) else ([j0 2 g.at_],dT g,[])
end Gt
end Go.Eng
namespace Go.Eng
section
variable (P:Program) (E:cz) (nt n:Nat) {R:Type}
noncomputable abbrev Ax (o:Ev R):nP R:=di fun h S K=>match h with
 | .l G a=>match eY nt G S with
  | some xs=>gZ (Bw (o a) G) (Ab nt G) n xs K
  | none=>none
 | _=>none
noncomputable abbrev oO (f:Nat→Option (Ev R)) (ls:List (Nat × GL)) (a:Hint) (K:dh R):dh R:=fun e S =>
 match tP nt ls e S with
 | none=>K e S
 | some none=>none
 | some (some j)=>gZ (u9 f ls a) (tP nt ls) n j K
noncomputable abbrev yb (f:nP R):nP R:=di fun h S K=>match h with
 | .sc ls a=>f.1 a S (oO nt n f.2 ls a K)
 | _=>none
noncomputable abbrev Bk (x:Operand) (fa fb:nP R):nP R:=di fun h S K=>match dQ E nt S 0 x with
 | some (.b t,.no)=>cond t (fa.1 h.s1 S K) (fb.1 h.s2 S K)
 | some (.ub e,.no)=>cond e none (fb.1 h.s2 S K)
 | _=>none
noncomputable def rG (c:Code):nP R :=
 Code.rec (motive:=fun _=>nP R)
  (di fun _ S K=>K .normal S)
  (fun _ ops draw=>di fun _ S K=>oP P E nt ops draw S (K .normal))
  (fun _ _ fa fb=>vK nt fa fb fb.1)
  (fun x _ _ fa fb=>Bk E nt x fa fb)
  (fun id _ f=>di fun h S K=>f.1 h.s1 S (gH id K))
  (fun _ f=>Ax nt n f.1)
  (fun _ _ _ _ _ _=>di fun _ _ _=>none)
  (fun id=>di fun _ S K=>K (.exit id) S)
  (fun _ f=>yb nt n f)
  rW
  (fun l=>di fun _ S K=>K (.goto l) S)
  (di fun _ S K=>K .ret S)
  (fun _=>di fun _ _ _=>none) c
end
section
variable {R:Type}
def FI (K K':dh R):Prop:=∀e S r,K e S=some r→K' e S=some r
def Le (g g':Ev R):Prop:=∀h S K K' r,FI K K'→g h S K=some r→g' h S K'=some r
def D8:Option (Ev R)→Option (Ev R)→Prop
 | none,none=>True
 | some g,some g'=>Le g g'
 | _,_=>False
theorem po {ι:Type} {f f':ι→dh R→Option R} {tr:MX→St→Option (Option ι)} (hf:∀i K K' r,FI K K'→f i K=some r→f' i K'=some r):∀(m:Nat) (i:ι) (K K':dh R) (r:R),FI K K'→gZ f tr m i K=some r→gZ f' tr m i K'=some r
 | 0,_,_,_,_,_,h=>by cases h
 | m+1,i,K,K',r,hk,h=>by
  rw [gZ] at h ⊢
  refine hf i _ _ r (fun e S r he=>?_) h
  cases ht:tr e S with
  | none=>simp only [ht] at he ⊢;exact hk _ _ _ he
  | some j=>cases j with
   | none=>simp only [ht] at he;cases he
   | some j=>simp only [ht] at he ⊢;exact po hf m _ K K' r hk he
theorem Le.seq {nt:Nat} {g g' b b':Ev R} (h1:Le g g') (h2:Le b b'):Le (vL nt g b b) (vL nt g' b' b'):=by
 intro h S K K' r hk he
 have plain:∀{a c:Hint},g a S (tU (b c) K)=some r→g' a S (tU (b' c) K')=some r:=fun {a c} he=>by
  refine h1 _ _ _ _ _ (fun e S' r' hr=>?_) he
  cases e <;> first | exact h2 _ _ _ _ _ hk hr | exact hk _ _ _ hr
 cases h <;> first | exact plain he | skip
 rename_i G a c
 refine h1 _ _ _ _ _ (fun e S' r' hr=>?_) he
 cases e <;> first | exact hk _ _ _ hr | skip
 simp only [lN] at hr ⊢
 split at hr
 ·rename_i xs e;exact h2 _ _ _ _ _ hk hr
 ·cases hr
theorem Ba (P:Program) (E:cz) (nt n:Nat) (c:Code):Le (R:=R) (rG P E nt n c).1 (hZ P E nt c)∧∀l,D8 ((rG (R:=R) P E nt n c).2 l) (lZ P E nt c l):=by
  have mg:∀{f g:Ev R} (l:Nat),D8 ((di f).2 l) ((di g).2 l):=fun l=>trivial
  induction c with
  | skip=>exact ⟨fun h S K K' r hk he=>hk _ _ _ he,fun _=>trivial⟩
  | label l =>
    refine ⟨fun h S K K' r hk he=>hk _ _ _ he,fun l'=>?_⟩
    show D8 (iF (R:=R) l l') (iF l l')
    unfold iF
    cases Nat.beq l l' with
    | true=>exact fun h S K K' r hk he=>hk _ _ _ he
    | false=>trivial
  | exit id=>exact ⟨fun h S K K' r hk he=>hk _ _ _ he,fun _=>trivial⟩
  | goto l=>exact ⟨fun h S K K' r hk he=>hk _ _ _ he,fun _=>trivial⟩
  | ret=>exact ⟨fun h S K K' r hk he=>hk _ _ _ he,fun _=>trivial⟩
  | region id ops draw =>
    refine ⟨fun h S K K' r hk he=>?_,fun _=>trivial⟩
    obtain ⟨p,hp⟩:=qf (R:=R) P E (nt:=nt) ops draw S
    have he:oP P E nt ops draw S (K .normal)=some r:=he
    show oP P E nt ops draw S (K' .normal)=some r
    rw [hp] at he ⊢
    cases p with
    | none=>cases he
    | some S'=>exact hk _ _ _ he
  | seq a b rX pM =>
    refine ⟨rX.1.seq pM.1,fun l=>?_⟩
    have e1:=rX.2 l
    have e2:=pM.2 l
    show D8 (nF nt (rG P E nt n a).2 (rG P E nt n b).2 (rG P E nt n b).1 (rG P E nt n b).1 l) (nF nt (lZ P E nt a) (lZ P E nt b) (hZ P E nt b) (hZ P E nt b) l)
    unfold nF
    cases h1:(rG (R:=R) P E nt n a).2 l <;> cases h2:lZ (R:=R) P E nt a l <;> rw [h1,h2] at e1 <;> first | exact e1.elim | skip
    · simp only
      cases h1:(rG (R:=R) P E nt n b).2 l <;> cases h2:lZ (R:=R) P E nt b l <;> rw [h1,h2] at e2 <;> first | exact e2.elim | skip
      · trivial
      · exact fun h S K K' r hk he=>e2 _ _ _ _ _ hk he
    · exact Le.seq e1 pM.1
  | cond x a b rX pM =>
    refine ⟨fun h S K K' r hk he=>?_,fun _=>trivial⟩
    have he:(match dQ E nt S 0 x with | some (.b t,.no)=>cond t ((rG P E nt n a).1 h.s1 S K) ((rG P E nt n b).1 h.s2 S K) | some (.ub e,.no)=>cond e none ((rG P E nt n b).1 h.s2 S K) | _=>none)=some r:=he
    show (match dQ E nt S 0 x with | some (.b t,.no)=>cond t (hZ P E nt a h.s1 S K') (hZ P E nt b h.s2 S K') | some (.ub e,.no)=>cond e (both (hZ P E nt a h.s1 S K') (hZ P E nt b h.s2 S K')) (hZ P E nt b h.s2 S K') | _=>none)=some r
    split at he
    · rename_i t ho
      try simp only [ho]
      cases t with
      | true=>exact rX.1 _ _ _ _ _ hk he
      | false=>exact pM.1 _ _ _ _ _ hk he
    · rename_i e ho
      try simp only [ho]
      cases e with
      | true=>cases he
      | false=>exact pM.1 _ _ _ _ _ hk he
    · cases he
  | block id a ih =>
    refine ⟨fun h S K K' r hk he=>ih.1 _ _ _ _ _ (fun e S' r' hr=>?_) he,fun _=>trivial⟩
    cases e <;> first | exact hk _ _ _ hr | skip
    rename_i j
    cases hb:Nat.beq j id <;> simp only [gH,hb] at hr ⊢ <;> exact hk _ _ _ hr
  | loop a ih =>
    refine ⟨fun h S K K' r hk he=>?_,fun _=>trivial⟩
    cases h <;> first | (cases he;done) | skip
    rename_i G a'
    have he:(match eY nt G S with | some xs=>gZ (Bw ((rG P E nt n a).1 a') G) (Ab nt G) n xs K | none=>none)=some r:=he
    show mP nt (hZ P E nt a a') G S K'=some r
    unfold mP
    split at he
    · rename_i xs hx
      try simp only [hx]
      exact (gU (mA ((jR P E a).1 a') G) xs K' r).2 ⟨n,po (f:=Bw ((rG P E nt n a).1 a') G) (fun i K K' r hk hf=>ih.1 a' (dn G i) K K' r hk hf) n xs K K' r hk he⟩
    · cases he
  | rangeFunc _ _ _ _ _ _=>exact ⟨fun h S K K' r hk he=>(by cases he),fun _=>trivial⟩
  | scope a ih =>
    refine ⟨fun h S K K' r hk he=>?_,fun _=>trivial⟩
    cases h <;> first | (cases he;done) | skip
    rename_i ls a'
    refine ih.1 _ _ _ _ _ (fun e S' r' hr=>?_) he
    show fY nt (lZ P E nt a) ls a' K' e S'=some r'
    have hr:oO nt n (rG P E nt n a).2 ls a' K e S'=some r':=hr
    unfold oO at hr
    unfold fY nh
    cases ht:tP nt ls e S' with
    | none=>simp only [ht] at hr ⊢;exact hk _ _ _ hr
    | some j =>
     cases j with
     | none=>simp only [ht] at hr;cases hr
     | some j =>
      simp only [ht] at hr ⊢
      refine (gU (mz (jR P E a).2 ls a') j K' r').2 ⟨n,po (fun i K K' r hk hf=>?_) n j K K' r' hk hr⟩
      unfold u9 at hf ⊢
      have e1:=ih.2 i.1
      cases h1:(rG (R:=R) P E nt n a).2 i.1 <;> cases h2:lZ (R:=R) P E nt a i.1 <;> rw [h1,h2] at e1 <;> first | exact e1.elim | skip
      · rw [h1] at hf;cases hf
      · rw [h1] at hf
        cases hG:mQ i.1 ls with
        | none=>simp only [hG] at hf;cases hf
        | some G=>simp only [hG] at hf ⊢;exact e1 _ _ _ _ _ hk hf
  | refuse _=>exact ⟨fun h S K K' r hk he=>(by cases he),fun _=>trivial⟩
end
noncomputable def runN (P:Program) (E:cz) (n f:Nat) (sg:cg) (h:Hint) (ins:List TV):OT :=
 match P.funcs[f]? with
 | some fn=>match fn.body with
  | some c=>cX (px fn sg&&uK fn sg ins) ((rG P E fn.ntmps n c).1 h (BO fn.params.size sg ins) (si P fn.ntmps fn sg))
  | none=>none
 | none=>none
theorem yc {P:Program} {E:cz} {n f:Nat} {sg:cg} {h:Hint} {ins outs:List TV} (he:runN P E n f sg h ins=some outs):dD P E f sg h ins=some outs:=by
 unfold runN at he
 unfold dD
 cases hf:P.funcs[f]? with
 | none=>rw [hf] at he;cases he
 | some fn =>
 cases hb:fn.body with
 | none=>simp only [hf,hb] at he;cases he
 | some c =>
 simp only [hf,hb] at he ⊢
 obtain ⟨h1,h2⟩:=br.1 he
 refine br.2 ⟨h1,?_⟩
 rw [←tw]
 exact (Ba P E _ n _).1 _ _ _ _ _ (fun _ _ _ h=>h) h2
abbrev Iw:=cg × (Hint × List Nat)
abbrev zh:=List (Nat × Iw)
def ki:List TV→List TV→Bool
 | [],[]=>true
 | .sl .is a :: r,.sl .is b :: t=>decide (a=b)&&ki r t
 | .sl .bs a :: r,.sl .bs b :: t=>decide (a=b)&&ki r t
 | _,_=>false
theorem lb:∀{a b:List TV},ki a b=true→a=b
 | [],[],_=>rfl
 | [],_ :: _,h=>by cases h
 | x :: r,[],h=>by cases x <;> first | cases h | (rename_i t l;cases t <;> cases h)
 | x :: r,y :: t,h=>by
  unfold ki at h
  split at h
  ·rename_i e;cases e
  ·rename_i e1 e2
   injection e1 with a1 a2;injection e2 with b1 b2
   subst a1 a2 b1 b2
   rw [ae] at h
   rw [au h.1,lb h.2]
  ·rename_i e1 e2
   injection e1 with a1 a2;injection e2 with b1 b2
   subst a1 a2 b1 b2
   rw [ae] at h
   rw [au h.1,lb h.2]
  ·cases h
noncomputable def told (l:List TV):OT→iV
 | some o=>cond (ki (o.drop (o.length - l.length)) l) (.ok (o.take (o.length - l.length))) .err
 | none => .err
theorem tQ {l:List TV} {r:OT} {outs:List TV} (h:(told l r).holds outs):r=some (outs++l):=by
 cases r with
 | none=>exact h.elim
 | some o =>
  have h:(cond (ki (o.drop (o.length - l.length)) l) (iV.ok (o.take (o.length - l.length))) iV.err).holds outs:=h
  cases hs:ki (o.drop (o.length - l.length)) l with
  | false=>rw [hs] at h;exact h.elim
  | true =>
   rw [hs] at h
   have h:outs=o.take (o.length - l.length):=h
   have hd:=lb hs
   have e:o=o.take (o.length - l.length)++o.drop (o.length - l.length):=(List.take_append_drop _ _).symm
   rw [hd,←h] at e
   exact congrArg some e
noncomputable def tX (P:Program) (n:Nat) (ty:ze) (z:Zs) (base:List (Nat × (eE × cg))) (rs:zh):Nat→cz
 | 0=>dH ty z base []
 | d+1=>⟨fun f=>match kJ rs f with
  | some p=>(fun ins=>told (fN p.1.md ins) (runN P { tX P n ty z base rs d with ld:=p.2.2 } n f p.1 p.2.1 ins),p.1)
  | none=>look sV base f,kJ ty,kJ z,[]⟩
theorem sO {P:Program} {gl:Nat→Option (List Value)} {n:Nat} {ty:ze} {z:Zs} {base:List (Nat × (eE × cg))} {rs:zh} (hm:P.follows .mixedOrders=true∧nT P ty=true∧tL P z=true) (hE:∀p∈base,bE P gl p.1 p.2):∀d,(∀ld,fj P { tX P n ty z base rs d with ld:=ld })∧∀f,bE P gl f ((tX P n ty z base rs d).fs f)
 | 0=>⟨fun ld=>sf (ld:=ld) hm.1 hm.2.1 hm.2.2,sh hE⟩
 | d+1=>by
  obtain ⟨h1,h2⟩:=sO (n:=n) (rs:=rs) hm hE d
  refine ⟨fun ld=>?_,fun f=>?_⟩
  ·have h0:=sf (l:=base) (ld:=ld) hm.1 hm.2.1 hm.2.2
   exact ⟨h0.mixed,h0.ty,h0.z⟩
  show bE P gl f (match kJ rs f with | some p=>_ | none=>_)
  split
  ·rename_i p hp
   refine sK (h1 p.2.2) h2 p.2.1 fun ins outs hc=>?_
   refine yc (n:=n) ?_
   have hc:(told (fN p.1.md ins) (runN P { tX P n ty z base rs d with ld:=p.2.2 } n f p.1 p.2.1 ins)).holds outs:=hc
   exact tQ hc
  ·exact sh hE f
theorem runs {P:Program} {gl:Nat→Option (List Value)} {n d:Nat} {ty:ze} {z:Zs} {base:List (Nat × (eE × cg))} {rs:zh} (hm:P.follows .mixedOrders=true∧nT P ty=true∧tL P z=true) (hE:∀p∈base,bE P gl p.1 p.2) (f:Nat):bE P gl f ((tX P n ty z base rs d).fs f):=(sO hm hE d).2 f
end Go.Eng
set_option maxRecDepth 100000
namespace Go.Eng
noncomputable abbrev PG:=Go.Proofs.Tryz.prog
open Go.Proofs
def sc (l:List Nat):GL:=l.map fun k=>(k,.no)
@[reducible] def fJ:ze:=[(22,.bs,1),(26,.fl,136),(32,.is,8),(44,.J7,24),(49,.ou,96),(53,.vl,120),(57,.mh,24),(190,.ss,16)]
@[reducible] def zs:Zs:=[(24,[(.i .i64 (0:Int)),(.i .i64 (0:Int)),(.i .i64 (0:Int))]),(28,[(.i .i64 (0:Int)),(.u64 (0:UInt64)),(.u64 (0:UInt64)),(.u64 (0:UInt64)),(.s ([]:IY)),(.s ([]:IY)),(.i .i64 (0:Int)),(.nl .bs),(.nl .fl)]),(34,[(.i .i64 (0:Int)),(.i .i64 (0:Int)),(.nl .is)]),(59,[(.i .i64 (0:Int)),(.nl .bs),(.nl .mh),(.i .i64 (0:Int)),(.i .i64 (0:Int)),(.nl .is)]),(67,[(.nl .bs),(.i .i64 (0:Int))]),(76,[(.s ([]:IY)),(.i .i64 (0:Int)),(.u64 (0:UInt64)),(.u64 (0:UInt64)),(.u64 (0:UInt64)),(.s ([]:IY)),(.s ([]:IY)),(.i .i64 (0:Int)),(.nl .bs),(.nl .fl)]),(79,[(.i .i64 (0:Int)),(.i .i64 (0:Int)),(.i .i64 (0:Int)),(.i .i64 (0:Int)),(.i .i64 (0:Int)),(.nl .bs),(.b false)]),(99,[(.nl .bs)]),(118,[(.s ([]:IY)),(.s ([]:IY)),(.s ([]:IY)),(.s ([]:IY)),(.s ([]:IY)),(.s ([]:IY)),(.s ([]:IY)),(.s ([]:IY)),(.s ([]:IY)),(.s ([]:IY)),(.s ([]:IY)),(.s ([]:IY)),(.s ([]:IY)),(.s ([]:IY)),(.s ([]:IY)),(.s ([]:IY)),(.s ([]:IY)),(.s ([]:IY)),(.s ([]:IY)),(.s ([]:IY))]),(156,[(.nl .bs),(.i .i64 (0:Int))])]
theorem bP:PG.follows .mixedOrders=true∧nT PG fJ=true∧tL PG zs=true:=⟨by kernel_rfl,by kernel_rfl,by kernel_rfl⟩
def Errs:Type:={p:Value × Value // (p.1 = .nilIface∨∃te pe,p.1 = .iface te pe)∧(p.2 = .nilIface∨∃te pe,p.2 = .iface te pe)}
noncomputable def cnGl (ee:Errs):Nat→Option (List Value):=yJ [(5,pX .u8 (Lib.deBruijn64tab.map Int.ofNat)),(3,pX .u64 Lib.pow10Tab),(1,[ee.1.1]),(2,[ee.1.2])]
noncomputable section
def bX.sg:cg:={}
def bX.c:eE:=fun l=>match l with
 | [.s s,.u8 c] => .ok [(.i .i64 (Lib.indexByte s c))]
 | _ => .err
def dB.sg:cg:={}
def dB.c:eE:=fun l=>match l with
 | [.s s,.s t] => .eC (decide (t.length=1)) [(.i .i64 (Lib.indexByte s (t.getD 0 0)))]
 | _ => .err
def eR.sg:cg:={}
def eR.c:eE:=fun l=>match l with
 | [.i .i64 r] => .ok [(.b (dp.jg r))]
 | _ => .err
def bB.sg:cg:={ bC:=2 }
def bB.c:eE:=fun l=>match l with
 | [.sl .bs b,.i .i64 at_] => .eC (decide (b.length≤1099511627776)) [(.i .i64 ((dp.iY b at_).1)),(.i .i64 ((dp.iY b at_).2))]
 | _ => .err
def bK.sg:cg:={ bC:=2 }
def bK.c:eE:=fun l=>match l with
 | [.sl .bs b] => .eC (decide (b.length≤1099511627776)) [(.i .i64 (((dp.look b).1:Int))),(.i .i64 (((dp.look b).2:Int)))]
 | _ => .err
def utf_Check.sg:cg:={ bC:=2 }
def utf_Check.c:eE:=fun l=>match l with
 | [.sl .bs b] => .eC (decide (b.length≤1099511627776)) [(.i .i64 (((dp.look b).1:Int))),(.b (dp.whole b))]
 | _ => .err
def cH.sg:cg:={}
def cH.c:eE:=fun l=>match l with
 | [.i .i64 k] => .ok [(.s (Tree.name k))]
 | _ => .err
def bq.sg:cg:={}
def bq.c:eE:=fun l=>match l with
 | [.ag [.i .i64 iq,.u64 iv,.u64 ir,.u64 ik,.s ie,.s ij,.i .i64 ig,.sl .bs ic,.sl .fl iu]] => .ok [(.b (Tree.fieldsOK (Val.mk iq iv ir ik ie ij ig ic iu)))]
 | _ => .err
def dA.sg:cg:={}
def dA.c:eE:=fun l=>match l with
 | [.s s,.s t] => .eC (decide (t.length=1)) [(.i .i64 (Lib.indexByte s (t.getD 0 0)))]
 | _ => .err
def cr.sg:cg:={}
def cr.c:eE:=fun l=>match l with
 | [.s s,.s t] => .eC (decide (t.length=1)) [(.b (decide (0≤Lib.indexByte s (t.getD 0 0))))]
 | _ => .err
def df.sg:cg:={ md:=[.sm] }
def df.c:eE:=fun l=>match l with
 | [.sl .is l] => .eC (eO (l).length 8) [(.sl .is (l))]
 | _ => .err
def cE.sg:cg:={}
def cE.c:eE:=fun l=>match l with
 | [.s s,.b plain] => .eC (decide (s.length≤1099511627776)) [(.b (Tree.dr s plain))]
 | _ => .err
def bH.sg:cg:={ md:=[.pl,.pl,.sm],bC:=2 }
def bH.c:eE:=fun l=>match l with
 | [.ag [.i .i64 iq,.u64 iv,.u64 ir,.u64 ik,.s ie,.s ij,.i .i64 ig,.sl .bs ic,.sl .fl iu],.s name,.sl .is path] => .eC (decide (bx.dk (bx.of name (Val.mk iq iv ir ik ie ij ig ic iu))+path.length≤1099511627776)) [(.sl .is ((Tree.hU (bx.of name (Val.mk iq iv ir ik ie ij ig ic iu)) path).1)),(.i .i64 ((Tree.hU (bx.of name (Val.mk iq iv ir ik ie ij ig ic iu)) path).2))]
 | _ => .err
def bH.cn (n:Nat):eE:=fun l=>match l with
 | [.ag [.i .i64 iq,.u64 iv,.u64 ir,.u64 ik,.s ie,.s ij,.i .i64 ig,.sl .bs ic,.sl .fl iu],.s name,.sl .is path] => .eC ((decide (bx.dk (bx.of name (Val.mk iq iv ir ik ie ij ig ic iu))+path.length≤1099511627776))&&decide ((bx.dk (bx.of name (Val.mk iq iv ir ik ie ij ig ic iu)))<n)) [(.sl .is ((Tree.hU (bx.of name (Val.mk iq iv ir ik ie ij ig ic iu)) path).1)),(.i .i64 ((Tree.hU (bx.of name (Val.mk iq iv ir ik ie ij ig ic iu)) path).2))]
 | _ => .err
def cF.sg:cg:={ bC:=2 }
def cF.c:eE:=fun l=>match l with
 | [.ag [.i .i64 iq,.u64 iv,.u64 ir,.u64 ik,.s ie,.s ij,.i .i64 ig,.sl .bs ic,.sl .fl iu]] => .eC (decide (bx.dk (bx.of [] (Val.mk iq iv ir ik ie ij ig ic iu))≤1099511627776)) [(.sl .is ((Tree.hU (bx.of [] (Val.mk iq iv ir ik ie ij ig ic iu)) []).1)),(.i .i64 ((Tree.hU (bx.of [] (Val.mk iq iv ir ik ie ij ig ic iu)) []).2))]
 | _ => .err
def I6.sg:cg:={}
def I6.c:eE:=fun l=>match l with
 | [.i .i64 left,.sl .is dC] => .eC (decide (left≤1200∧dC.length≤10)&&dC.all (fun s=>decide (0≤s))) [(.i .i64 (DB.room left dC))]
 | _ => .err
def Bo.sg:cg:={}
def Bo.c:eE:=fun l=>match l with
 | [.i .i64 left,.ag [.i .i64 iq,.u64 iv,.u64 ir,.u64 ik,.s ie,.s ij,.i .i64 ig,.sl .bs ic,.sl .fl iu]] => .eC (decide (left≤1200)) [(.i .i64 (DB.value left (bx.of [] (Val.mk iq iv ir ik ie ij ig ic iu))))]
 | _ => .err
def Bo.cn (n:Nat):eE:=fun l=>match l with
 | [.i .i64 left,.ag [.i .i64 iq,.u64 iv,.u64 ir,.u64 ik,.s ie,.s ij,.i .i64 ig,.sl .bs ic,.sl .fl iu]] => .eC ((decide (left≤1200))&&decide ((bx.dk (bx.of [] (Val.mk iq iv ir ik ie ij ig ic iu)))<n)) [(.i .i64 (DB.value left (bx.of [] (Val.mk iq iv ir ik ie ij ig ic iu))))]
 | _ => .err
def Jf.sg:cg:={}
def Jf.c:eE:=fun l=>match l with
 | [.ag [.i .i64 iq,.u64 iv,.u64 ir,.u64 ik,.s ie,.s ij,.i .i64 ig,.sl .bs ic,.sl .fl iu]] => .ok [(.b (decide (0≤DB.value 1200 (bx.of [] (Val.mk iq iv ir ik ie ij ig ic iu)))))]
 | _ => .err
def Bp.sg:cg:={}
def Bp.c:eE:=fun l=>match l with
 | [.i .i64 k,.i .i64 n] => .eC (decide (1≤n∧n≤1099511627776)) [(.i .i64 (k % n))]
 | _ => .err
def zp.sg:cg:={}
def zp.c:eE:=fun l=>match l with
 | [] => .ok [(.sl .is (Tree.kinds))]
 | _ => .err
def I4.sg:cg:={}
def I4.c:eE:=fun l=>match l with
 | [.i .i64 k] => .ok [(.s (Tree.name k))]
 | _ => .err
def IW.sg:cg:={ bC:=7 }
def IW.c:eE:=fun l=>match l with
 | [.i .i64 k] => .ok [(.b (Tree.fu 0 k)),(.b (Tree.fu 1 k)),(.b (Tree.fu 2 k)),(.b (Tree.fu 3 k)),(.b (Tree.fu 4 k)),(.b (Tree.fu 5 k)),(.b (Tree.fu 6 k))]
 | _ => .err
def Jg.sg:cg:={}
def Jg.c:eE:=fun l=>match l with
 | [.ag [.i .i64 iq,.u64 iv,.u64 ir,.u64 ik,.s ie,.s ij,.i .i64 ig,.sl .bs ic,.sl .fl iu]] => .eC (decide (bx.dk (bx.of [] (Val.mk iq iv ir ik ie ij ig ic iu))≤1099511627776)) [(.i .i64 (Tree.own (Val.mk iq iv ir ik ie ij ig ic iu)))]
 | _ => .err
def Ja.sg:cg:={}
def Ja.c:eE:=fun l=>match l with
 | [.s s] => .eC (decide (s.length≤1099511627776)) [(.b (Tree.dr s true))]
 | _ => .err
def I7.sg:cg:={}
def I7.c:eE:=fun l=>match l with
 | [.sl .is p,.i .i64 k] => .eC (decide (p.length≤1099511627776)) [(.sl .is ((p++[k])))]
 | _ => .err
def IX.sg:cg:={ bC:=2 }
def IX.c:eE:=fun l=>match l with
 | [.ag [.i .i64 iq,.u64 iv,.u64 ir,.u64 ik,.s ie,.s ij,.i .i64 ig,.sl .bs ic,.sl .fl iu],.s name,.sl .is p] => .eC (decide (bx.dk (bx.of name (Val.mk iq iv ir ik ie ij ig ic iu))+p.length≤1099511627776)) [(.sl .is ((Tree.hU (bx.of name (Val.mk iq iv ir ik ie ij ig ic iu)) p).1)),(.i .i64 ((Tree.hU (bx.of name (Val.mk iq iv ir ik ie ij ig ic iu)) p).2))]
 | _ => .err
def IX.cn (n:Nat):eE:=fun l=>match l with
 | [.ag [.i .i64 iq,.u64 iv,.u64 ir,.u64 ik,.s ie,.s ij,.i .i64 ig,.sl .bs ic,.sl .fl iu],.s name,.sl .is p] => .eC ((decide (bx.dk (bx.of name (Val.mk iq iv ir ik ie ij ig ic iu))+p.length≤1099511627776))&&decide ((bx.dk (bx.of name (Val.mk iq iv ir ik ie ij ig ic iu)))<n)) [(.sl .is ((Tree.hU (bx.of name (Val.mk iq iv ir ik ie ij ig ic iu)) p).1)),(.i .i64 ((Tree.hU (bx.of name (Val.mk iq iv ir ik ie ij ig ic iu)) p).2))]
 | _ => .err
def Jb.sg:cg:={ bC:=2 }
def Jb.c:eE:=fun l=>match l with
 | [.ag [.i .i64 iq,.u64 iv,.u64 ir,.u64 ik,.s ie,.s ij,.i .i64 ig,.sl .bs ic,.sl .fl iu]] => .eC (decide (bx.dk (bx.of [] (Val.mk iq iv ir ik ie ij ig ic iu))≤1099511627776)) [(.sl .is ((Tree.hU (bx.of [] (Val.mk iq iv ir ik ie ij ig ic iu)) []).1)),(.i .i64 ((Tree.hU (bx.of [] (Val.mk iq iv ir ik ie ij ig ic iu)) []).2))]
 | _ => .err
def Jd.sg:cg:={}
def Jd.c:eE:=fun l=>match l with
 | [.i .i64 k] => .ok [(.b (decide (k=3∨k=4∨k=15)))]
 | _ => .err
def I0.sg:cg:={}
def I0.c:eE:=fun l=>match l with
 | [.ag [.i .i64 iq,.u64 iv,.u64 ir,.u64 ik,.s ie,.s ij,.i .i64 ig,.sl .bs ic,.sl .fl iu]] => .eC (decide (bx.dk (bx.of [] (Val.mk iq iv ir ik ie ij ig ic iu))≤1099511627776)) [(.i .i64 ((Tree.depth (bx.of [] (Val.mk iq iv ir ik ie ij ig ic iu)):Int)))]
 | _ => .err
def I0.cn (n:Nat):eE:=fun l=>match l with
 | [.ag [.i .i64 iq,.u64 iv,.u64 ir,.u64 ik,.s ie,.s ij,.i .i64 ig,.sl .bs ic,.sl .fl iu]] => .eC ((decide (bx.dk (bx.of [] (Val.mk iq iv ir ik ie ij ig ic iu))≤1099511627776))&&decide ((bx.dk (bx.of [] (Val.mk iq iv ir ik ie ij ig ic iu)))<n)) [(.i .i64 ((Tree.depth (bx.of [] (Val.mk iq iv ir ik ie ij ig ic iu)):Int)))]
 | _ => .err
def I9.sg:cg:={}
def I9.c:eE:=fun l=>match l with
 | [.s s] => .eC (decide (s.length≤1099511627776)) [(.b (dp.whole s))]
 | _ => .err
def I5.sg:cg:={}
def I5.c:eE:=fun l=>match l with
 | [.s s] => .eC (decide (s.length≤1099511627776)) [(.b (dp.zero s))]
 | _ => .err
def I1.sg:cg:={ bC:=2 }
def I1.c:eE:=fun l=>match l with
 | [.sl .bs b,.i .i64 at_] => .eC (decide (b.length≤1099511627776)) [(.i .i64 ((dp.iY b at_).1)),(.i .i64 ((dp.iY b at_).2))]
 | _ => .err
def I3.sg:cg:={ bC:=2 }
def I3.c:eE:=fun l=>match l with
 | [.sl .bs b] => .eC (decide (b.length≤1099511627776)) [(.i .i64 (((dp.look b).1:Int))),(.b (dp.whole b))]
 | _ => .err
def cI.sg:cg:={}
def cI.c:eE:=fun l=>match l with
 | [.i .i64 n] => .ok [(.b (decide (1≤n∧n≤8)))]
 | _ => .err
def bQ.sg:cg:={ own:=[0] }
def bQ.c:eE:=fun l=>match l with
 | [.sl .bs a] => .eC (eO (a).length 1) [(.sl .bs (a))]
 | _ => .err
def eH.sg:cg:={ kd := .nw none }
def eH.c:eE:=fun l=>match l with
 | [.sl .bs b] => .eC (decide ((b).length≤1099511627776)) [(.ag (bA.cells ((bA.mk b 0))))]
 | _ => .err
def dJ.sg:cg:={ md:=[.rf] }
def dJ.c:eE:=fun l=>match l with
 | [.ag [.sl .bs dw,.i .i64 bM]] => .eC (decide (0≤((bA.mk dw bM)).at_∧((bA.mk dw bM)).at_≤(((bA.mk dw bM)).b).length∧(((bA.mk dw bM)).b).length≤1099511627776)) [(.i .i64 (((((bA.mk dw bM)).b).length:Int) - ((bA.mk dw bM)).at_)),(.ag (bA.cells ((bA.mk dw bM))))]
 | _ => .err
def er.sg:cg:={ md:=[.rf],bC:=2 }
def er.c:eE:=fun l=>match l with
 | [.ag [.sl .bs dw,.i .i64 bM],.i .i64 n] => .eC (decide (1≤n∧n≤8∧0≤((bA.mk dw bM)).at_∧((bA.mk dw bM)).at_≤(((bA.mk dw bM)).b).length∧(((bA.mk dw bM)).b).length≤1099511627776)) [(.sl .bs ((Bs.fH (bA.mk dw bM) n))),(.b ((Bs.can (bA.mk dw bM) n))),(.ag (bA.cells ((Bs.jA (bA.mk dw bM) n))))]
 | _ => .err
def cT.sg:cg:={ md:=[.rf],bC:=2 }
def cT.c:eE:=fun l=>match l with
 | [.ag [.sl .bs dw,.i .i64 bM],.i .i64 n] => .eC (decide (1≤n∧n≤8∧0≤((bA.mk dw bM)).at_∧((bA.mk dw bM)).at_≤(((bA.mk dw bM)).b).length∧(((bA.mk dw bM)).b).length≤1099511627776)) [(.u64 ((UInt64.ofNat (Bs.gD (Bs.fH (bA.mk dw bM) n))))),(.b ((Bs.can (bA.mk dw bM) n))),(.ag (bA.cells ((Bs.jA (bA.mk dw bM) n))))]
 | _ => .err
def et.sg:cg:={ md:=[.rf],bC:=2 }
def et.c:eE:=fun l=>match l with
 | [.ag [.sl .bs dw,.i .i64 bM],.i .i64 n] => .eC (decide (0≤n∧0≤((bA.mk dw bM)).at_∧((bA.mk dw bM)).at_≤(((bA.mk dw bM)).b).length∧(((bA.mk dw bM)).b).length≤1099511627776)) [(.sl .bs ((Bs.pW (bA.mk dw bM) n))),(.b ((Bs.qY (bA.mk dw bM) n))),(.ag (bA.cells ((Bs.o0 (bA.mk dw bM) n))))]
 | _ => .err
def eW.sg:cg:={ kd := .nw (some 0) }
def eW.c:eE:=fun l=>match l with
 | [] => .ok [(.ag [.pt]),(.sl .bs (([]:List UInt8)))]
 | _ => .err
def dt.sg:cg:={ bC:=0,kd := .wr 0 0 true }
def dt.c:eE:=fun l=>match l with
 | [.ag [.pt],.i .i64 v,.sl .bs b] => .eC (decide ((b).length≤1099511627776)) [(.ag [.pt]),(.sl .bs ((b++[UInt8.ofInt v])))]
 | _ => .err
def eF.sg:cg:={ bC:=0,kd := .wr 0 0 true }
def eF.c:eE:=fun l=>match l with
 | [.ag [.pt],.sl .bs x,.sl .bs b] => .eC (decide ((b).length+(x).length≤2199023255552)) [(.ag [.pt]),(.sl .bs ((b++x)))]
 | _ => .err
def cK.sg:cg:={ bC:=0,kd := .wr 0 0 true }
def cK.c:eE:=fun l=>match l with
 | [.ag [.pt],.u64 v,.i .i64 n,.sl .bs b] => .eC (decide (1≤n∧n≤8∧(b).length≤1099511627776)) [(.ag [.pt]),(.sl .bs ((b++Bs.ff (n).toNat (v).toNat)))]
 | _ => .err
def cQ.sg:cg:={ kd := .wr 0 0 true }
def cQ.c:eE:=fun l=>match l with
 | [.ag [.pt],.i .i64 at_,.u64 v,.i .i64 n,.sl .bs b] => .eC (decide (1≤n∧n≤8∧0≤at_∧at_+n≤((b).length:Int)∧(b).length≤2199023255552)) [(.b (true)),(.ag [.pt]),(.sl .bs ((Bs.jr b (at_).toNat (Bs.ff (n).toNat (v).toNat))))]
 | _ => .err
def eG.sg:cg:={ kd := .wr 0 0 true }
def eG.c:eE:=fun l=>match l with
 | [.ag [.pt],.sl .bs b] => .ok [(.i .i64 (((b).length:Int))),(.ag [.pt]),(.sl .bs (b))]
 | _ => .err
def dF.sg:cg:={ md:=[.rf] }
def dF.c:eE:=fun l=>match l with
 | [.ag [.sl .bs Ec]] => .eC (decide ((((rI.mk Ec)).b).length≤2199023255552)) [(.sl .bs ((((rI.mk Ec)).b))),(.ag (rI.cells ((rI.mk Ec))))]
 | _ => .err
def bZ.sg:cg:={}
def bZ.c:eE:=fun l=>match l with
 | [.sl .bs b,.u8 c] => .ok [(.i .i64 (Lib.indexByte b c))]
 | _ => .err
def cG.sg:cg:={ bC:=3 }
def cG.c:eE:=fun l=>match l with
 | [.sl .bs b,.i .i64 at_] => .eC (decide ((b).length≤1099511627776)) [(.s ((Bs.ctext b at_).1)),(.i .i64 ((Bs.ctext b at_).2.1)),(.i .i64 ((Bs.ctext b at_).2.2))]
 | _ => .err
def cB.sg:cg:={}
def cB.c:eE:=fun l=>match l with
 | [.sl .fl l] => .eC (decide (bx.cw l≤1000000000000)) [(.i .i64 (((Bs.dC l+5:Nat):Int)))]
 | _ => .err
def cB.cn (n:Nat):eE:=fun l=>match l with
 | [.sl .fl l] => .eC ((decide (bx.cw l≤1000000000000))&&decide ((2 * bx.cw l+1)<n)) [(.i .i64 (((Bs.dC l+5:Nat):Int)))]
 | _ => .err
def sz_Of.sg:cg:={}
def sz_Of.c:eE:=fun l=>match l with
 | [.ag [.i .i64 iq,.u64 iv,.u64 ir,.u64 ik,.s ie,.s ij,.i .i64 ig,.sl .bs ic,.sl .fl iu]] => .eC (decide (bx.dk (bx.of [] (Val.mk iq iv ir ik ie ij ig ic iu))≤1000000000000)) [(.i .i64 (((Bs.size (bx.of [] (Val.mk iq iv ir ik ie ij ig ic iu)):Nat):Int)))]
 | _ => .err
def sz_Of.cn (n:Nat):eE:=fun l=>match l with
 | [.ag [.i .i64 iq,.u64 iv,.u64 ir,.u64 ik,.s ie,.s ij,.i .i64 ig,.sl .bs ic,.sl .fl iu]] => .eC ((decide (bx.dk (bx.of [] (Val.mk iq iv ir ik ie ij ig ic iu))≤1000000000000))&&decide ((2 * bx.dk (bx.of [] (Val.mk iq iv ir ik ie ij ig ic iu)))<n)) [(.i .i64 (((Bs.size (bx.of [] (Val.mk iq iv ir ik ie ij ig ic iu)):Nat):Int)))]
 | _ => .err
def dY.sg:cg:={}
def dY.c:eE:=fun l=>match l with
 | [.ag [.i .i64 eB,.i .i64 eZ,.i .i64 fI]] => .ok [(.b (Bs.may (eK.mk eB eZ fI)))]
 | _ => .err
def cO.sg:cg:={ bC:=0,kd := .wr 0 0 true }
def cO.c:eE:=fun l=>match l with
 | [.ag [.pt],.s s,.sl .bs b] => .eC (decide ((b).length+(s).length≤1099511627776)) [(.ag [.pt]),(.sl .bs ((b++(s++[0]))))]
 | _ => .err
def eu.sg:cg:={ bC:=0,kd := .wr 0 0 true }
def eu.c:eE:=fun l=>match l with
 | [.ag [.pt],.s s,.sl .bs b] => .eC (decide ((b).length+(s).length+10≤1099511627776)) [(.ag [.pt]),(.sl .bs ((b++Bs.fC s)))]
 | _ => .err
def bF.sg:cg:={ bC:=0,kd := .wr 0 0 true }
def bF.c:eE:=fun l=>match l with
 | [.ag [.pt],.sl .fl l,.sl .bs b] => .eC (decide ((b).length+30 * bx.cw l+50≤1000000000000)) [(.ag [.pt]),(.sl .bs ((b++Bs.iR l)))]
 | _ => .err
def bF.cn (n:Nat):eE:=fun l=>match l with
 | [.ag [.pt],.sl .fl l,.sl .bs b] => .eC ((decide ((b).length+30 * bx.cw l+50≤1000000000000))&&decide ((2 * bx.cw l+1)<n)) [(.ag [.pt]),(.sl .bs ((b++Bs.iR l)))]
 | _ => .err
def bD.sg:cg:={ bC:=0,kd := .wr 0 0 true }
def bD.c:eE:=fun l=>match l with
 | [.ag [.pt],.ag [.i .i64 iq,.u64 iv,.u64 ir,.u64 ik,.s ie,.s ij,.i .i64 ig,.sl .bs ic,.sl .fl iu],.sl .bs b] => .eC (decide ((b).length+30 * bx.dk (bx.of [] (Val.mk iq iv ir ik ie ij ig ic iu))+30≤1000000000000)) [(.ag [.pt]),(.sl .bs ((b++Bs.enc (bx.of [] (Val.mk iq iv ir ik ie ij ig ic iu)))))]
 | _ => .err
def bD.cn (n:Nat):eE:=fun l=>match l with
 | [.ag [.pt],.ag [.i .i64 iq,.u64 iv,.u64 ir,.u64 ik,.s ie,.s ij,.i .i64 ig,.sl .bs ic,.sl .fl iu],.sl .bs b] => .eC ((decide ((b).length+30 * bx.dk (bx.of [] (Val.mk iq iv ir ik ie ij ig ic iu))+30≤1000000000000))&&decide ((2 * bx.dk (bx.of [] (Val.mk iq iv ir ik ie ij ig ic iu)))<n)) [(.ag [.pt]),(.sl .bs ((b++Bs.enc (bx.of [] (Val.mk iq iv ir ik ie ij ig ic iu)))))]
 | _ => .err
def cZ.sg:cg:={ bC:=2 }
def cZ.c:eE:=fun l=>match l with
 | [.ag [.i .i64 iq,.u64 iv,.u64 ir,.u64 ik,.s ie,.s ij,.i .i64 ig,.sl .bs ic,.sl .fl iu]] => .eC (decide (bx.dk (bx.of [] (Val.mk iq iv ir ik ie ij ig ic iu))≤10000000000)) [(.sl .bs ((Bs.encode (Val.mk iq iv ir ik ie ij ig ic iu)).1)),(.ag (cq.cells ((cq.mk (Bs.encode (Val.mk iq iv ir ik ie ij ig ic iu)).2.1 0 (Bs.encode (Val.mk iq iv ir ik ie ij ig ic iu)).2.2))))]
 | _ => .err
def bW.sg:cg:={}
def bW.c:eE:=fun l=>match l with
 | [.i .i64 e,.i .i64 at_] => .ok [(.ag (cq.cells ((cq.mk e at_ []))))]
 | _ => .err
def cd.sg:cg:={ md:=[.rf] }
def cd.c:eE:=fun l=>match l with
 | [.ag [.sl .bs dw,.i .i64 bM],.i .i64 at_] => .eC (decide (0≤at_∧at_+4≤((((bA.mk dw bM)).b).length:Int)∧(((bA.mk dw bM)).b).length≤1000000000)) [(.i .i64 ((Bs.cU (((bA.mk dw bM)).b) (at_).toNat))),(.ag (bA.cells ((bA.mk dw bM))))]
 | _ => .err
def bJ.sg:cg:={}
def bJ.c:eE:=fun l=>match l with
 | [.i .i64 k] => .ok [(.i .i64 (((Bs.fixed k:Nat):Int)))]
 | _ => .err
def dG.sg:cg:={ md:=[.rf],bC:=3 }
def dG.c:eE:=fun l=>match l with
 | [.ag [.sl .bs dw,.i .i64 bM],.i .i64 q,.i .i64 z] => .eC (decide (0≤q∧q≤z∧z≤((((bA.mk dw bM)).b).length:Int)∧(((bA.mk dw bM)).b).length≤1000000000)) [(.s ((Bs.gh ([],0) (Bs.ended (((bA.mk dw bM)).b) (q).toNat (z).toNat)).1)),(.i .i64 (((Bs.gh ([],0) (Bs.ended (((bA.mk dw bM)).b) (q).toNat (z).toNat)).2:Int))),(.ag (cq.cells ((Bs.iI (Bs.ended (((bA.mk dw bM)).b) (q).toNat (z).toNat))))),(.ag (bA.cells ((bA.mk dw bM))))]
 | _ => .err
def dK.sg:cg:={ md:=[.rf],bC:=3 }
def dK.c:eE:=fun l=>match l with
 | [.ag [.sl .bs dw,.i .i64 bM],.i .i64 q,.i .i64 z] => .eC (decide (0≤q∧q≤z∧z≤((((bA.mk dw bM)).b).length:Int)∧(((bA.mk dw bM)).b).length≤1000000000)) [(.s ((Bs.gh ([],0) (Bs.text (((bA.mk dw bM)).b) (q).toNat (z).toNat)).1)),(.i .i64 (((Bs.gh ([],0) (Bs.text (((bA.mk dw bM)).b) (q).toNat (z).toNat)).2:Int))),(.ag (cq.cells ((Bs.iI (Bs.text (((bA.mk dw bM)).b) (q).toNat (z).toNat))))),(.ag (bA.cells ((bA.mk dw bM))))]
 | _ => .err
def bR.sg:cg:={ md:=[.rf],bC:=4 }
def bR.c:eE:=fun l=>match l with
 | [.ag [.sl .bs dw,.i .i64 bM],.i .i64 q,.i .i64 z] => .eC (decide (0≤q∧q+5≤z∧z≤((((bA.mk dw bM)).b).length:Int)∧(((bA.mk dw bM)).b).length≤1000000000)) [(.i .i64 ((Bs.gh (0,[],0) (Bs.binary (((bA.mk dw bM)).b) (q).toNat (z).toNat)).1)),(.sl .bs ((Bs.gh (0,[],0) (Bs.binary (((bA.mk dw bM)).b) (q).toNat (z).toNat)).2.1)),(.i .i64 (((Bs.gh (0,[],0) (Bs.binary (((bA.mk dw bM)).b) (q).toNat (z).toNat)).2.2:Int))),(.ag (cq.cells ((Bs.iI (Bs.binary (((bA.mk dw bM)).b) (q).toNat (z).toNat))))),(.ag (bA.cells ((bA.mk dw bM))))]
 | _ => .err
def da.sg:cg:={ md:=[.rf],bC:=4 }
def da.c:eE:=fun l=>match l with
 | [.ag [.sl .bs dw,.i .i64 bM],.i .i64 q,.i .i64 z,.i .i64 d] => .eC (decide (0≤q∧q+4≤z∧z≤((((bA.mk dw bM)).b).length:Int)∧(((bA.mk dw bM)).b).length≤1000000000∧0≤d∧d≤1000∧((bA.mk dw bM)).at_≤1000∧d<((bA.mk dw bM)).at_)) [(.s ((Bs.ew (Bs.doc (((bA.mk dw bM)).at_ - (d+1)).toNat) (((bA.mk dw bM)).b) (q).toNat (z).toNat).1)),(.sl .fl ((Bs.gh ([],0) (Bs.ew (Bs.doc (((bA.mk dw bM)).at_ - (d+1)).toNat) (((bA.mk dw bM)).b) (q).toNat (z).toNat).2).1)),(.i .i64 (((Bs.gh ([],0) (Bs.ew (Bs.doc (((bA.mk dw bM)).at_ - (d+1)).toNat) (((bA.mk dw bM)).b) (q).toNat (z).toNat).2).2:Int))),(.ag (cq.cells ((Bs.iI (Bs.ew (Bs.doc (((bA.mk dw bM)).at_ - (d+1)).toNat) (((bA.mk dw bM)).b) (q).toNat (z).toNat).2)))),(.ag (bA.cells ((bA.mk dw bM))))]
 | _ => .err
def da.cn (n:Nat):eE:=fun l=>match l with
 | [.ag [.sl .bs dw,.i .i64 bM],.i .i64 q,.i .i64 z,.i .i64 d] => .eC ((decide (0≤q∧q+4≤z∧z≤((((bA.mk dw bM)).b).length:Int)∧(((bA.mk dw bM)).b).length≤1000000000∧0≤d∧d≤1000∧((bA.mk dw bM)).at_≤1000∧d<((bA.mk dw bM)).at_))&&decide ((3 * (((bA.mk dw bM)).at_ - d).toNat)<n)) [(.s ((Bs.ew (Bs.doc (((bA.mk dw bM)).at_ - (d+1)).toNat) (((bA.mk dw bM)).b) (q).toNat (z).toNat).1)),(.sl .fl ((Bs.gh ([],0) (Bs.ew (Bs.doc (((bA.mk dw bM)).at_ - (d+1)).toNat) (((bA.mk dw bM)).b) (q).toNat (z).toNat).2).1)),(.i .i64 (((Bs.gh ([],0) (Bs.ew (Bs.doc (((bA.mk dw bM)).at_ - (d+1)).toNat) (((bA.mk dw bM)).b) (q).toNat (z).toNat).2).2:Int))),(.ag (cq.cells ((Bs.iI (Bs.ew (Bs.doc (((bA.mk dw bM)).at_ - (d+1)).toNat) (((bA.mk dw bM)).b) (q).toNat (z).toNat).2)))),(.ag (bA.cells ((bA.mk dw bM))))]
 | _ => .err
def bt.sg:cg:={ md:=[.rf],bC:=3 }
def bt.c:eE:=fun l=>match l with
 | [.ag [.sl .bs dw,.i .i64 bM],.i .i64 k,.i .i64 q,.i .i64 z,.i .i64 d] => .eC (decide (0≤q∧q≤z∧z≤((((bA.mk dw bM)).b).length:Int)∧(((bA.mk dw bM)).b).length≤1000000000∧0≤d∧d≤1000∧((bA.mk dw bM)).at_≤1000∧d<((bA.mk dw bM)).at_)) [(.ag (Val.cells ((Bs.gh (Bs.cS 0,0) (Bs.eM (Bs.doc (((bA.mk dw bM)).at_ - (d+1)).toNat) (((bA.mk dw bM)).b) k (q).toNat (z).toNat)).1))),(.i .i64 (((Bs.gh (Bs.cS 0,0) (Bs.eM (Bs.doc (((bA.mk dw bM)).at_ - (d+1)).toNat) (((bA.mk dw bM)).b) k (q).toNat (z).toNat)).2:Int))),(.ag (cq.cells ((Bs.iI (Bs.eM (Bs.doc (((bA.mk dw bM)).at_ - (d+1)).toNat) (((bA.mk dw bM)).b) k (q).toNat (z).toNat))))),(.ag (bA.cells ((bA.mk dw bM))))]
 | _ => .err
def bt.cn (n:Nat):eE:=fun l=>match l with
 | [.ag [.sl .bs dw,.i .i64 bM],.i .i64 k,.i .i64 q,.i .i64 z,.i .i64 d] => .eC ((decide (0≤q∧q≤z∧z≤((((bA.mk dw bM)).b).length:Int)∧(((bA.mk dw bM)).b).length≤1000000000∧0≤d∧d≤1000∧((bA.mk dw bM)).at_≤1000∧d<((bA.mk dw bM)).at_))&&decide ((3 * (((bA.mk dw bM)).at_ - d).toNat+1)<n)) [(.ag (Val.cells ((Bs.gh (Bs.cS 0,0) (Bs.eM (Bs.doc (((bA.mk dw bM)).at_ - (d+1)).toNat) (((bA.mk dw bM)).b) k (q).toNat (z).toNat)).1))),(.i .i64 (((Bs.gh (Bs.cS 0,0) (Bs.eM (Bs.doc (((bA.mk dw bM)).at_ - (d+1)).toNat) (((bA.mk dw bM)).b) k (q).toNat (z).toNat)).2:Int))),(.ag (cq.cells ((Bs.iI (Bs.eM (Bs.doc (((bA.mk dw bM)).at_ - (d+1)).toNat) (((bA.mk dw bM)).b) k (q).toNat (z).toNat))))),(.ag (bA.cells ((bA.mk dw bM))))]
 | _ => .err
def bz.sg:cg:={ md:=[.rf],bC:=3 }
def bz.c:eE:=fun l=>match l with
 | [.ag [.sl .bs dw,.i .i64 bM],.i .i64 p,.i .i64 z,.i .i64 d,.i .i64 fZ] => .eC (decide (0≤p∧p≤z∧z≤((((bA.mk dw bM)).b).length:Int)∧(((bA.mk dw bM)).b).length≤1000000000∧0≤d∧d≤1000∧((bA.mk dw bM)).at_≤1000)) [(.sl .fl ((Bs.gh ([],0) (Bs.doc (((bA.mk dw bM)).at_ - d).toNat (((bA.mk dw bM)).b) (p).toNat (z).toNat fZ)).1)),(.i .i64 (((Bs.gh ([],0) (Bs.doc (((bA.mk dw bM)).at_ - d).toNat (((bA.mk dw bM)).b) (p).toNat (z).toNat fZ)).2:Int))),(.ag (cq.cells ((Bs.iI (Bs.doc (((bA.mk dw bM)).at_ - d).toNat (((bA.mk dw bM)).b) (p).toNat (z).toNat fZ))))),(.ag (bA.cells ((bA.mk dw bM))))]
 | _ => .err
def bz.cn (n:Nat):eE:=fun l=>match l with
 | [.ag [.sl .bs dw,.i .i64 bM],.i .i64 p,.i .i64 z,.i .i64 d,.i .i64 fZ] => .eC ((decide (0≤p∧p≤z∧z≤((((bA.mk dw bM)).b).length:Int)∧(((bA.mk dw bM)).b).length≤1000000000∧0≤d∧d≤1000∧((bA.mk dw bM)).at_≤1000))&&decide ((3 * (((bA.mk dw bM)).at_ - d).toNat+2)<n)) [(.sl .fl ((Bs.gh ([],0) (Bs.doc (((bA.mk dw bM)).at_ - d).toNat (((bA.mk dw bM)).b) (p).toNat (z).toNat fZ)).1)),(.i .i64 (((Bs.gh ([],0) (Bs.doc (((bA.mk dw bM)).at_ - d).toNat (((bA.mk dw bM)).b) (p).toNat (z).toNat fZ)).2:Int))),(.ag (cq.cells ((Bs.iI (Bs.doc (((bA.mk dw bM)).at_ - d).toNat (((bA.mk dw bM)).b) (p).toNat (z).toNat fZ))))),(.ag (bA.cells ((bA.mk dw bM))))]
 | _ => .err
def db.sg:cg:={ bC:=2 }
def db.c:eE:=fun l=>match l with
 | [.sl .bs b,.ag [.i .i64 eB,.i .i64 eZ,.i .i64 fI]] => .eC (decide ((b).length≤1000000000)) [(.ag (Val.cells ((Bs.nN (Bs.decode b (eK.mk eB eZ fI)))))),(.ag (cq.cells ((Bs.iI (Bs.decode b (eK.mk eB eZ fI))))))]
 | _ => .err
def Jc.sg:cg:={}
def Jc.c:eE:=fun l=>match l with
 | [] => .ok [(.ag (eK.cells ((eK.mk 200 65536 262144))))]
 | _ => .err
def cY.sg:cg:={ bC:=2 }
def cY.c:eE:=fun l=>match l with
 | [.sl .bs b,.i .i64 at_] => .eC (decide ((b).length≤1000000000)) [(.i .i64 ((Gt.iP b at_).1)),(.b ((Gt.iP b at_).2))]
 | _ => .err
def dZ.sg:cg:={}
def dZ.c:eE:=fun l=>match l with
 | [.i .i64 f,.ag [.i .i64 eB,.i .i64 eZ,.i .i64 fI]] => .ok [(.b (decide (1≤f∧f≤5)&&Bs.may (eK.mk eB eZ fI)))]
 | _ => .err
def ei.sg:cg:={ bC:=2 }
def ei.c:eE:=fun l=>match l with
 | [.i .i64 f,.ag [.i .i64 eB,.i .i64 eZ,.i .i64 fI],.sl .bs b] => .eC (decide (f=1∧(b).length≤1000000000)) [(.ag (Val.cells ((Bs.nN (Bs.decode b (eK.mk eB eZ fI)))))),(.ag (cq.cells ((Bs.iI (Bs.decode b (eK.mk eB eZ fI))))))]
 | _ => .err
def eh.sg:cg:={ bC:=2 }
def eh.c:eE:=fun l=>match l with
 | [.i .i64 f,.ag [.i .i64 iq,.u64 iv,.u64 ir,.u64 ik,.s ie,.s ij,.i .i64 ig,.sl .bs ic,.sl .fl iu]] => .eC (decide (f=1∧bx.dk (bx.of [] (Val.mk iq iv ir ik ie ij ig ic iu))≤10000000000)) [(.sl .bs ((Bs.encode (Val.mk iq iv ir ik ie ij ig ic iu)).1)),(.ag (cq.cells ((cq.mk (Bs.encode (Val.mk iq iv ir ik ie ij ig ic iu)).2.1 0 (Bs.encode (Val.mk iq iv ir ik ie ij ig ic iu)).2.2))))]
 | _ => .err
def dE.sg:cg:={ bC:=3 }
def dE.c:eE:=fun l=>match l with
 | [.i .i64 f,.ag [.i .i64 eB,.i .i64 eZ,.i .i64 fI],.ag [.i .i64 iq,.u64 iv,.u64 ir,.u64 ik,.s ie,.s ij,.i .i64 ig,.sl .bs ic,.sl .fl iu]] => .eC (decide (f=1∧bx.dk (bx.of [] (Val.mk iq iv ir ik ie ij ig ic iu))≤10000000000)) [(.sl .bs ((Gt.write (eK.mk eB eZ fI) (Val.mk iq iv ir ik ie ij ig ic iu)).1)),(.sl .mh (([]:List (List Int)))),(.ag (cq.cells ((Gt.write (eK.mk eB eZ fI) (Val.mk iq iv ir ik ie ij ig ic iu)).2)))]
 | _ => .err
def bY.sg:cg:={ bC:=3 }
def bY.c:eE:=fun l=>match l with
 | [.i .i64 f,.i .i64 t,.ag [.i .i64 eB,.i .i64 eZ,.i .i64 fI],.sl .bs b] => .eC (decide (f=1∧t=1∧(b).length≤1000000000)) [(.sl .bs ((Gt.trans (eK.mk eB eZ fI) b).1)),(.sl .mh (([]:List (List Int)))),(.ag (cq.cells ((Gt.trans (eK.mk eB eZ fI) b).2)))]
 | _ => .err
def eU.sg:cg:={ bC:=2,kd := .nw (some 5) }
def eU.c:eE:=fun l=>match l with
 | [.i .i64 t,.ag [.i .i64 eB,.i .i64 eZ,.i .i64 fI]] => .eC (decide (1≤t∧t≤5)&&Bs.may (eK.mk eB eZ fI)) [(.ag [(.i .i64 t),(.i .i64 (eK.depth (eK.mk eB eZ fI))),(.i .i64 (eK.size (eK.mk eB eZ fI))),(.i .i64 (eK.out (eK.mk eB eZ fI))),(.i .i64 0),.pt,(.b false)]),(.i .i64 (0)),(.sl .bs (([]:List UInt8)))]
 | _ => .err
def en.c:eE:=fun l=>match l with
 | [.ag [.i .i64 fK,.i .i64 cV,.i .i64 dL,.i .i64 eN,.i .i64 fL,.pt,.b ca],.sl .bs b] => .ok [(.i .i64 (((b).length:Int))),(.ag [(.i .i64 fK),(.i .i64 cV),(.i .i64 dL),(.i .i64 eN),(.i .i64 fL),.pt,(.b ca)]),(.sl .bs (b))]
 | _ => .err
def dI.sg:cg:={ kd := .wr 0 5 false }
def dI.c:eE:=fun l=>match l with
 | [.ag [.i .i64 fK,.i .i64 cV,.i .i64 dL,.i .i64 eN,.i .i64 fL,.pt,.b ca],.i .i64 e,.dead] => .ok [(.ag (Out.cells ((Gt.j0 e (bS.at_ (bS.mk fK cV dL eN fL ca)))))),(.ag [(.i .i64 (bS.fk ((Gt.dT (bS.mk fK cV dL eN fL ca))))),(.i .i64 (bS.depth ((Gt.dT (bS.mk fK cV dL eN fL ca))))),(.i .i64 (bS.size ((Gt.dT (bS.mk fK cV dL eN fL ca))))),(.i .i64 (bS.out ((Gt.dT (bS.mk fK cV dL eN fL ca))))),(.i .i64 (bS.at_ ((Gt.dT (bS.mk fK cV dL eN fL ca))))),.pt,(.b (bS.bT ((Gt.dT (bS.mk fK cV dL eN fL ca)))))]),(.sl .bs (([]:List UInt8)))]
 | _ => .err
def bI.sg:cg:={ kd := .wr 0 5 true }
def bI.c:eE:=fun l=>match l with
 | [.ag [.i .i64 fK,.i .i64 cV,.i .i64 dL,.i .i64 eN,.i .i64 fL,.pt,.b ca],.sl .bs x,.sl .bs b] => .eC (decide (bS.fk (bS.mk fK cV dL eN fL ca)=1∧0≤bS.at_ (bS.mk fK cV dL eN fL ca)∧bS.at_ (bS.mk fK cV dL eN fL ca)≤1000000000000∧(x).length+(b).length≤1000000)) [(.sl .ou ((Gt.feed (bS.mk fK cV dL eN fL ca) x b).1)),(.ag [(.i .i64 (bS.fk ((Gt.feed (bS.mk fK cV dL eN fL ca) x b).2.1))),(.i .i64 (bS.depth ((Gt.feed (bS.mk fK cV dL eN fL ca) x b).2.1))),(.i .i64 (bS.size ((Gt.feed (bS.mk fK cV dL eN fL ca) x b).2.1))),(.i .i64 (bS.out ((Gt.feed (bS.mk fK cV dL eN fL ca) x b).2.1))),(.i .i64 (bS.at_ ((Gt.feed (bS.mk fK cV dL eN fL ca) x b).2.1))),.pt,(.b (bS.bT ((Gt.feed (bS.mk fK cV dL eN fL ca) x b).2.1)))]),(.sl .bs ((Gt.feed (bS.mk fK cV dL eN fL ca) x b).2.2))]
 | _ => .err
def eV.sg:cg:={ kd := .wr 0 5 true }
def eV.c:eE:=fun l=>match l with
 | [.ag [.i .i64 fK,.i .i64 cV,.i .i64 dL,.i .i64 eN,.i .i64 fL,.pt,.b ca],.sl .bs b] => .ok [(.sl .ou ((Gt.end_ (bS.mk fK cV dL eN fL ca) b).1)),(.ag [(.i .i64 (bS.fk ((Gt.end_ (bS.mk fK cV dL eN fL ca) b).2.1))),(.i .i64 (bS.depth ((Gt.end_ (bS.mk fK cV dL eN fL ca) b).2.1))),(.i .i64 (bS.size ((Gt.end_ (bS.mk fK cV dL eN fL ca) b).2.1))),(.i .i64 (bS.out ((Gt.end_ (bS.mk fK cV dL eN fL ca) b).2.1))),(.i .i64 (bS.at_ ((Gt.end_ (bS.mk fK cV dL eN fL ca) b).2.1))),.pt,(.b (bS.bT ((Gt.end_ (bS.mk fK cV dL eN fL ca) b).2.1)))]),(.sl .bs ((Gt.end_ (bS.mk fK cV dL eN fL ca) b).2.2))]
 | _ => .err
def I2.sg:cg:={ own:=[0] }
def I2.c:eE:=fun l=>match l with
 | [.u64 v,.i .i64 n] => .eC (decide (0≤n∧n≤8)) [(.sl .bs ((Bs.ff (n).toNat (v).toNat)))]
 | _ => .err
def sy.sg:cg:={}
def sy.c:eE:=fun l=>match l with
 | [.ag [.i .i64 iq,.u64 iv,.u64 ir,.u64 ik,.s ie,.s ij,.i .i64 ig,.sl .bs ic,.sl .fl iu]] => .eC (decide (bx.dk (bx.of [] (Val.mk iq iv ir ik ie ij ig ic iu))≤100000)) [(.i .i64 (((Bs.size (bx.of [] (Val.mk iq iv ir ik ie ij ig ic iu)):Nat):Int)))]
 | _ => .err
def sy.cn (n:Nat):eE:=fun l=>match l with
 | [.ag [.i .i64 iq,.u64 iv,.u64 ir,.u64 ik,.s ie,.s ij,.i .i64 ig,.sl .bs ic,.sl .fl iu]] => .eC ((decide (bx.dk (bx.of [] (Val.mk iq iv ir ik ie ij ig ic iu))≤100000))&&decide ((bx.dk (bx.of [] (Val.mk iq iv ir ik ie ij ig ic iu)))<n)) [(.i .i64 (((Bs.size (bx.of [] (Val.mk iq iv ir ik ie ij ig ic iu)):Nat):Int)))]
 | _ => .err
def Jh.sg:cg:={ own:=[0] }
def Jh.c:eE:=fun l=>match l with
 | [.s s] => .eC (decide ((s).length≤1000000)) [(.sl .bs ((Bs.fC s)))]
 | _ => .err
def I8.sg:cg:={ own:=[0] }
def I8.c:eE:=fun l=>match l with
 | [.sl .fl l] => .eC (decide (bx.cw l≤100000)) [(.sl .bs ((Bs.iR l)))]
 | _ => .err
def I8.cn (n:Nat):eE:=fun l=>match l with
 | [.sl .fl l] => .eC ((decide (bx.cw l≤100000))&&decide ((2 * bx.cw l+1)<n)) [(.sl .bs ((Bs.iR l)))]
 | _ => .err
def IZ.sg:cg:={ own:=[0] }
def IZ.cn (n:Nat):eE:=fun l=>match l with
 | [.ag [.i .i64 iq,.u64 iv,.u64 ir,.u64 ik,.s ie,.s ij,.i .i64 ig,.sl .bs ic,.sl .fl iu]] => .eC ((decide (bx.dk (bx.of [] (Val.mk iq iv ir ik ie ij ig ic iu))≤100000))&&decide ((2 * bx.dk (bx.of [] (Val.mk iq iv ir ik ie ij ig ic iu)))<n)) [(.sl .bs ((Bs.enc (bx.of [] (Val.mk iq iv ir ik ie ij ig ic iu)))))]
 | _ => .err
def Je.sg:cg:={ bC:=2 }
def Je.c:eE:=fun l=>match l with
 | [.ag [.i .i64 iq,.u64 iv,.u64 ir,.u64 ik,.s ie,.s ij,.i .i64 ig,.sl .bs ic,.sl .fl iu]] => .eC (decide (bx.dk (bx.of [] (Val.mk iq iv ir ik ie ij ig ic iu))≤100000)) [(.sl .bs ((Bs.encode (Val.mk iq iv ir ik ie ij ig ic iu)).1)),(.ag (cq.cells ((cq.mk (Bs.encode (Val.mk iq iv ir ik ie ij ig ic iu)).2.1 0 (Bs.encode (Val.mk iq iv ir ik ie ij ig ic iu)).2.2))))]
 | _ => .err
end
end Go.Eng
set_option maxRecDepth 100000
namespace Go.Eng
open Go.Proofs
noncomputable section
def bX.E:cz:=dH fJ zs []
def bX.h:Hint := .o
def bX.F (s:IY) (c:UInt8):OT:=dD PG bX.E 177 bX.sg bX.h [(.s s),(.u8 c)]
theorem bX.fh (s:IY) (c:UInt8):bX.F s c=some [(.i .i64 (Lib.indexByte s c))]:=by kernel_rfl
def dB.E:cz:=dH fJ zs [(177,(bX.c,bX.sg))]
def dB.h:Hint := .o
def dB.F (s:IY) (t:IY):OT:=dD PG dB.E 133 dB.sg dB.h [(.s s),(.s t)]
theorem dB.cR (s:IY) (t:IY) {ρ:OT} (K:∀(v1:Bool) (h1:v1=(cond (decide (((t).length:Int)=(0:Int))) true (decide (t=s)))) (v2:UInt8) (h2:v2=(List.getD t ((0:Int)).toNat (0:UInt8))),ck (!(!(decide (((t).length:Int)=(0:Int)))) || ((!(decide (((t).length:Int)=(0:Int))))&&(!(decide (((t).length:Int)=(0:Int)))))) (ck ((decide (((t).length:Int)=(0:Int))) || (!(decide (((t).length:Int)=(0:Int))))) (cond v1
  (some [(.i .i64 0)])
  (cond (decide (((t).length:Int)=(1:Int)))
  (ck (dj (0:Int) (t).length) (some [(.i .i64 (Lib.indexByte s v2))]))
  (cond (decide (((s).length:Int)≤((t).length:Int)))
  (some [(.i .i64 (-1))])
  (none)))))=ρ):dB.F s t=ρ:=Eq.trans (by kernel_rfl) (K _ rfl _ rfl)
def eR.E:cz:=dH fJ zs []
def eR.h:Hint := .o
def eR.F (r:Int):OT:=dD PG eR.E 176 eR.sg eR.h [(.i .i64 r)]
theorem eR.cR (r:Int) {ρ:OT} (K:∀(v1:Bool) (h1:v1=(cond (decide ((0:Int)≤r)) (decide (r≤(1114111:Int))) false)) (v2:Bool) (h2:v2=(v1&&(!(decide (r<(55296:Int)))))) (v3:Bool) (h3:v3=(cond (decide (r<(55296:Int))) true (decide ((57343:Int)<r)))),ck (!(decide ((0:Int)≤r)) || (decide ((0:Int)≤r))) (ck (!(decide ((0:Int)≤r)) || (decide ((0:Int)≤r))) (ck (!v1 || v1) (ck (!v1 || v1) (ck (!v2 || v2) (ck (!v1 || (v1&&((decide (r<(55296:Int))) || v2))) (ck (!v1 || v1) (some [(.b (cond v1 v3 false))])))))))=ρ):eR.F r=ρ:=Eq.trans (by kernel_rfl) (K _ rfl _ rfl _ rfl)
def bB.E:cz:=dH fJ zs [(176,(eR.c,eR.sg))]
def bB.h:Hint := .s .o (.sc [(0,(sc [])),(1,(sc [0,1,4,7,8,9]))] (.s .o (.s .o (.s .o (.j (sc [0,1,4,7,8]) .o .o)))))
def bB.F (b:List UInt8) (at_:Int):OT:=dD PG bB.E 132 bB.sg bB.h [(.sl .bs b),(.i .i64 at_)]
def bB.g1:OT:=jD PG bB.E 132 bB.sg bB.h 3 0 []
def bB.j2 (x0:List UInt8) (x1:Int) (x2:Int) (x3:Int) (x4:Int):OT:=fp PG bB.E 132 bB.sg bB.h 61 [(.sl .bs x0),(.i .i64 x1),(.i .i64 x2),(.i .i64 x3),(.i .i64 x4)]
def bB.g3 (x0:List UInt8) (x1:Int) (x2:Int) (x3:Int) (x4:Int) (x5:Int):OT:=jD PG bB.E 132 bB.sg bB.h 3 1 [(.sl .bs x0),(.i .i64 x1),(.i .i64 x2),(.i .i64 x3),(.i .i64 x4),(.i .i64 x5)]
theorem bB.lP:bB.g1=some [(.i .i64 (0:Int)),(.i .i64 (0:Int))]:=((gS _ _ _ _ _ _ _ _).trans (by kernel_rfl))
theorem bB.lO (x0:List UInt8) (x1:Int) (x2:Int) (x3:Int) (x4:Int) {ρ:OT} (K:∀(v1:Int) (h1:v1=(IntKind.i64.wrap (((x0).length:Int) - x1))) (v2:Int) (h2:v2=(IntKind.i64.wrap (v1 - (1:Int)))) (v3:Int) (h3:v3=(IntKind.i64.wrap (x1+(1:Int)))) (v4:UInt8) (h4:v4=(List.getD x0 (v3).toNat (0:UInt8))) (v5:Bool) (h5:v5=(!decide ((v4 &&& (192:UInt8))=(128:UInt8)))) (v6:Int) (h6:v6=(IntKind.i64.wrap (x2 * 2 ^ (min (((6:UInt64)).toNat) (IntKind.i64.bits))))) (v7:Int) (h7:v7=(IntKind.i64.wrap (((v4 &&& (63:UInt8))).toNat:Int))) (v8:Int) (h8:v8=(IntKind.i64.wrap ((1:Int)+(1:Int)))) (v9:Bool) (h9:v9=(cond (decide (x2<x4)) true (!(dp.jg x2)))) (v10:Int) (iU:v10=(IntKind.i64.wrap (x3+(1:Int)))),cond (decide (v2<x3))
  (bB.g1)
  (cond (decide ((1:Int)≤x3))
  (ck (dj v3 (x0).length) (cond v5
  (bB.g1)
  (ck (dj v3 (x0).length) (bB.g3 x0 x1 (intBitsV .or .i64 v6 v7) x3 x4 v8))))
  (ck (!(!(decide (x2<x4))) || (!(decide (x2<x4)))) (ck (!(!(decide (x2<x4))) || (!(decide (x2<x4)))) (ck ((decide (x2<x4)) || (!(decide (x2<x4)))) (cond v9
  (bB.g1)
  (some [(.i .i64 x2),(.i .i64 v10)]))))))=ρ):bB.j2 x0 x1 x2 x3 x4=ρ:=((dv _ _ _ _ _ _ _).trans (by kernel_rfl)).trans (K _ rfl _ rfl _ rfl _ rfl _ rfl _ rfl _ rfl _ rfl _ rfl _ rfl)
theorem bB.ot (x0:List UInt8) (x1:Int) (x2:Int) (x3:Int) (x4:Int) (x5:Int) {ρ:OT} (K:∀(v1:UInt8) (h1:v1=(List.getD x0 ((IntKind.i64.wrap (x1+x5))).toNat (0:UInt8))) (v2:Bool) (h2:v2=(!decide ((v1 &&& (192:UInt8))=(128:UInt8)))) (v3:Int) (h3:v3=(IntKind.i64.wrap (x2 * 2 ^ (min (((6:UInt64)).toNat) (IntKind.i64.bits))))) (v4:Int) (h4:v4=(IntKind.i64.wrap (((v1 &&& (63:UInt8))).toNat:Int))) (v5:Int) (h5:v5=(IntKind.i64.wrap (x5+(1:Int)))) (v6:Bool) (h6:v6=(cond (decide (x2<x4)) true (!(dp.jg x2)))) (v7:Int) (h7:v7=(IntKind.i64.wrap (x3+(1:Int)))),cond (decide (x5≤x3))
  (ck (dj (IntKind.i64.wrap (x1+x5)) (x0).length) (cond v2
  (bB.g1)
  (ck (dj (IntKind.i64.wrap (x1+x5)) (x0).length) (bB.g3 x0 x1 (intBitsV .or .i64 v3 v4) x3 x4 v5))))
  (ck (!(!(decide (x2<x4))) || (!(decide (x2<x4)))) (ck (!(!(decide (x2<x4))) || (!(decide (x2<x4)))) (ck ((decide (x2<x4)) || (!(decide (x2<x4)))) (cond v6
  (bB.g1)
  (some [(.i .i64 x2),(.i .i64 v7)])))))=ρ):bB.g3 x0 x1 x2 x3 x4 x5=ρ:=((gS _ _ _ _ _ _ _ _).trans (by kernel_rfl)).trans (K _ rfl _ rfl _ rfl _ rfl _ rfl _ rfl _ rfl)
theorem bB.cR (b:List UInt8) (at_:Int) {ρ:OT} (K:∀(v1:Bool) (h1:v1=(cond (decide (at_<(0:Int))) true (decide (((b).length:Int)≤at_)))) (v2:UInt8) (h2:v2=(List.getD b (at_).toNat (0:UInt8))) (v3:Int) (h3:v3=(IntKind.i64.wrap ((v2).toNat:Int))) (v4:Bool) (h4:v4=(cond (decide ((192:Int)≤v3)) (decide (v3<(224:Int))) false)) (v5:Int) (h5:v5=(intBitsV .and .i64 v3 (31:Int))) (v6:Bool) (h6:v6=(cond (decide ((224:Int)≤v3)) (decide (v3<(240:Int))) false)) (v7:Int) (h7:v7=(intBitsV .and .i64 v3 (15:Int))) (v8:Bool) (h8:v8=(cond (decide ((240:Int)≤v3)) (decide (v3<(248:Int))) false)) (v9:Int) (h9:v9=(intBitsV .and .i64 v3 (7:Int))),ck (!(!(decide (at_<(0:Int)))) || (!(decide (at_<(0:Int))))) (ck (!(!(decide (at_<(0:Int)))) || ((!(decide (at_<(0:Int))))&&(!(decide (at_<(0:Int)))))) (ck ((decide (at_<(0:Int))) || (!(decide (at_<(0:Int))))) (cond v1
  (bB.g1)
  (ck (dj at_ (b).length) (cond (decide (v3<(128:Int)))
  (some [(.i .i64 v3),(.i .i64 1)])
  (ck (!(decide ((192:Int)≤v3)) || (decide ((192:Int)≤v3))) (ck (!(decide ((192:Int)≤v3)) || (decide ((192:Int)≤v3))) (cond v4
  (bB.j2 b at_ v5 (1:Int) (128:Int))
  (ck (!(decide ((224:Int)≤v3)) || (decide ((224:Int)≤v3))) (ck (!(decide ((224:Int)≤v3)) || (decide ((224:Int)≤v3))) (cond v6
  (bB.j2 b at_ v7 (2:Int) (2048:Int))
  (ck (!(decide ((240:Int)≤v3)) || (decide ((240:Int)≤v3))) (ck (!(decide ((240:Int)≤v3)) || (decide ((240:Int)≤v3))) (cond v8
  (bB.j2 b at_ v9 (3:Int) (65536:Int))
  (bB.g1)))))))))))))))=ρ):bB.F b at_=ρ:=Eq.trans (by kernel_rfl) (K _ rfl _ rfl _ rfl _ rfl _ rfl _ rfl _ rfl _ rfl _ rfl)
def bK.E:cz:=dH fJ zs [(132,(bB.c,bB.sg))]
def bK.h:Hint := .s .o (.j (sc [2,3]) (.b (.l (sc [0,2,3]) .o)) .o)
def bK.F (b:List UInt8):OT:=dD PG bK.E 100 bK.sg bK.h [(.sl .bs b)]
def bK.l1 (x0:List UInt8) (x1:Int) (x2:Int):OT:=j9 PG bK.E 100 bK.sg bK.h 9 [(.sl .bs x0),(.i .i64 x1),(.i .i64 x2)]
def bK.j2 (x0:Int) (x1:Int):OT:=fp PG bK.E 100 bK.sg bK.h 3 [(.i .i64 x0),(.i .i64 x1)]
theorem bK.fo (x0:List UInt8) (x1:Int) (x2:Int) {ρ:OT} (K:∀(v1:Int) (h1:v1=(IntKind.i64.wrap (x1+((dp.iY x0 x1).2)))) (v2:Int) (h2:v2=(IntKind.i64.wrap (x2+(1:Int)))),cond (decide (x1<((x0).length:Int)))
  (ck (decide (x0.length≤1099511627776)) (cond (decide (((dp.iY x0 x1).2)=(0:Int)))
  (bK.j2 x1 x2)
  (bK.l1 x0 v1 v2)))
  (bK.j2 x1 x2)=ρ):bK.l1 x0 x1 x2=ρ:=((gn _ _ _ _ _ _ _).trans (by kernel_rfl)).trans (K _ rfl _ rfl)
theorem bK.jE (x0:Int) (x1:Int):bK.j2 x0 x1=some [(.i .i64 x0),(.i .i64 x1)]:=((dv _ _ _ _ _ _ _).trans (by kernel_rfl))
theorem bK.fh (b:List UInt8):bK.F b=bK.l1 b (0:Int) (0:Int):=by kernel_rfl
def utf_Check.E:cz:=dH fJ zs [(100,(bK.c,bK.sg))]
def utf_Check.h:Hint := .o
def utf_Check.F (b:List UInt8):OT:=dD PG utf_Check.E 69 utf_Check.sg utf_Check.h [(.sl .bs b)]
theorem utf_Check.fh (b:List UInt8):utf_Check.F b=ck (decide (b.length≤1099511627776)) (some [(.i .i64 (((dp.look b).1:Int))),(.b (decide ((((dp.look b).1:Int))=((b).length:Int))))]):=by kernel_rfl
def cH.E:cz:=dH fJ zs []
def cH.h:Hint := .o
def cH.F (k:Int):OT:=dD PG cH.E 46 cH.sg cH.h [(.i .i64 k)]
theorem cH.cR (k:Int) {ρ:OT} (K:∀(v1:Bool) (h1:v1=(cond (decide (k<(0:Int))) true (decide ((20:Int)≤k)))) (v2:IY) (h2:v2=(List.getD [([]:IY),([100,111,117,98,108,101]:IY),([115,116,114,105,110,103]:IY),([100,111,99,117,109,101,110,116]:IY),([97,114,114,97,121]:IY),([98,105,110,97,114,121]:IY),([117,110,100,101,102,105,110,101,100]:IY),([111,98,106,101,99,116,105,100]:IY),([98,111,111,108]:IY),([100,97,116,101]:IY),([110,117,108,108]:IY),([114,101,103,101,120]:IY),([112,111,105,110,116,101,114]:IY),([99,111,100,101]:IY),([115,121,109,98,111,108]:IY),([115,99,111,112,101,100]:IY),([105,110,116,51,50]:IY),([116,105,109,101,115,116,97,109,112]:IY),([105,110,116,54,52]:IY),([100,101,99,105,109,97,108]:IY)] ((k).toNat) ([]:IY))),cond (decide (k=(127:Int)))
  (some [(.s ([109,97,120,107,101,121]:IY))])
  (cond (decide (k=(255:Int)))
  (some [(.s ([109,105,110,107,101,121]:IY))])
  (ck (!(!(decide (k<(0:Int)))) || (!(decide (k<(0:Int))))) (ck ((decide (k<(0:Int))) || (!(decide (k<(0:Int))))) (cond v1
  (some [(.s [])])
  (ck (dj k 20) (ck (decide ((k).toNat<20)) (some [(.s v2)])))))))=ρ):cH.F k=ρ:=Eq.trans (by kernel_rfl) (K _ rfl _ rfl)
def bq.E:cz:=dH fJ zs []
def bq.h:Hint := .s .o (.s .o (.j [(1,.ptr 116 0),(3,.no),(116,.cl [])] (.s .o (.b (.j [(1,.ptr 116 0),(3,.no),(5,.no),(6,.no),(116,.cl [])] .o (.s .o (.s .o (.s .o (.s .o (.s .o (.s .o (.s .o (.j [(1,.ptr 116 0),(3,.no),(5,.no),(28,.no),(116,.cl [])] .o (.s .o (.s .o (.s .o (.s .o (.s .o (.s .o (.s .o (.s .o (.s .o (.j [(1,.ptr 116 0),(3,.no),(5,.no),(64,.no),(116,.cl [])] .o .o))))))))))))))))))))) .o))
def bq.F (v:Val):OT:=dD PG bq.E 57 bq.sg bq.h [(.ag (Val.cells v))]
def bq.j1 (x0:Bool) (x1:Int) (x2:Bool) (x3:Val):OT:=fp PG bq.E 57 bq.sg bq.h 43 [.pt,(.b x0),(.i .i64 x1),(.b x2),(.ag (Val.cells x3))]
def bq.j2 (x0:Bool) (x1:Val):OT:=fp PG bq.E 57 bq.sg bq.h 7 [.pt,(.b x0),(.ag (Val.cells x1))]
def bq.j3 (x0:Bool) (x1:Int) (x2:Bool) (x3:Val):OT:=fp PG bq.E 57 bq.sg bq.h 16363 [.pt,(.b x0),(.i .i64 x1),(.b x2),(.ag (Val.cells x3))]
def bq.j4 (x0:Bool) (x1:Int) (x2:Bool) (x3:Val):OT:=fp PG bq.E 57 bq.sg bq.h 16777195 [.pt,(.b x0),(.i .i64 x1),(.b x2),(.ag (Val.cells x3))]
theorem bq.qz (x0:Bool) (x1:Int) (x2:Bool) (x3:Val):bq.j1 x0 x1 x2 x3=cond x2
  (bq.j2 x0 (Val.mk (Val.kind x3) 0 (Val.high x3) (Val.low x3) (Val.text x3) (Val.more x3) (Val.sub x3) (Val.bytes x3) (Val.kids x3)))
  (cond (decide (x1=(16:Int)))
  (bq.j2 (decide ((Val.bits x3)<(4294967296:UInt64))) (Val.mk (Val.kind x3) 0 (Val.high x3) (Val.low x3) (Val.text x3) (Val.more x3) (Val.sub x3) (Val.bytes x3) (Val.kids x3)))
  (cond (decide (x1=(8:Int)))
  (bq.j2 (decide ((Val.bits x3)<(2:UInt64))) (Val.mk (Val.kind x3) 0 (Val.high x3) (Val.low x3) (Val.text x3) (Val.more x3) (Val.sub x3) (Val.bytes x3) (Val.kids x3)))
  (cond (decide (x1=(19:Int)))
  (bq.j2 x0 (Val.mk (Val.kind x3) (Val.bits x3) 0 0 (Val.text x3) (Val.more x3) (Val.sub x3) (Val.bytes x3) (Val.kids x3)))
  (cond (decide (x1=(2:Int)))
  (bq.j3 x0 x1 (decide (x1=(2:Int))) x3)
  (cond (decide (x1=(13:Int)))
  (bq.j3 x0 x1 (decide (x1=(13:Int))) x3)
  (bq.j3 x0 x1 (decide (x1=(14:Int))) x3)))))):=((dv _ _ _ _ _ _ _).trans (by kernel_rfl))
theorem bq.lO (x0:Bool) (x1:Val) {ρ:OT} (K:∀(v1:Bool) (h1:v1=(cond x0 (decide ((Val.bits x1)=(0:UInt64))) false)) (v2:Bool) (h2:v2=(cond v1 (decide ((Val.high x1)=(0:UInt64))) false)) (v3:Bool) (h3:v3=(cond v2 (decide ((Val.low x1)=(0:UInt64))) false)) (v4:Bool) (h4:v4=(cond v3 (decide ((Val.text x1)=([]:IY))) false)) (v5:Bool) (h5:v5=(cond v4 (decide ((Val.more x1)=([]:IY))) false)) (v6:Bool) (h6:v6=(cond v5 (decide ((Val.sub x1)=(0:Int))) false)) (v7:Int) (h7:v7=(((Val.bytes x1)).length:Int)) (v8:Bool) (h8:v8=(cond v6 (decide (v7=(0:Int))) false)) (v9:Int) (h9:v9=(((Val.kids x1)).length:Int)) (v10:Bool) (iU:v10=(cond v8 (decide (v9=(0:Int))) false)),ck (!x0 || x0) (ck (!x0 || x0) (ck (!x0 || x0) (ck (!v1 || v1) (ck (!v1 || v1) (ck (!v1 || v1) (ck (!v2 || v2) (ck (!v2 || v2) (ck (!v2 || v2) (ck (!v3 || v3) (ck (!v3 || v3) (ck (!v3 || v3) (ck (!v4 || v4) (ck (!v4 || v4) (ck (!v4 || v4) (ck (!v5 || v5) (ck (!v5 || v5) (ck (!v5 || v5) (ck (!v6 || v6) (ck (!v6 || v6) (ck (!v6 || v6) (ck (!v6 || v6) (ck (!v8 || v8) (ck (!v8 || v8) (ck (!v8 || v8) (ck (!v8 || v8) (some [(.b v10)]))))))))))))))))))))))))))=ρ):bq.j2 x0 x1=ρ:=((dv _ _ _ _ _ _ _).trans (by kernel_rfl)).trans (K _ rfl _ rfl _ rfl _ rfl _ rfl _ rfl _ rfl _ rfl _ rfl _ rfl)
theorem bq.j3_in (x0:Bool) (x1:Int) (x2:Bool) (x3:Val) {ρ:OT} (K:∀(v1:Bool) (h1:v1=(cond (decide ((0:Int)≤(Val.sub x3))) (decide ((Val.sub x3)≤(255:Int))) false)) (v2:Int) (h2:v2=(((Val.bytes x3)).length:Int)),cond x2
  (bq.j2 x0 (Val.mk (Val.kind x3) (Val.bits x3) (Val.high x3) (Val.low x3) [] (Val.more x3) (Val.sub x3) (Val.bytes x3) (Val.kids x3)))
  (cond (decide (x1=(11:Int)))
  (bq.j2 x0 (Val.mk (Val.kind x3) (Val.bits x3) (Val.high x3) (Val.low x3) [] [] (Val.sub x3) (Val.bytes x3) (Val.kids x3)))
  (cond (decide (x1=(5:Int)))
  (ck (!(decide ((0:Int)≤(Val.sub x3))) || (decide ((0:Int)≤(Val.sub x3)))) (ck (!(decide ((0:Int)≤(Val.sub x3))) || (decide ((0:Int)≤(Val.sub x3)))) (ck (!(decide ((0:Int)≤(Val.sub x3))) || (decide ((0:Int)≤(Val.sub x3)))) (bq.j2 v1 (Val.mk (Val.kind x3) (Val.bits x3) (Val.high x3) (Val.low x3) (Val.text x3) (Val.more x3) 0 [] (Val.kids x3))))))
  (cond (decide (x1=(7:Int)))
  (bq.j2 (decide (v2=(12:Int))) (Val.mk (Val.kind x3) (Val.bits x3) (Val.high x3) (Val.low x3) (Val.text x3) (Val.more x3) (Val.sub x3) [] (Val.kids x3)))
  (cond (decide (x1=(12:Int)))
  (bq.j2 (decide (v2=(12:Int))) (Val.mk (Val.kind x3) (Val.bits x3) (Val.high x3) (Val.low x3) [] (Val.more x3) (Val.sub x3) [] (Val.kids x3)))
  (cond (decide (x1=(3:Int)))
  (bq.j4 x0 x1 (decide (x1=(3:Int))) x3)
  (bq.j4 x0 x1 (decide (x1=(4:Int))) x3))))))=ρ):bq.j3 x0 x1 x2 x3=ρ:=((dv _ _ _ _ _ _ _).trans (by kernel_rfl)).trans (K _ rfl _ rfl)
theorem bq.Cw (x0:Bool) (x1:Int) (x2:Bool) (x3:Val):bq.j4 x0 x1 x2 x3=cond x2
  (bq.j2 x0 (Val.mk (Val.kind x3) (Val.bits x3) (Val.high x3) (Val.low x3) (Val.text x3) (Val.more x3) (Val.sub x3) (Val.bytes x3) []))
  (cond (decide (x1=(15:Int)))
  (bq.j2 x0 (Val.mk (Val.kind x3) (Val.bits x3) (Val.high x3) (Val.low x3) [] (Val.more x3) (Val.sub x3) (Val.bytes x3) []))
  (bq.j2 x0 x3)):=((dv _ _ _ _ _ _ _).trans (by kernel_rfl))
theorem bq.fh (v:Val):bq.F v=cond (decide ((Val.kind v)=(1:Int)))
  (bq.j1 true (Val.kind v) (decide ((Val.kind v)=(1:Int))) v)
  (cond (decide ((Val.kind v)=(9:Int)))
  (bq.j1 true (Val.kind v) (decide ((Val.kind v)=(9:Int))) v)
  (cond (decide ((Val.kind v)=(17:Int)))
  (bq.j1 true (Val.kind v) (decide ((Val.kind v)=(17:Int))) v)
  (bq.j1 true (Val.kind v) (decide ((Val.kind v)=(18:Int))) v))):=by kernel_rfl
def dA.E:cz:=dH fJ zs [(133,(dB.c,dB.sg))]
def dA.h:Hint := .o
def dA.F (s:IY) (t:IY):OT:=dD PG dA.E 102 dA.sg dA.h [(.s s),(.s t)]
theorem dA.cR (s:IY) (t:IY) {ρ:OT} (K:∀(v1:Int) (h1:v1=(Lib.indexByte s (t.getD 0 0))),ck (decide (t.length=1)) (some [(.i .i64 v1)])=ρ):dA.F s t=ρ:=Eq.trans (by kernel_rfl) (K _ rfl)
def cr.E:cz:=dH fJ zs [(102,(dA.c,dA.sg))]
def cr.h:Hint := .o
def cr.F (s:IY) (t:IY):OT:=dD PG cr.E 79 cr.sg cr.h [(.s s),(.s t)]
theorem cr.cR (s:IY) (t:IY) {ρ:OT} (K:∀(v1:Int) (h1:v1=(Lib.indexByte s (t.getD 0 0))),ck (decide (t.length=1)) (some [(.b (decide ((0:Int)≤v1)))])=ρ):cr.F s t=ρ:=Eq.trans (by kernel_rfl) (K _ rfl)
def df.E:cz:=dH fJ zs []
def df.h:Hint := .o
def df.F (l:List Int):OT:=dD PG df.E 56 df.sg df.h [(.sl .is l)]
theorem df.fh (l:List Int):df.F l=cond (List.isEmpty l)
  (both (some [(.sl .is ([]:List Int)),(.sl .is l)]) (ck (eO ((([]:List Int)).length+(l).length) 8) (some [(.sl .is (([]:List Int)++l)),(.sl .is l)])))
  (ck (eO ((([]:List Int)).length+(l).length) 8) (some [(.sl .is (([]:List Int)++l)),(.sl .is l)])):=by kernel_rfl
def cE.E:cz:=dH fJ zs [(69,(utf_Check.c,utf_Check.sg)),(79,(cr.c,cr.sg))]
def cE.h:Hint := .o
def cE.F (s:IY) (plain:Bool):OT:=dD PG cE.E 58 cE.sg cE.h [(.s s),(.b plain)]
theorem cE.cR (s:IY) (plain:Bool) {ρ:OT} (K:∀(v1:Bool) (h1:v1=(cond plain (decide (0≤Lib.indexByte s ((([0]:IY)).getD 0 0))) false)) (v2:Bool) (h2:v2=(cond (dp.whole s) (!v1) false)),ck (lM (s).length) (ck (decide (s.length≤1099511627776)) (ck (!(dp.whole s) || (dp.whole s)) (ck (!((dp.whole s)&&plain) || (((dp.whole s)&&plain)&&(decide ((([0]:IY)).length=1)))) (ck (!(dp.whole s) || ((dp.whole s)&&(!plain || ((dp.whole s)&&plain)))) (ck (!(dp.whole s) || (dp.whole s)) (ck (!(dp.whole s) || (dp.whole s)) (some [(.b v2)])))))))=ρ):cE.F s plain=ρ:=Eq.trans (by kernel_rfl) (K _ rfl _ rfl)
def bH.E (n:Nat):cz:=dH fJ zs [(32,(bH.cn n,bH.sg)),(46,(cH.c,cH.sg)),(56,(df.c,df.sg)),(57,(bq.c,bq.sg)),(58,(cE.c,cE.sg))] [139]
def bH.h:Hint := .s .o (.s .o (.s .o (.s (.s .o (.b (.l [(2,.cM 1000002),(50,.no),(51,.no),(52,.no),(1000002,.pv)] .o))) .o)))
def bH.F (n:Nat) (v:Val) (name:IY) (path:List Int):OT:=dD PG (bH.E n) 32 bH.sg bH.h [(.ag (Val.cells v)),(.s name),(.sl .is path)]
def bH.l1 (n:Nat) (x0:List bx) (x1:Int) (x2:Int) (x3:List Int):OT:=j9 PG (bH.E n) 32 bH.sg bH.h 87 [.pt,(.sl .fl x0),(.i .i64 x1),(.i .i64 x2),(.sl .is x3)]
theorem bH.fo (n:Nat) (x0:List bx) (x1:Int) (x2:Int) (x3:List Int) {ρ:OT} (K:∀(v1:bx) (h1:v1=(List.getD x0 (x2).toNat (ez.iH .fl))) (v2:List Int) (h2:v2=((Tree.hU (bx.of ((bx.name v1)) (bx.val v1)) ((x3++([x2]:List Int)))).1)) (v3:Int) (h3:v3=((Tree.hU (bx.of ((bx.name v1)) (bx.val v1)) ((x3++([x2]:List Int)))).2)) (v4:Int) (h4:v4=(IntKind.i64.wrap (x2+(1:Int)))),cond (decide (x2<x1))
  (ck (dj x2 (x0).length) (ck (eO ((x3).length+(([x2]:List Int)).length) 8) (ck ((decide (bx.dk (bx.of ((bx.name v1)) (bx.val v1))+((x3++([x2]:List Int))).length≤1099511627776))&&decide ((bx.dk (bx.of ((bx.name v1)) (bx.val v1)))<n)) (cond (!decide (v3=(0:Int)))
  (some [(.sl .is v2),(.i .i64 v3),(.sl .is x3)])
  (bH.l1 n x0 x1 v4 x3)))))
  (some [(.sl .is ([]:List Int)),(.i .i64 0),(.sl .is x3)])=ρ):bH.l1 n x0 x1 x2 x3=ρ:=((gn _ _ _ _ _ _ _).trans (by kernel_rfl)).trans (K _ rfl _ rfl _ rfl _ rfl)
theorem bH.cR (n:Nat) (v:Val) (name:IY) (path:List Int) {ρ:OT} (K:∀(v1:Bool) (h1:v1=(Tree.dr ((Val.text v)) ((decide ((Val.kind v)=(11:Int)))))) (v2:Bool) (h2:v2=(Tree.dr ((Val.more v)) ((decide ((Val.kind v)=(11:Int)))))) (v3:Bool) (h3:v3=(cond (cond (!v1) true (!v2)) true (!(Tree.dr name true)))) (v4:Int) (h4:v4=(((Val.kids v)).length:Int)),cond (decide ((Tree.name ((Val.kind v)))=([]:IY)))
  (ck (eO (path).length 8) (some [(.sl .is (path)),(.i .i64 5),(.sl .is path)]))
  (cond (!(Tree.fieldsOK v))
  (ck (eO (path).length 8) (some [(.sl .is (path)),(.i .i64 1),(.sl .is path)]))
  (ck (decide (((Val.text v)).length≤1099511627776)) (ck (!(!(!v1)) || (!(!v1))) (ck (!(!(!v1)) || (((!(!v1))&&(!(!v1)))&&(decide (((Val.more v)).length≤1099511627776)))) (ck (!(!(!v1)) || (!(!v1))) (ck ((!v1) || (!(!v1))) (ck (!(!(cond (!v1) true (!v2))) || ((!(cond (!v1) true (!v2)))&&(decide (name.length≤1099511627776)))) (ck (!(!(cond (!v1) true (!v2))) || (!(cond (!v1) true (!v2)))) (ck ((cond (!v1) true (!v2)) || (!(cond (!v1) true (!v2)))) (cond v3
  (ck (eO (path).length 8) (some [(.sl .is (path)),(.i .i64 4),(.sl .is path)]))
  (bH.l1 n (Val.kids v) v4 (0:Int) path)))))))))))=ρ):bH.F n v name path=ρ:=Eq.trans (by kernel_rfl) (K _ rfl _ rfl _ rfl _ rfl)
def cF.E:cz:=dH fJ zs [(32,(bH.c,bH.sg))]
def cF.h:Hint := .o
def cF.F (v:Val):OT:=dD PG cF.E 12 cF.sg cF.h [(.ag (Val.cells v))]
theorem cF.cR (v:Val) {ρ:OT} (K:∀(v1:List Int) (h1:v1=((Tree.hU (bx.of (([]:IY)) v) (([]:List Int))).1)) (v2:Int) (h2:v2=((Tree.hU (bx.of (([]:IY)) v) (([]:List Int))).2)),ck (decide (bx.dk (bx.of (([]:IY)) v)+(([]:List Int)).length≤1099511627776)) (some [(.sl .is v1),(.i .i64 v2)])=ρ):cF.F v=ρ:=Eq.trans (by kernel_rfl) (K _ rfl _ rfl)
def I6.E:cz:=dH fJ zs []
def I6.h:Hint := .s .o (.s (.s .o (.b (.l (sc [0,1,5]) .o))) .o)
def I6.F (left:Int) (dC:List Int):OT:=dD PG I6.E 43 I6.sg I6.h [(.i .i64 left),(.sl .is dC)]
def I6.l1 (x0:Int) (x1:List Int) (x2:Int):OT:=j9 PG I6.E 43 I6.sg I6.h 21 [(.i .i64 x0),(.sl .is x1),(.i .i64 x2)]
theorem I6.fo (x0:Int) (x1:List Int) (x2:Int) {ρ:OT} (K:∀(v1:Int) (h1:v1=(List.getD x1 (x2).toNat (0:Int))) (v2:Bool) (h2:v2=(cond (decide (x0<(0:Int))) true (decide (x0<v1)))) (v3:Int) (h3:v3=(IntKind.i64.wrap (x2+(1:Int)))),cond (decide (x2<((x1).length:Int)))
  (ck (!(!(decide (x0<(0:Int)))) || (((!(decide (x0<(0:Int))))&&(!(decide (x0<(0:Int)))))&&(dj x2 (x1).length))) (ck (!(!(decide (x0<(0:Int)))) || (!(decide (x0<(0:Int))))) (ck (!(!(decide (x0<(0:Int)))) || ((!(decide (x0<(0:Int))))&&(!(decide (x0<(0:Int)))))) (ck ((decide (x0<(0:Int))) || (!(decide (x0<(0:Int))))) (cond v2
  (some [(.i .i64 (-1))])
  (ck (dj x2 (x1).length) (I6.l1 (IntKind.i64.wrap (x0 - v1)) x1 v3)))))))
  (some [(.i .i64 x0)])=ρ):I6.l1 x0 x1 x2=ρ:=((gn _ _ _ _ _ _ _).trans (by kernel_rfl)).trans (K _ rfl _ rfl _ rfl)
theorem I6.fh (left:Int) (dC:List Int):I6.F left dC=I6.l1 left dC (0:Int):=by kernel_rfl
def Bo.E (n:Nat):cz:=dH fJ zs [(23,(Bo.cn n,Bo.sg)),(43,(I6.c,I6.sg))]
def Bo.h:Hint := .s .o (.s .o (.s (.s .o (.b (.l [(0,.no),(3,.ptr 50 0),(5,.no),(50,.cl [])] .o))) .o))
def Bo.F (n:Nat) (left:Int) (v:Val):OT:=dD PG (Bo.E n) 23 Bo.sg Bo.h [(.i .i64 left),(.ag (Val.cells v))]
def Bo.l1 (n:Nat) (x0:Int) (x1:Int) (x2:Val):OT:=j9 PG (Bo.E n) 23 Bo.sg Bo.h 43 [(.i .i64 x0),.pt,(.i .i64 x1),(.ag (Val.cells x2))]
theorem Bo.fo (n:Nat) (x0:Int) (x1:Int) (x2:Val) {ρ:OT} (K:∀(v1:Int) (h1:v1=(((Val.kids x2)).length:Int)) (v2:Bool) (h2:v2=(cond (decide (x1<v1)) (decide ((0:Int)≤x0)) false)) (v3:bx) (h3:v3=(List.getD (Val.kids x2) (x1).toNat (ez.iH .fl))) (v4:Int) (h4:v4=(((bx.name v3)).length:Int)) (v5:Int) (h5:v5=(DB.room x0 (([v4]:List Int)))) (v6:Int) (h6:v6=(DB.value v5 (bx.of [] (bx.val v3)))) (v7:Int) (h7:v7=(IntKind.i64.wrap (x1+(1:Int)))),ck (!(decide (x1<v1)) || (decide (x1<v1))) (ck (!(decide (x1<v1)) || (decide (x1<v1))) (cond v2
  (ck (dj x1 ((Val.kids x2)).length) (ck (decide (x0≤1200∧(([v4]:List Int)).length≤10)&&(([v4]:List Int)).all (fun s=>decide (0≤s))) (ck (dj x1 ((Val.kids x2)).length) (ck ((decide (v5≤1200))&&decide ((bx.dk (bx.of [] (bx.val v3)))<n)) (Bo.l1 n v6 v7 x2)))))
  (some [(.i .i64 x0)])))=ρ):Bo.l1 n x0 x1 x2=ρ:=((gn _ _ _ _ _ _ _).trans (by kernel_rfl)).trans (K _ rfl _ rfl _ rfl _ rfl _ rfl _ rfl _ rfl)
theorem Bo.cR (n:Nat) (left:Int) (v:Val) {ρ:OT} (K:∀(v1:Int) (h1:v1=(((Val.text v)).length:Int)) (v2:Int) (h2:v2=(((Val.more v)).length:Int)) (v3:Int) (h3:v3=(((Val.bytes v)).length:Int)) (v4:List Int) (h4:v4=([(2:Int),v1,v2,v3]:List Int)),ck (decide (left≤1200∧v4.length≤10)&&v4.all (fun s=>decide (0≤s))) (Bo.l1 n (DB.room left v4) (0:Int) v)=ρ):Bo.F n left v=ρ:=Eq.trans (by kernel_rfl) (K _ rfl _ rfl _ rfl _ rfl)
def Jf.E:cz:=dH fJ zs [(23,(Bo.c,Bo.sg))]
def Jf.h:Hint := .o
def Jf.F (v:Val):OT:=dD PG Jf.E 7 Jf.sg Jf.h [(.ag (Val.cells v))]
theorem Jf.cR (v:Val) {ρ:OT} (K:∀(v1:Int) (h1:v1=(DB.value ((1200:Int)) (bx.of [] v))),ck (decide (((1200:Int))≤1200)) (some [(.b (decide ((0:Int)≤v1)))])=ρ):Jf.F v=ρ:=Eq.trans (by kernel_rfl) (K _ rfl)
def Bp.E:cz:=dH fJ zs []
def Bp.h:Hint := .o
def Bp.F (k:Int) (n:Int):OT:=dD PG Bp.E 21 Bp.sg Bp.h [(.i .i64 k),(.i .i64 n)]
theorem Bp.cR (k:Int) (n:Int) {ρ:OT} (K:∀(v1:Int) (h1:v1=(IntKind.i64.wrap ((Int.tmod k n)+n))),ck (!decide (n=0)) (ck (!decide (n=0)) (some [(.i .i64 (Int.tmod v1 n))]))=ρ):Bp.F k n=ρ:=Eq.trans (by kernel_rfl) (K _ rfl)
def zp.E:cz:=dH fJ zs []
def zp.h:Hint := .o
def zp.F  : OT:=dD PG zp.E 134 zp.sg zp.h []
theorem zp.cR  {ρ:OT} (K:∀(v1:List Int) (h1:v1=([(1:Int),(2:Int),(3:Int),(4:Int),(5:Int),(6:Int),(7:Int),(8:Int),(9:Int),(10:Int),(11:Int),(12:Int),(13:Int),(14:Int),(15:Int),(16:Int),(17:Int),(18:Int),(19:Int),(127:Int),(255:Int)]:List Int)),some [(.sl .is v1)]=ρ):zp.F  = ρ:=Eq.trans (by kernel_rfl) (K _ rfl)
def I4.E:cz:=dH fJ zs [(134,(zp.c,zp.sg))]
def I4.h:Hint := .s .o (.s .o (.s .o (.s (.s .o (.b (.l [(0,.no),(3,.cM 800000),(800000,.pv),(4,.no),(5,.no)] .o))) .o)))
def I4.F (k:Int):OT:=dD PG I4.E 103 I4.sg I4.h [(.i .i64 k)]
def I4.l1 (x0:Int) (x1:List IY) (x2:List Int) (x3:Int):OT:=j9 PG I4.E 103 I4.sg I4.h 87 [(.i .i64 x0),.pt,(.sl .ss x1),(.sl .is x2),(.i .i64 x3)]
theorem I4.fo (x0:Int) (x1:List IY) (x2:List Int) (x3:Int) {ρ:OT} (K:∀(v1:Int) (h1:v1=(List.getD x2 (x3).toNat (0:Int))) (v2:IY) (h2:v2=(List.getD x1 ((x3).toNat) ([]:IY))) (v3:Int) (h3:v3=(IntKind.i64.wrap (x3+(1:Int)))),cond (decide (x3<((x2).length:Int)))
  (ck (dj x3 (x2).length) (cond (decide (v1=x0))
  (ck (dj x3 (x1).length) (ck (decide ((x3).toNat<(x1).length)) (some [(.s v2)])))
  (I4.l1 x0 x1 x2 v3)))
  (some [(.s [])])=ρ):I4.l1 x0 x1 x2 x3=ρ:=((gn _ _ _ _ _ _ _).trans (by kernel_rfl)).trans (K _ rfl _ rfl _ rfl)
theorem I4.cR (k:Int) {ρ:OT} (K:∀(v1:List IY) (h1:v1=([([100,111,117,98,108,101]:IY),([115,116,114,105,110,103]:IY),([100,111,99,117,109,101,110,116]:IY),([97,114,114,97,121]:IY),([98,105,110,97,114,121]:IY),([117,110,100,101,102,105,110,101,100]:IY),([111,98,106,101,99,116,105,100]:IY),([98,111,111,108]:IY),([100,97,116,101]:IY),([110,117,108,108]:IY),([114,101,103,101,120]:IY),([112,111,105,110,116,101,114]:IY),([99,111,100,101]:IY),([115,121,109,98,111,108]:IY),([115,99,111,112,101,100]:IY),([105,110,116,51,50]:IY),([116,105,109,101,115,116,97,109,112]:IY),([105,110,116,54,52]:IY),([100,101,99,105,109,97,108]:IY),([109,97,120,107,101,121]:IY),([109,105,110,107,101,121]:IY)]:List IY)),I4.l1 k v1 (Tree.kinds) (0:Int)=ρ):I4.F k=ρ:=Eq.trans (by kernel_rfl) (K _ rfl)
def IW.E:cz:=dH fJ zs []
def IW.h:Hint := .s .o (.j (sc [2,3,4,5,6,7,8]) (.s .o (.b (.j (sc [2,3,4,5,6,7,8,9,10]) .o (.s .o (.s .o (.s .o (.j (sc [2,3,4,5,6,7,8,9,19]) .o (.s .o (.s .o (.s .o (.s .o (.s .o (.s .o (.s .o (.s .o (.s .o (.j (sc [2,3,4,5,6,7,8,9,31]) .o .o))))))))))))))))) .o)
def IW.F (k:Int):OT:=dD PG IW.E 104 IW.sg IW.h [(.i .i64 k)]
def IW.j1 (x0:Bool) (x1:Bool) (x2:Bool) (x3:Bool) (x4:Bool) (x5:Bool) (x6:Bool) (x7:Int) (x8:Bool):OT:=fp PG IW.E 104 IW.sg IW.h 21 [(.b x0),(.b x1),(.b x2),(.b x3),(.b x4),(.b x5),(.b x6),(.i .i64 x7),(.b x8)]
def IW.j2 (x0:Bool) (x1:Bool) (x2:Bool) (x3:Bool) (x4:Bool) (x5:Bool) (x6:Bool):OT:=fp PG IW.E 104 IW.sg IW.h 3 [(.b x0),(.b x1),(.b x2),(.b x3),(.b x4),(.b x5),(.b x6)]
def IW.j3 (x0:Bool) (x1:Bool) (x2:Bool) (x3:Bool) (x4:Bool) (x5:Bool) (x6:Bool) (x7:Int) (x8:Bool):OT:=fp PG IW.E 104 IW.sg IW.h 501 [(.b x0),(.b x1),(.b x2),(.b x3),(.b x4),(.b x5),(.b x6),(.i .i64 x7),(.b x8)]
def IW.j4 (x0:Bool) (x1:Bool) (x2:Bool) (x3:Bool) (x4:Bool) (x5:Bool) (x6:Bool) (x7:Int) (x8:Bool):OT:=fp PG IW.E 104 IW.sg IW.h 524277 [(.b x0),(.b x1),(.b x2),(.b x3),(.b x4),(.b x5),(.b x6),(.i .i64 x7),(.b x8)]
theorem IW.qz (x0:Bool) (x1:Bool) (x2:Bool) (x3:Bool) (x4:Bool) (x5:Bool) (x6:Bool) (x7:Int) (x8:Bool):IW.j1 x0 x1 x2 x3 x4 x5 x6 x7 x8=cond x8
  (IW.j2 true x1 x2 x3 x4 x5 x6)
  (cond (decide (x7=(19:Int)))
  (IW.j2 x0 true x2 x3 x4 x5 x6)
  (cond (decide (x7=(2:Int)))
  (IW.j3 x0 x1 x2 x3 x4 x5 x6 x7 (decide (x7=(2:Int))))
  (cond (decide (x7=(13:Int)))
  (IW.j3 x0 x1 x2 x3 x4 x5 x6 x7 (decide (x7=(13:Int))))
  (IW.j3 x0 x1 x2 x3 x4 x5 x6 x7 (decide (x7=(14:Int))))))):=((dv _ _ _ _ _ _ _).trans (by kernel_rfl))
theorem IW.jE (x0:Bool) (x1:Bool) (x2:Bool) (x3:Bool) (x4:Bool) (x5:Bool) (x6:Bool):IW.j2 x0 x1 x2 x3 x4 x5 x6=some [(.b x0),(.b x1),(.b x2),(.b x3),(.b x4),(.b x5),(.b x6)]:=((dv _ _ _ _ _ _ _).trans (by kernel_rfl))
theorem IW.zx (x0:Bool) (x1:Bool) (x2:Bool) (x3:Bool) (x4:Bool) (x5:Bool) (x6:Bool) (x7:Int) (x8:Bool):IW.j3 x0 x1 x2 x3 x4 x5 x6 x7 x8=cond x8
  (IW.j2 x0 x1 true x3 x4 x5 x6)
  (cond (decide (x7=(11:Int)))
  (IW.j2 x0 x1 true true x4 x5 x6)
  (cond (decide (x7=(5:Int)))
  (IW.j2 x0 x1 x2 x3 true true x6)
  (cond (decide (x7=(7:Int)))
  (IW.j2 x0 x1 x2 x3 x4 true x6)
  (cond (decide (x7=(12:Int)))
  (IW.j2 x0 x1 true x3 x4 true x6)
  (cond (decide (x7=(3:Int)))
  (IW.j4 x0 x1 x2 x3 x4 x5 x6 x7 (decide (x7=(3:Int))))
  (IW.j4 x0 x1 x2 x3 x4 x5 x6 x7 (decide (x7=(4:Int))))))))):=((dv _ _ _ _ _ _ _).trans (by kernel_rfl))
theorem IW.Cw (x0:Bool) (x1:Bool) (x2:Bool) (x3:Bool) (x4:Bool) (x5:Bool) (x6:Bool) (x7:Int) (x8:Bool):IW.j4 x0 x1 x2 x3 x4 x5 x6 x7 x8=cond x8
  (IW.j2 x0 x1 x2 x3 x4 x5 true)
  (cond (decide (x7=(15:Int)))
  (IW.j2 x0 x1 true x3 x4 x5 true)
  (IW.j2 x0 x1 x2 x3 x4 x5 x6)):=((dv _ _ _ _ _ _ _).trans (by kernel_rfl))
theorem IW.fh (k:Int):IW.F k=cond (decide (k=(1:Int)))
  (IW.j1 false false false false false false false k (decide (k=(1:Int))))
  (cond (decide (k=(9:Int)))
  (IW.j1 false false false false false false false k (decide (k=(9:Int))))
  (cond (decide (k=(17:Int)))
  (IW.j1 false false false false false false false k (decide (k=(17:Int))))
  (cond (decide (k=(18:Int)))
  (IW.j1 false false false false false false false k (decide (k=(18:Int))))
  (cond (decide (k=(16:Int)))
  (IW.j1 false false false false false false false k (decide (k=(16:Int))))
  (IW.j1 false false false false false false false k (decide (k=(8:Int)))))))):=by kernel_rfl
def Jg.E:cz:=dH fJ zs [(103,(I4.c,I4.sg)),(104,(IW.c,IW.sg)),(105,(I9.c,I9.sg)),(106,(I5.c,I5.sg))]
def Jg.h:Hint := .o
def Jg.F (v:Val):OT:=dD PG Jg.E 80 Jg.sg Jg.h [(.ag (Val.cells v))]
theorem Jg.cR (v:Val) {ρ:OT} (K:∀(v1:Bool) (h1:v1=(!(Tree.fu 0 ((Val.kind v))))) (v2:Bool) (h2:v2=(cond v1 (!decide ((Val.bits v)=(0:UInt64))) false)) (v3:Bool) (h3:v3=(!(Tree.fu 1 ((Val.kind v))))) (v4:Bool) (h4:v4=(((!v2)&&v3)&&(!(!decide ((Val.high v)=(0:UInt64)))))) (v5:Bool) (h5:v5=(cond (!decide ((Val.high v)=(0:UInt64))) true (!decide ((Val.low v)=(0:UInt64))))) (v6:Bool) (h6:v6=(cond v2 true (cond v3 v5 false))) (v7:Bool) (h7:v7=(!(Tree.fu 2 ((Val.kind v))))) (v8:Bool) (h8:v8=(cond v7 (!decide ((Val.text v)=([]:IY))) false)) (v9:Bool) (h9:v9=(!(Tree.fu 3 ((Val.kind v))))) (v10:Bool) (iU:v10=(cond v9 (!decide ((Val.more v)=([]:IY))) false)) (v11:Bool) (h11:v11=(cond (cond v6 true v8) true v10)) (v12:Bool) (vi:v12=(!(Tree.fu 4 ((Val.kind v))))) (jY:Bool) (tj:jY=(cond v12 (!decide ((Val.sub v)=(0:Int))) false)) (nR:Bool) (zM:nR=(!(Tree.fu 5 ((Val.kind v))))) (rB:Bool) (AX:rB=((!(cond v11 true jY))&&nR)) (tM:Int) (B4:tM=(((Val.bytes v)).length:Int)) (zm:Bool) (Da:zm=(cond nR (decide ((0:Int)<tM)) false)) (zl:Bool) (C9:zl=(cond (cond v11 true jY) true zm)) (Ee:Bool) (Gw:Ee=(!(Tree.fu 6 ((Val.kind v))))) (v20:Int) (Gu:v20=(((Val.kids v)).length:Int)) (v21:Bool) (Gs:v21=(cond Ee (decide ((0:Int)<v20)) false)) (Ed:Bool) (Gr:Ed=(cond (decide ((Val.kind v)=(16:Int))) (decide ((4294967296:UInt64)≤(Val.bits v))) false)) (JY:Bool) (KG:JY=((!Ed)&&(decide ((Val.kind v)=(8:Int))))) (v24:Bool) (H7:v24=(cond (decide ((Val.kind v)=(8:Int))) (decide ((1:UInt64)<(Val.bits v))) false)) (JS:Bool) (KC:JS=(cond (cond Ed true v24) true (decide ((Val.sub v)<(0:Int))))) (Jn:Bool) (KB:Jn=(cond JS true (decide ((255:Int)<(Val.sub v))))) (JX:Bool) (KF:JX=((!Jn)&&(!(decide ((Val.kind v)=(7:Int)))))) (v28:Bool) (KA:v28=(cond (decide ((Val.kind v)=(7:Int))) true (decide ((Val.kind v)=(12:Int))))) (J6:Bool) (Kw:J6=(cond v28 (!decide (tM=(12:Int))) false)) (v30:Bool) (Kv:v30=(!(dp.whole ((Val.text v))))) (v31:Bool) (Ku:v31=(!(dp.whole ((Val.more v))))) (JV:Bool) (KU:JV=((!(cond v30 true v31))&&(decide ((Val.kind v)=(11:Int))))) (Kp:Bool) (KT:Kp=(JV&&(!(dp.zero ((Val.text v)))))) (KK:Bool) (KP:KK=(cond (dp.zero ((Val.text v))) true (dp.zero ((Val.more v))))) (KJ:Bool) (KO:KJ=(cond (decide ((Val.kind v)=(11:Int))) KK false)) (KH:Bool) (KN:KH=(cond (cond v30 true v31) true KJ)),cond (decide ((Tree.name ((Val.kind v)))=([]:IY)))
  (some [(.i .i64 5)])
  (ck (!v1 || v1) (ck (!v1 || v1) (ck (!v1 || v1) (ck (!(!v2) || (!v2)) (ck (!(!v2) || (!v2)) (ck (!((!v2)&&v3) || ((!v2)&&v3)) (ck (!((!v2)&&v3) || ((!v2)&&v3)) (ck (!((!v2)&&v3) || ((!v2)&&v3)) (ck (!v4 || v4) (ck (!v4 || v4) (ck (!((!v2)&&v3) || (((!v2)&&v3)&&((!decide ((Val.high v)=(0:UInt64))) || v4))) (ck (!(!v2) || ((!v2)&&(!v3 || ((!v2)&&v3)))) (ck (v2 || (!v2)) (ck (!(!v6) || (!v6)) (ck (!(!v6) || (!v6)) (ck (!((!v6)&&v7) || ((!v6)&&v7)) (ck (!((!v6)&&v7) || ((!v6)&&v7)) (ck (!(!v6) || ((!v6)&&(!v7 || ((!v6)&&v7)))) (ck (v6 || (!v6)) (ck (!(!(cond v6 true v8)) || (!(cond v6 true v8))) (ck (!(!(cond v6 true v8)) || (!(cond v6 true v8))) (ck (!((!(cond v6 true v8))&&v9) || ((!(cond v6 true v8))&&v9)) (ck (!((!(cond v6 true v8))&&v9) || ((!(cond v6 true v8))&&v9)) (ck (!(!(cond v6 true v8)) || ((!(cond v6 true v8))&&(!v9 || ((!(cond v6 true v8))&&v9)))) (ck ((cond v6 true v8) || (!(cond v6 true v8))) (ck (!(!v11) || (!v11)) (ck (!(!v11) || (!v11)) (ck (!((!v11)&&v12) || ((!v11)&&v12)) (ck (!((!v11)&&v12) || ((!v11)&&v12)) (ck (!(!v11) || ((!v11)&&(!v12 || ((!v11)&&v12)))) (ck (v11 || (!v11)) (ck (!(!(cond v11 true jY)) || (!(cond v11 true jY))) (ck (!(!(cond v11 true jY)) || (!(cond v11 true jY))) (ck (!rB || rB) (ck (!rB || rB) (ck (!rB || rB) (ck (!(!(cond v11 true jY)) || ((!(cond v11 true jY))&&(!nR || rB))) (ck ((cond v11 true jY) || (!(cond v11 true jY))) (ck (!(!zl) || (!zl)) (ck (!(!zl) || (!zl)) (ck (!((!zl)&&Ee) || ((!zl)&&Ee)) (ck (!((!zl)&&Ee) || ((!zl)&&Ee)) (ck (!((!zl)&&Ee) || ((!zl)&&Ee)) (ck (!(!zl) || ((!zl)&&(!Ee || ((!zl)&&Ee)))) (ck (zl || (!zl)) (cond (cond zl true v21)
  (some [(.i .i64 1)])
  (ck (!(decide ((Val.kind v)=(16:Int))) || (decide ((Val.kind v)=(16:Int)))) (ck (!(decide ((Val.kind v)=(16:Int))) || (decide ((Val.kind v)=(16:Int)))) (ck (!(decide ((Val.kind v)=(16:Int))) || (decide ((Val.kind v)=(16:Int)))) (ck (!(!Ed) || (!Ed)) (ck (!(!Ed) || (!Ed)) (ck (!(!Ed) || (!Ed)) (ck (!JY || JY) (ck (!JY || JY) (ck (!(!Ed) || ((!Ed)&&(!(decide ((Val.kind v)=(8:Int))) || JY))) (ck (Ed || (!Ed)) (ck (!(!(cond Ed true v24)) || (!(cond Ed true v24))) (ck (!(!(cond Ed true v24)) || (!(cond Ed true v24))) (ck ((cond Ed true v24) || (!(cond Ed true v24))) (ck (!(!JS) || (!JS)) (ck (!(!JS) || (!JS)) (ck (JS || (!JS)) (ck (!(!Jn) || (!Jn)) (ck (!(!Jn) || (!Jn)) (ck (!(!Jn) || (!Jn)) (ck (!JX || JX) (ck (!JX || JX) (ck (!(!Jn) || ((!Jn)&&((decide ((Val.kind v)=(7:Int))) || JX))) (ck (!(!Jn) || (!Jn)) (ck (!((!Jn)&&v28) || ((!Jn)&&v28)) (ck (!((!Jn)&&v28) || ((!Jn)&&v28)) (ck (!((!Jn)&&v28) || ((!Jn)&&v28)) (ck (!(!Jn) || ((!Jn)&&(!v28 || ((!Jn)&&v28)))) (ck (Jn || (!Jn)) (cond (cond Jn true J6)
  (some [(.i .i64 1)])
  (ck (decide (((Val.text v)).length≤1099511627776)) (ck (!(!v30) || (!v30)) (ck (!(!v30) || ((!v30)&&(decide (((Val.more v)).length≤1099511627776)))) (ck (!(!v30) || (!v30)) (ck (v30 || (!v30)) (ck (!(!(cond v30 true v31)) || (!(cond v30 true v31))) (ck (!(!(cond v30 true v31)) || (!(cond v30 true v31))) (ck (!(!(cond v30 true v31)) || (!(cond v30 true v31))) (ck (!JV || JV) (ck (!JV || (JV&&(decide (((Val.text v)).length≤1099511627776)))) (ck (!JV || JV) (ck (!Kp || Kp) (ck (!Kp || (Kp&&(decide (((Val.more v)).length≤1099511627776)))) (ck (!JV || (JV&&((dp.zero ((Val.text v))) || Kp))) (ck (!(!(cond v30 true v31)) || ((!(cond v30 true v31))&&(!(decide ((Val.kind v)=(11:Int))) || JV))) (ck ((cond v30 true v31) || (!(cond v30 true v31))) (cond KH
  (some [(.i .i64 4)])
  (some [(.i .i64 0)])))))))))))))))))))))))))))))))))))))))))))))))))))))))))))))))))))))))))))))))))))))))))))))=ρ):Jg.F v=ρ:=Eq.trans (by kernel_rfl) (K _ rfl _ rfl _ rfl _ rfl _ rfl _ rfl _ rfl _ rfl _ rfl _ rfl _ rfl _ rfl _ rfl _ rfl _ rfl _ rfl _ rfl _ rfl _ rfl _ rfl _ rfl _ rfl _ rfl _ rfl _ rfl _ rfl _ rfl _ rfl _ rfl _ rfl _ rfl _ rfl _ rfl _ rfl _ rfl _ rfl)
def Ja.E:cz:=dH fJ zs [(105,(I9.c,I9.sg)),(106,(I5.c,I5.sg))]
def Ja.h:Hint := .o
def Ja.F (s:IY):OT:=dD PG Ja.E 81 Ja.sg Ja.h [(.s s)]
theorem Ja.cR (s:IY) {ρ:OT} (K:∀(v1:Bool) (h1:v1=(cond (dp.whole s) (!(dp.zero s)) false)),ck (decide (s.length≤1099511627776)) (ck (!(dp.whole s) || ((dp.whole s)&&(decide (s.length≤1099511627776)))) (ck (!(dp.whole s) || (dp.whole s)) (ck (!(dp.whole s) || (dp.whole s)) (some [(.b v1)]))))=ρ):Ja.F s=ρ:=Eq.trans (by kernel_rfl) (K _ rfl)
def I7.E:cz:=dH fJ zs []
def I7.h:Hint := .o
def I7.F (p:List Int) (k:Int):OT:=dD PG I7.E 82 I7.sg I7.h [(.sl .is p),(.i .i64 k)]
theorem I7.cR (p:List Int) (k:Int) {ρ:OT} (K:∀(v1:List Int) (h1:v1=((([]:List Int)++p)++([k]:List Int))),ck (eO ((([]:List Int)).length+(p).length) 8) (ck (eO (((([]:List Int)++p)).length+(([k]:List Int)).length) 8) (some [(.sl .is v1)]))=ρ):I7.F p k=ρ:=Eq.trans (by kernel_rfl) (K _ rfl)
def IX.E (n:Nat):cz:=dH fJ zs [(59,(IX.cn n,IX.sg)),(80,(Jg.c,Jg.sg)),(81,(Ja.c,Ja.sg)),(82,(I7.c,I7.sg))]
def IX.h:Hint := .s .o (.s .o (.j [(2,.no),(3,.ptr 58 0),(8,.no),(58,.cl [])] .o (.s .o (.s (.s .o (.b (.l [(2,.no),(3,.ptr 58 0),(9,.no),(58,.cl [])] .o))) .o))))
def IX.F (n:Nat) (v:Val) (name:IY) (p:List Int):OT:=dD PG (IX.E n) 59 IX.sg IX.h [(.ag (Val.cells v)),(.s name),(.sl .is p)]
def IX.j1 (n:Nat) (x0:List Int) (x1:Int) (x2:Val):OT:=fp PG (IX.E n) 59 IX.sg IX.h 7 [(.sl .is x0),.pt,(.i .i64 x1),(.ag (Val.cells x2))]
def IX.l2 (n:Nat) (x0:List Int) (x1:Int) (x2:Val):OT:=j9 PG (IX.E n) 59 IX.sg IX.h 175 [(.sl .is x0),.pt,(.i .i64 x1),(.ag (Val.cells x2))]
theorem IX.qz (n:Nat) (x0:List Int) (x1:Int) (x2:Val):IX.j1 n x0 x1 x2=cond (!decide (x1=(0:Int)))
  (some [(.sl .is x0),(.i .i64 x1)])
  (IX.l2 n x0 (0:Int) x2):=((dv _ _ _ _ _ _ _).trans (by kernel_rfl))
theorem IX.Jv (n:Nat) (x0:List Int) (x1:Int) (x2:Val) {ρ:OT} (K:∀(v1:Int) (h1:v1=(((Val.kids x2)).length:Int)) (v2:bx) (h2:v2=(List.getD (Val.kids x2) (x1).toNat (ez.iH .fl))) (v3:List Int) (h3:v3=((Tree.hU (bx.of ((bx.name v2)) (bx.val v2)) (((x0++[x1])))).1)) (v4:Int) (h4:v4=((Tree.hU (bx.of ((bx.name v2)) (bx.val v2)) (((x0++[x1])))).2)) (v5:Int) (h5:v5=(IntKind.i64.wrap (x1+(1:Int)))),cond (decide (x1<v1))
  (ck (dj x1 ((Val.kids x2)).length) (ck (dj x1 ((Val.kids x2)).length) (ck (decide (x0.length≤1099511627776)) (ck ((decide (bx.dk (bx.of ((bx.name v2)) (bx.val v2))+(((x0++[x1]))).length≤1099511627776))&&decide ((bx.dk (bx.of ((bx.name v2)) (bx.val v2)))<n)) (cond (!decide (v4=(0:Int)))
  (some [(.sl .is v3),(.i .i64 v4)])
  (IX.l2 n x0 v5 x2))))))
  (some [(.sl .is ([]:List Int)),(.i .i64 0)])=ρ):IX.l2 n x0 x1 x2=ρ:=((gn _ _ _ _ _ _ _).trans (by kernel_rfl)).trans (K _ rfl _ rfl _ rfl _ rfl _ rfl)
theorem IX.cR (n:Nat) (v:Val) (name:IY) (p:List Int) {ρ:OT} (K:∀(v1:Bool) (h1:v1=(cond (decide ((Tree.own v)=(0:Int))) (!(Tree.dr name true)) false)),ck (decide (bx.dk (bx.of [] v)≤1099511627776)) (ck (!(decide ((Tree.own v)=(0:Int))) || ((decide ((Tree.own v)=(0:Int)))&&(decide (name.length≤1099511627776)))) (ck (!(decide ((Tree.own v)=(0:Int))) || (decide ((Tree.own v)=(0:Int)))) (ck (!(decide ((Tree.own v)=(0:Int))) || (decide ((Tree.own v)=(0:Int)))) (cond v1
  (IX.j1 n p (4:Int) v)
  (IX.j1 n p (Tree.own v) v)))))=ρ):IX.F n v name p=ρ:=Eq.trans (by kernel_rfl) (K _ rfl)
def Jb.E:cz:=dH fJ zs [(59,(IX.c,IX.sg))]
def Jb.h:Hint := .o
def Jb.F (v:Val):OT:=dD PG Jb.E 37 Jb.sg Jb.h [(.ag (Val.cells v))]
theorem Jb.cR (v:Val) {ρ:OT} (K:∀(v1:List Int) (h1:v1=((Tree.hU (bx.of (([]:IY)) v) (([]:List Int))).1)) (v2:Int) (h2:v2=((Tree.hU (bx.of (([]:IY)) v) (([]:List Int))).2)),ck (decide (bx.dk (bx.of (([]:IY)) v)+(([]:List Int)).length≤1099511627776)) (some [(.sl .is v1),(.i .i64 v2)])=ρ):Jb.F v=ρ:=Eq.trans (by kernel_rfl) (K _ rfl _ rfl)
def Jd.E:cz:=dH fJ zs []
def Jd.h:Hint := .o
def Jd.F (k:Int):OT:=dD PG Jd.E 36 Jd.sg Jd.h [(.i .i64 k)]
theorem Jd.cR (k:Int) {ρ:OT} (K:∀(v1:Bool) (h1:v1=(cond (decide (k=(3:Int))) true (decide (k=(4:Int))))) (v2:Bool) (h2:v2=(cond v1 true (decide (k=(15:Int))))),ck (!(!(decide (k=(3:Int)))) || (!(decide (k=(3:Int))))) (ck ((decide (k=(3:Int))) || (!(decide (k=(3:Int))))) (ck (!(!v1) || (!v1)) (ck (v1 || (!v1)) (some [(.b v2)]))))=ρ):Jd.F k=ρ:=Eq.trans (by kernel_rfl) (K _ rfl _ rfl)
end
end Go.Eng
set_option maxRecDepth 100000
namespace Go.Eng
open Go.Proofs
noncomputable section
def I0.E (n:Nat):cz:=dH fJ zs [(18,(I0.cn n,I0.sg)),(36,(Jd.c,Jd.sg))]
def I0.h:Hint := .s .o (.s .o (.s .o (.s (.s .o (.b (.l [(1,.ptr 28 0),(3,.no),(4,.no),(28,.cl [])] .o))) .o)))
def I0.F (n:Nat) (v:Val):OT:=dD PG (I0.E n) 18 I0.sg I0.h [(.ag (Val.cells v))]
def I0.l1 (n:Nat) (x0:Int) (x1:Int) (x2:Val):OT:=j9 PG (I0.E n) 18 I0.sg I0.h 87 [.pt,(.i .i64 x0),(.i .i64 x1),(.ag (Val.cells x2))]
theorem I0.fo (n:Nat) (x0:Int) (x1:Int) (x2:Val) {ρ:OT} (K:∀(v1:Int) (h1:v1=(((Val.kids x2)).length:Int)) (v2:bx) (h2:v2=(List.getD (Val.kids x2) (x1).toNat (ez.iH .fl))) (v3:Int) (h3:v3=((Tree.depth (bx.of [] (bx.val v2)):Int))) (v4:Int) (h4:v4=(IntKind.i64.wrap (x1+(1:Int)))) (v5:Int) (h5:v5=(IntKind.i64.wrap (x0+(1:Int)))),cond (decide (x1<v1))
  (ck (dj x1 ((Val.kids x2)).length) (ck ((decide (bx.dk (bx.of [] (bx.val v2))≤1099511627776))&&decide ((bx.dk (bx.of [] (bx.val v2)))<n)) (I0.l1 n (yq x0 v3) v4 x2)))
  (some [(.i .i64 v5)])=ρ):I0.l1 n x0 x1 x2=ρ:=((gn _ _ _ _ _ _ _).trans (by kernel_rfl)).trans (K _ rfl _ rfl _ rfl _ rfl _ rfl)
theorem I0.fh (n:Nat) (v:Val):I0.F n v=cond (!(decide (((Val.kind v))=3∨((Val.kind v))=4∨((Val.kind v))=15)))
  (some [(.i .i64 0)])
  (I0.l1 n (0:Int) (0:Int) v):=by kernel_rfl
def I9.E:cz:=dH fJ zs [(135,(I3.c,I3.sg))]
def I9.h:Hint := .o
def I9.F (s:IY):OT:=dD PG I9.E 105 I9.sg I9.h [(.s s)]
theorem I9.fh (s:IY):I9.F s=ck (lM (s).length) (ck (decide (s.length≤1099511627776)) (some [(.b (dp.whole s))])):=by kernel_rfl
def I5.E:cz:=dH fJ zs []
def I5.h:Hint := .s .o (.s (.s .o (.b (.l (sc [0,3]) .o))) .o)
def I5.F (s:IY):OT:=dD PG I5.E 106 I5.sg I5.h [(.s s)]
def I5.l1 (x0:IY) (x1:Int):OT:=j9 PG I5.E 106 I5.sg I5.h 21 [(.s x0),(.i .i64 x1)]
theorem I5.fo (x0:IY) (x1:Int) {ρ:OT} (K:∀(v1:UInt8) (h1:v1=(List.getD x0 (x1).toNat (0:UInt8))) (v2:Int) (h2:v2=(IntKind.i64.wrap (x1+(1:Int)))),cond (decide (x1<((x0).length:Int)))
  (ck (dj x1 (x0).length) (cond (decide (v1=(0:UInt8)))
  (some [(.b true)])
  (I5.l1 x0 v2)))
  (some [(.b false)])=ρ):I5.l1 x0 x1=ρ:=((gn _ _ _ _ _ _ _).trans (by kernel_rfl)).trans (K _ rfl _ rfl)
theorem I5.fh (s:IY):I5.F s=I5.l1 s (0:Int):=by kernel_rfl
def I1.E:cz:=dH fJ zs []
def I1.h:Hint := .s .o (.s .o (.s .o (.s .o (.j (sc [0,1,7,8,9]) .o (.s .o (.s (.s .o (.b (.l (sc [0,1,7,8,9,10]) .o))) .o))))))
def I1.F (b:List UInt8) (at_:Int):OT:=dD PG I1.E 181 I1.sg I1.h [(.sl .bs b),(.i .i64 at_)]
def I1.j1 (x0:List UInt8) (x1:Int) (x2:Int) (x3:Int) (x4:Int):OT:=fp PG I1.E 181 I1.sg I1.h 31 [(.sl .bs x0),(.i .i64 x1),(.i .i64 x2),(.i .i64 x3),(.i .i64 x4)]
def I1.l2 (x0:List UInt8) (x1:Int) (x2:Int) (x3:Int) (x4:Int) (x5:Int):OT:=j9 PG I1.E 181 I1.sg I1.h 703 [(.sl .bs x0),(.i .i64 x1),(.i .i64 x2),(.i .i64 x3),(.i .i64 x4),(.i .i64 x5)]
theorem I1.qy (x0:List UInt8) (x1:Int) (x2:Int) (x3:Int) (x4:Int) {ρ:OT} (K:∀(v1:Int) (h1:v1=(IntKind.i64.wrap (((x0).length:Int) - x1))),cond (decide (v1<x2))
  (some [(.i .i64 0),(.i .i64 0)])
  (I1.l2 x0 x1 x2 x3 x4 (1:Int))=ρ):I1.j1 x0 x1 x2 x3 x4=ρ:=((dv _ _ _ _ _ _ _).trans (by kernel_rfl)).trans (K _ rfl)
theorem I1.Jv (x0:List UInt8) (x1:Int) (x2:Int) (x3:Int) (x4:Int) (x5:Int) {ρ:OT} (K:∀(v1:UInt8) (h1:v1=(List.getD x0 ((IntKind.i64.wrap (x1+x5))).toNat (0:UInt8))) (v2:Int) (h2:v2=(IntKind.i64.wrap ((v1).toNat:Int))) (v3:Bool) (h3:v3=(cond (decide (v2<(128:Int))) true (decide ((192:Int)≤v2)))) (v4:Int) (h4:v4=(IntKind.i64.wrap (x3 * (64:Int)))) (v5:Int) (h5:v5=(IntKind.i64.wrap ((IntKind.i64.wrap (v4+v2)) - (128:Int)))) (v6:Int) (h6:v6=(IntKind.i64.wrap (x5+(1:Int)))) (v7:Bool) (h7:v7=(cond (decide (x3<x4)) true (decide ((1114111:Int)<x3)))) (v8:Bool) (h8:v8=((!v7)&&(decide ((55296:Int)≤x3)))) (v9:Bool) (h9:v9=(cond (decide ((55296:Int)≤x3)) (decide (x3≤(57343:Int))) false)),cond (decide (x5<x2))
  (ck (dj (IntKind.i64.wrap (x1+x5)) (x0).length) (ck (!(!(decide (v2<(128:Int)))) || (!(decide (v2<(128:Int))))) (ck ((decide (v2<(128:Int))) || (!(decide (v2<(128:Int))))) (cond v3
  (some [(.i .i64 0),(.i .i64 0)])
  (I1.l2 x0 x1 x2 v5 x4 v6)))))
  (ck (!(!(decide (x3<x4))) || (!(decide (x3<x4)))) (ck ((decide (x3<x4)) || (!(decide (x3<x4)))) (ck (!(!v7) || (!v7)) (ck (!(!v7) || (!v7)) (ck (!v8 || v8) (ck (!(!v7) || ((!v7)&&(!(decide ((55296:Int)≤x3)) || v8))) (ck (v7 || (!v7)) (cond (cond v7 true v9)
  (some [(.i .i64 0),(.i .i64 0)])
  (some [(.i .i64 x3),(.i .i64 x2)])))))))))=ρ):I1.l2 x0 x1 x2 x3 x4 x5=ρ:=((gn _ _ _ _ _ _ _).trans (by kernel_rfl)).trans (K _ rfl _ rfl _ rfl _ rfl _ rfl _ rfl _ rfl _ rfl _ rfl)
theorem I1.cR (b:List UInt8) (at_:Int) {ρ:OT} (K:∀(v1:Bool) (h1:v1=(cond (decide (at_<(0:Int))) true (decide (((b).length:Int)≤at_)))) (v2:UInt8) (h2:v2=(List.getD b (at_).toNat (0:UInt8))) (v3:Int) (h3:v3=(IntKind.i64.wrap ((v2).toNat:Int))) (v4:Bool) (h4:v4=(cond (decide ((192:Int)≤v3)) (decide (v3<(224:Int))) false)) (v5:Int) (h5:v5=(IntKind.i64.wrap (v3 - (192:Int)))) (v6:Bool) (h6:v6=(cond (decide ((224:Int)≤v3)) (decide (v3<(240:Int))) false)) (v7:Int) (h7:v7=(IntKind.i64.wrap (v3 - (224:Int)))) (v8:Bool) (h8:v8=(cond (decide ((240:Int)≤v3)) (decide (v3<(248:Int))) false)) (v9:Int) (h9:v9=(IntKind.i64.wrap (v3 - (240:Int)))),ck (!(!(decide (at_<(0:Int)))) || (!(decide (at_<(0:Int))))) (ck (!(!(decide (at_<(0:Int)))) || ((!(decide (at_<(0:Int))))&&(!(decide (at_<(0:Int)))))) (ck ((decide (at_<(0:Int))) || (!(decide (at_<(0:Int))))) (cond v1
  (some [(.i .i64 0),(.i .i64 0)])
  (ck (dj at_ (b).length) (cond (decide (v3<(128:Int)))
  (some [(.i .i64 v3),(.i .i64 1)])
  (ck (!(decide ((192:Int)≤v3)) || (decide ((192:Int)≤v3))) (ck (!(decide ((192:Int)≤v3)) || (decide ((192:Int)≤v3))) (cond v4
  (I1.j1 b at_ (2:Int) v5 (128:Int))
  (ck (!(decide ((224:Int)≤v3)) || (decide ((224:Int)≤v3))) (ck (!(decide ((224:Int)≤v3)) || (decide ((224:Int)≤v3))) (cond v6
  (I1.j1 b at_ (3:Int) v7 (2048:Int))
  (ck (!(decide ((240:Int)≤v3)) || (decide ((240:Int)≤v3))) (ck (!(decide ((240:Int)≤v3)) || (decide ((240:Int)≤v3))) (cond v8
  (I1.j1 b at_ (4:Int) v9 (65536:Int))
  (some [(.i .i64 0),(.i .i64 0)])))))))))))))))=ρ):I1.F b at_=ρ:=Eq.trans (by kernel_rfl) (K _ rfl _ rfl _ rfl _ rfl _ rfl _ rfl _ rfl _ rfl _ rfl)
def I3.E:cz:=dH fJ zs [(181,(I1.c,I1.sg))]
def I3.h:Hint := .s .o (.s (.s .o (.b (.l (sc [0,4]) .o))) .o)
def I3.F (b:List UInt8):OT:=dD PG I3.E 135 I3.sg I3.h [(.sl .bs b)]
def I3.l1 (x0:List UInt8) (x1:Int):OT:=j9 PG I3.E 135 I3.sg I3.h 21 [(.sl .bs x0),(.i .i64 x1)]
theorem I3.fo (x0:List UInt8) (x1:Int) {ρ:OT} (K:∀(v1:Int) (h1:v1=(IntKind.i64.wrap (x1+((dp.iY x0 x1).2)))),cond (decide (x1<((x0).length:Int)))
  (ck (decide (x0.length≤1099511627776)) (cond (decide (((dp.iY x0 x1).2)=(0:Int)))
  (some [(.i .i64 x1),(.b false)])
  (I3.l1 x0 v1)))
  (some [(.i .i64 ((x0).length:Int)),(.b true)])=ρ):I3.l1 x0 x1=ρ:=((gn _ _ _ _ _ _ _).trans (by kernel_rfl)).trans (K _ rfl)
theorem I3.fh (b:List UInt8):I3.F b=I3.l1 b (0:Int):=by kernel_rfl
def cI.E:cz:=dH fJ zs []
def cI.h:Hint := .o
def cI.F (n:Int):OT:=dD PG cI.E 76 cI.sg cI.h [(.i .i64 n)]
theorem cI.cR (n:Int) {ρ:OT} (K:∀(v1:Bool) (h1:v1=(cond (decide ((1:Int)≤n)) (decide (n≤(8:Int))) false)),ck (!(decide ((1:Int)≤n)) || (decide ((1:Int)≤n))) (ck (!(decide ((1:Int)≤n)) || (decide ((1:Int)≤n))) (some [(.b v1)]))=ρ):cI.F n=ρ:=Eq.trans (by kernel_rfl) (K _ rfl)
def bQ.E:cz:=dH fJ zs []
def bQ.h:Hint := .o
def bQ.F (a:List UInt8):OT:=dD PG bQ.E 35 bQ.sg bQ.h [(.sl .bs a)]
theorem bQ.fh (a:List UInt8):bQ.F a=cond (List.isEmpty a)
  (both (some [(.sl .bs ([]:List UInt8))]) (ck (eO ((([]:List UInt8)).length+(a).length) 1) (some [(.sl .bs (([]:List UInt8)++a))])))
  (ck (eO ((([]:List UInt8)).length+(a).length) 1) (some [(.sl .bs (([]:List UInt8)++a))])):=by kernel_rfl
def eH.E:cz:=dH fJ zs [(35,(bQ.c,bQ.sg))]
def eH.h:Hint := .o
def eH.F (b:List UInt8):OT:=dD PG eH.E 66 eH.sg eH.h [(.sl .bs b)]
theorem eH.fh (b:List UInt8):eH.F b=ck (eO (b).length 1) (some [(.ag [(.sl .bs (b)),(.i .i64 0)])]):=by kernel_rfl
def dJ.E:cz:=dH fJ zs []
def dJ.h:Hint := .o
def dJ.F (r:bA):OT:=dD PG dJ.E 101 dJ.sg dJ.h [(.ag (bA.cells r))]
theorem dJ.cR (r:bA) {ρ:OT} (K:∀(v1:Int) (h1:v1=(IntKind.i64.wrap ((((bA.b r)).length:Int) - (bA.at_ r)))),some [(.i .i64 v1),(.ag (bA.cells r))]=ρ):dJ.F r=ρ:=Eq.trans (by kernel_rfl) (K _ rfl)
def er.E:cz:=dH fJ zs [(101,(dJ.c,dJ.sg))] [97]
def er.h:Hint := .o
def er.F (r:bA) (n:Int):OT:=dD PG er.E 98 er.sg er.h [(.ag (bA.cells r)),(.i .i64 n)]
theorem er.cR (r:bA) (n:Int) {ρ:OT} (K:∀(v1:Bool) (h1:v1=(cond (decide (n<(1:Int))) true (decide ((8:Int)<n)))) (v2:Int) (h2:v2=((((r).b).length:Int) - (r).at_)) (v3:Bool) (h3:v3=(cond v1 true (decide (v2<n)))) (v4:Int) (h4:v4=(IntKind.i64.wrap ((bA.at_ (r))+n))) (v5:List UInt8) (h5:v5=(List.drop ((IntKind.i64.wrap (v4 - n))).toNat (List.take (v4).toNat (bA.b (r))))),ck (!(!(decide (n<(1:Int)))) || (!(decide (n<(1:Int))))) (ck ((decide (n<(1:Int))) || (!(decide (n<(1:Int))))) (ck ((!v1)&&((!v1)&&(decide (0≤(r).at_∧(r).at_≤((r).b).length∧((r).b).length≤1099511627776)))) (ck (!(!v1) || (!v1)) (ck (v1 || (!v1)) (cond v3
  (some [(.sl .bs ([]:List UInt8)),(.b false),(.ag (bA.cells (r)))])
  (ck (dV (IntKind.i64.wrap (v4 - n)) v4 ((bA.b (r))).length) (some [(.sl .bs v5),(.b true),(.ag [(.sl .bs (bA.b (r))),(.i .i64 v4)])])))))))=ρ):er.F r n=ρ:=Eq.trans (by kernel_rfl) (K _ rfl _ rfl _ rfl _ rfl _ rfl)
def cT.E:cz:=dH fJ zs [(98,(er.c,er.sg))]
def cT.h:Hint := .s .o (.s .o (.s .o (.s (.s .o (.b (.l [(7,.no),(8,.no),(17,.no),(18,.no),(19,.no),(1000000,.cl [])] .o))) .o)))
def cT.F (r:bA) (n:Int):OT:=dD PG cT.E 67 cT.sg cT.h [(.ag (bA.cells r)),(.i .i64 n)]
def cT.l1 (x0:Bool) (x1:UInt64) (x2:List UInt8) (x3:Int) (x4:Int) (x5:List UInt8) (x6:Int):OT:=j9 PG cT.E 67 cT.sg cT.h 87 [(.b x0),(.u64 x1),(.sl .bs x2),(.i .i64 x3),(.i .i64 x4),(.ag [(.sl .bs x5),(.i .i64 x6)])]
theorem cT.fo (x0:Bool) (x1:UInt64) (x2:List UInt8) (x3:Int) (x4:Int) (x5:List UInt8) (x6:Int) {ρ:OT} (K:∀(v1:UInt8) (h1:v1=(List.getD x2 (x4).toNat (0:UInt8))) (v2:UInt64) (h2:v2=(UInt64.ofInt ((v1).toNat:Int))) (v3:Int) (h3:v3=(IntKind.i64.wrap ((8:Int) * x4))) (v4:UInt64) (h4:v4=(x1 ||| (nW v2 ((v3).toNat)))) (v5:Int) (h5:v5=(IntKind.i64.wrap (x4+(1:Int)))),cond (decide (x4<x3))
  (ck (dj x4 (x2).length) (ck (decide (0≤v3)) (cT.l1 x0 v4 x2 x3 v5 x5 x6)))
  (some [(.u64 x1),(.b x0),(.ag [(.sl .bs x5),(.i .i64 x6)])])=ρ):cT.l1 x0 x1 x2 x3 x4 x5 x6=ρ:=((gn _ _ _ _ _ _ _).trans (by kernel_rfl)).trans (K _ rfl _ rfl _ rfl _ rfl _ rfl)
theorem cT.cR (r:bA) (n:Int) {ρ:OT} (K:∀(v1:Int) (h1:v1=((((Bs.fH r n))).length:Int)),ck (decide (1≤n∧n≤8∧0≤(r).at_∧(r).at_≤((r).b).length∧((r).b).length≤1099511627776)) (cT.l1 ((Bs.can r n)) (0:UInt64) ((Bs.fH r n)) v1 (0:Int) (bA.b ((Bs.jA r n))) (bA.at_ ((Bs.jA r n))))=ρ):cT.F r n=ρ:=Eq.trans (by kernel_rfl) (K _ rfl)
def et.E:cz:=dH fJ zs [(35,(bQ.c,bQ.sg)),(101,(dJ.c,dJ.sg))] [87]
def et.h:Hint := .o
def et.F (r:bA) (n:Int):OT:=dD PG et.E 71 et.sg et.h [(.ag (bA.cells r)),(.i .i64 n)]
theorem et.cR (r:bA) (n:Int) {ρ:OT} (K:∀(v1:Int) (h1:v1=((((r).b).length:Int) - (r).at_)) (v2:Bool) (h2:v2=(cond (decide (n<(0:Int))) true (decide (v1<n)))) (v3:Int) (h3:v3=(IntKind.i64.wrap ((bA.at_ (r))+n))) (v4:List UInt8) (h4:v4=(List.drop ((IntKind.i64.wrap (v3 - n))).toNat (List.take (v3).toNat (bA.b (r))))),ck ((!(decide (n<(0:Int))))&&((!(decide (n<(0:Int))))&&(decide (0≤(r).at_∧(r).at_≤((r).b).length∧((r).b).length≤1099511627776)))) (ck (!(!(decide (n<(0:Int)))) || (!(decide (n<(0:Int))))) (ck ((decide (n<(0:Int))) || (!(decide (n<(0:Int))))) (cond v2
  (some [(.sl .bs ([]:List UInt8)),(.b false),(.ag (bA.cells (r)))])
  (ck (dV (IntKind.i64.wrap (v3 - n)) v3 ((bA.b (r))).length) (ck (eO (v4).length 1) (some [(.sl .bs (v4)),(.b true),(.ag [(.sl .bs (bA.b (r))),(.i .i64 v3)])]))))))=ρ):et.F r n=ρ:=Eq.trans (by kernel_rfl) (K _ rfl _ rfl _ rfl _ rfl)
def eW.E:cz:=dH fJ zs []
def eW.h:Hint := .o
def eW.F  : OT:=dD PG eW.E 27 eW.sg eW.h []
theorem eW.fh  : eW.F  = some [(.ag [.pt]),(.sl .bs ([]:List UInt8))]:=by kernel_rfl
def dt.E:cz:=dH fJ zs []
def dt.h:Hint := .o
def dt.F (v:Int) (b:List UInt8):OT:=dD PG dt.E 52 dt.sg dt.h [(.ag [.pt]),(.i .i64 v),(.sl .bs b)]
theorem dt.cR (v:Int) (b:List UInt8) {ρ:OT} (K:∀(v1:List UInt8) (h1:v1=([(UInt8.ofInt v)]:List UInt8)),ck (eO ((b).length+(v1).length) 1) (some [(.ag [.pt]),(.sl .bs (b++v1))])=ρ):dt.F v b=ρ:=Eq.trans (by kernel_rfl) (K _ rfl)
def eF.E:cz:=dH fJ zs []
def eF.h:Hint := .o
def eF.F (x:List UInt8) (b:List UInt8):OT:=dD PG eF.E 77 eF.sg eF.h [(.ag [.pt]),(.sl .bs x),(.sl .bs b)]
theorem eF.fh (x:List UInt8) (b:List UInt8):eF.F x b=ck (eO ((b).length+(x).length) 1) (some [(.ag [.pt]),(.sl .bs (b++x))]):=by kernel_rfl
def cK.E:cz:=dH fJ zs [(76,(cI.c,cI.sg))]
def cK.h:Hint := .s .o (.b (.l [(0,.ptr 1000000 0),(1,.no),(2,.no),(6,.no),(1000000,.cl [(0,800000)]),(800000,.pv)] .o))
def cK.F (v:UInt64) (n:Int) (b:List UInt8):OT:=dD PG cK.E 51 cK.sg cK.h [(.ag [.pt]),(.u64 v),(.i .i64 n),(.sl .bs b)]
def cK.l1 (x0:UInt64) (x1:Int) (x2:Int) (x3:List UInt8):OT:=j9 PG cK.E 51 cK.sg cK.h 5 [.pt,(.u64 x0),(.i .i64 x1),(.i .i64 x2),(.ag [.pt]),(.sl .bs x3)]
theorem cK.fo (x0:UInt64) (x1:Int) (x2:Int) (x3:List UInt8) {ρ:OT} (K:∀(v1:Bool) (h1:v1=(cond (decide (1≤x1∧x1≤8)) (decide (x2<x1)) false)) (v2:Int) (h2:v2=(IntKind.i64.wrap ((8:Int) * x2))) (v3:UInt8) (h3:v3=(UInt8.ofInt (((lK x0 ((v2).toNat))).toNat:Int))) (v4:Int) (h4:v4=(IntKind.i64.wrap (x2+(1:Int)))),ck (!(decide (1≤x1∧x1≤8)) || ((decide (1≤x1∧x1≤8))&&(decide (1≤x1∧x1≤8)))) (ck (!(decide (1≤x1∧x1≤8)) || (decide (1≤x1∧x1≤8))) (cond v1
  (ck (decide (0≤v2)) (ck (eO ((x3).length+(([v3]:List UInt8)).length) 1) (cK.l1 x0 x1 v4 (x3++([v3]:List UInt8)))))
  (some [(.ag [.pt]),(.sl .bs x3)])))=ρ):cK.l1 x0 x1 x2 x3=ρ:=((gn _ _ _ _ _ _ _).trans (by kernel_rfl)).trans (K _ rfl _ rfl _ rfl _ rfl)
theorem cK.fh (v:UInt64) (n:Int) (b:List UInt8):cK.F v n b=cK.l1 v n (0:Int) b:=by kernel_rfl
def cQ.E:cz:=dH fJ zs [(76,(cI.c,cI.sg))]
def cQ.h:Hint := .s .o (.s .o (.s (.s .o (.b (.l [(0,.ptr 1000000 0),(1,.no),(2,.no),(28,.no),(29,.no),(1000000,.cl [(0,800000)]),(800000,.pv)] .o))) .o))
def cQ.F (at_:Int) (v:UInt64) (n:Int) (b:List UInt8):OT:=dD PG cQ.E 55 cQ.sg cQ.h [(.ag [.pt]),(.i .i64 at_),(.u64 v),(.i .i64 n),(.sl .bs b)]
def cQ.l1 (x0:Int) (x1:UInt64) (x2:Int) (x3:Int) (x4:List UInt8):OT:=j9 PG cQ.E 55 cQ.sg cQ.h 43 [.pt,(.i .i64 x0),(.u64 x1),(.i .i64 x2),(.i .i64 x3),(.ag [.pt]),(.sl .bs x4)]
theorem cQ.fo (x0:Int) (x1:UInt64) (x2:Int) (x3:Int) (x4:List UInt8) {ρ:OT} (K:∀(v1:Int) (h1:v1=(IntKind.i64.wrap ((8:Int) * x3))) (v2:UInt8) (h2:v2=(UInt8.ofInt (((lK x1 ((v1).toNat))).toNat:Int))) (v3:Nat) (h3:v3=(((IntKind.i64.wrap (x0+x3))).toNat)) (v4:Int) (h4:v4=(IntKind.i64.wrap (x3+(1:Int)))),cond (decide (x3<x2))
  (ck (decide (0≤v1)) (ck (dj (IntKind.i64.wrap (x0+x3)) (x4).length) (ck (decide (v3<(x4).length)) (cQ.l1 x0 x1 x2 v4 (List.set x4 (v3) v2)))))
  (some [(.b true),(.ag [.pt]),(.sl .bs x4)])=ρ):cQ.l1 x0 x1 x2 x3 x4=ρ:=((gn _ _ _ _ _ _ _).trans (by kernel_rfl)).trans (K _ rfl _ rfl _ rfl _ rfl)
theorem cQ.cR (at_:Int) (v:UInt64) (n:Int) (b:List UInt8) {ρ:OT} (K:∀(v1:Bool) (h1:v1=(!(!(decide (1≤n∧n≤8))))) (v2:Bool) (h2:v2=(cond (!(decide (1≤n∧n≤8))) true (decide (at_<(0:Int))))) (v3:Int) (h3:v3=(IntKind.i64.wrap (((b).length:Int) - n))) (v4:Bool) (h4:v4=(cond v2 true (decide (v3<at_)))),ck (!v1 || v1) (ck ((!(decide (1≤n∧n≤8))) || v1) (ck (!(!v2) || (!v2)) (ck (!(!v2) || (!v2)) (ck (!(!v2) || (!v2)) (ck (!(!v2) || (!v2)) (ck (!(!v2) || ((!v2)&&(!v2))) (ck (!(!v2) || ((!v2)&&(!v2))) (ck (v2 || (!v2)) (cond v4
  (some [(.b false),(.ag [.pt]),(.sl .bs b)])
  (cQ.l1 at_ v n (0:Int) b))))))))))=ρ):cQ.F at_ v n b=ρ:=Eq.trans (by kernel_rfl) (K _ rfl _ rfl _ rfl _ rfl)
def eG.E:cz:=dH fJ zs []
def eG.h:Hint := .o
def eG.F (b:List UInt8):OT:=dD PG eG.E 50 eG.sg eG.h [(.ag [.pt]),(.sl .bs b)]
theorem eG.fh (b:List UInt8):eG.F b=some [(.i .i64 ((b).length:Int)),(.ag [.pt]),(.sl .bs b)]:=by kernel_rfl
def dF.E:cz:=dH fJ zs [(35,(bQ.c,bQ.sg))]
def dF.h:Hint := .o
def dF.F (w:rI):OT:=dD PG dF.E 29 dF.sg dF.h [(.ag (rI.cells w))]
theorem dF.fh (w:rI):dF.F w=ck (eO (((rI.b w))).length 1) (some [(.sl .bs (((rI.b w)))),(.ag (rI.cells w))]):=by kernel_rfl
def bZ.E:cz:=dH fJ zs []
def bZ.h:Hint := .o
def bZ.F (b:List UInt8) (c:UInt8):OT:=dD PG bZ.E 68 bZ.sg bZ.h [(.sl .bs b),(.u8 c)]
theorem bZ.fh (b:List UInt8) (c:UInt8):bZ.F b c=some [(.i .i64 (Lib.indexByte b c))]:=by kernel_rfl
def cG.E:cz:=dH fJ zs [(68,(bZ.c,bZ.sg)),(69,(utf_Check.c,utf_Check.sg))]
def cG.h:Hint := .o
def cG.F (b:List UInt8) (at_:Int):OT:=dD PG cG.E 47 cG.sg cG.h [(.sl .bs b),(.i .i64 at_)]
theorem cG.cR (b:List UInt8) (at_:Int) {ρ:OT} (K:∀(v1:Bool) (h1:v1=(cond (decide (at_<(0:Int))) true (decide (((b).length:Int)<at_)))) (v2:Int) (h2:v2=(Lib.indexByte ((List.drop (at_).toNat b)) ((0:UInt8)))) (v3:Int) (h3:v3=(IntKind.i64.wrap (at_+v2))) (v4:List UInt8) (h4:v4=(List.drop (at_).toNat (List.take (v3).toNat b))) (v5:Int) (h5:v5=(IntKind.i64.wrap (v3+(1:Int)))),ck (!(!(decide (at_<(0:Int)))) || (!(decide (at_<(0:Int))))) (ck (!(!(decide (at_<(0:Int)))) || ((!(decide (at_<(0:Int))))&&(!(decide (at_<(0:Int)))))) (ck ((decide (at_<(0:Int))) || (!(decide (at_<(0:Int))))) (cond v1
  (some [(.s []),(.i .i64 0),(.i .i64 1)])
  (ck (dV at_ (b).length (b).length) (cond (decide (v2<(0:Int)))
  (some [(.s []),(.i .i64 0),(.i .i64 2)])
  (ck (dV at_ v3 (b).length) (ck (decide (v4.length≤1099511627776)) (cond (!(dp.whole v4))
  (some [(.s []),(.i .i64 0),(.i .i64 4)])
  (ck (dV at_ v3 (b).length) (some [(.s v4),(.i .i64 v5),(.i .i64 0)]))))))))))=ρ):cG.F b at_=ρ:=Eq.trans (by kernel_rfl) (K _ rfl _ rfl _ rfl _ rfl _ rfl)
def cB.E (n:Nat):cz:=dH fJ zs [(26,(sz_Of.cn n,sz_Of.sg))]
def cB.h:Hint := .s .o (.s .o (.s (.s .o (.b (.l (sc [3,6,7,8]) .o))) .o))
def cB.F (n:Nat) (l:List bx):OT:=dD PG (cB.E n) 49 cB.sg cB.h [(.sl .fl l)]
def cB.l1 (n:Nat) (x0:Int) (x1:List bx) (x2:Int) (x3:Int):OT:=j9 PG (cB.E n) 49 cB.sg cB.h 43 [(.i .i64 x0),(.sl .fl x1),(.i .i64 x2),(.i .i64 x3)]
theorem cB.fo (n:Nat) (x0:Int) (x1:List bx) (x2:Int) (x3:Int) {ρ:OT} (K:∀(v1:bx) (h1:v1=(List.getD x1 (x3).toNat (ez.iH .fl))) (v2:Int) (h2:v2=(((bx.name v1)).length:Int)) (v3:Int) (h3:v3=(IntKind.i64.wrap (v2+(2:Int)))) (v4:Int) (h4:v4=(((Bs.size (bx.of [] (bx.val v1)):Nat):Int))) (v5:Int) (h5:v5=(IntKind.i64.wrap (x0+(IntKind.i64.wrap (v3+v4))))) (v6:Int) (h6:v6=(IntKind.i64.wrap (x3+(1:Int)))),cond (decide (x3<x2))
  (ck (dj x3 (x1).length) (ck ((decide (bx.dk (bx.of [] (bx.val v1))≤1000000000000))&&decide ((2 * bx.dk (bx.of [] (bx.val v1)))<n)) (cB.l1 n v5 x1 x2 v6)))
  (some [(.i .i64 x0)])=ρ):cB.l1 n x0 x1 x2 x3=ρ:=((gn _ _ _ _ _ _ _).trans (by kernel_rfl)).trans (K _ rfl _ rfl _ rfl _ rfl _ rfl _ rfl)
theorem cB.fh (n:Nat) (l:List bx):cB.F n l=cB.l1 n (5:Int) l ((l).length:Int) (0:Int):=by kernel_rfl
def sz_Of.E (n:Nat):cz:=dH fJ zs [(49,(cB.cn n,cB.sg))]
def sz_Of.h:Hint := .s .o (.s (.s .o (.b (.j [(1,.ptr 72 0),(4,.no),(5,.no),(72,.cl [])] .o (.s .o (.s .o (.s .o (.s .o (.s .o (.s .o (.s .o (.j [(1,.ptr 72 0),(4,.no),(16,.no),(72,.cl [])] .o (.s .o (.s .o (.s .o (.s .o (.s .o (.s .o (.s .o (.s .o (.s .o (.j [(1,.ptr 72 0),(4,.no),(55,.no),(72,.cl [])] .o .o))))))))))))))))))))) .o)
def sz_Of.F (n:Nat) (v:Val):OT:=dD PG (sz_Of.E n) 26 sz_Of.sg sz_Of.h [(.ag (Val.cells v))]
def sz_Of.j1 (n:Nat) (x0:Int) (x1:Bool) (x2:Val):OT:=fp PG (sz_Of.E n) 26 sz_Of.sg sz_Of.h 21 [.pt,(.i .i64 x0),(.b x1),(.ag (Val.cells x2))]
def sz_Of.j2 (n:Nat) (x0:Int) (x1:Bool) (x2:Val):OT:=fp PG (sz_Of.E n) 26 sz_Of.sg sz_Of.h 8181 [.pt,(.i .i64 x0),(.b x1),(.ag (Val.cells x2))]
def sz_Of.j3 (n:Nat) (x0:Int) (x1:Bool) (x2:Val):OT:=fp PG (sz_Of.E n) 26 sz_Of.sg sz_Of.h 8388597 [.pt,(.i .i64 x0),(.b x1),(.ag (Val.cells x2))]
theorem sz_Of.qz (n:Nat) (x0:Int) (x1:Bool) (x2:Val):sz_Of.j1 n x0 x1 x2=cond x1
  (some [(.i .i64 8)])
  (cond (decide (x0=(16:Int)))
  (some [(.i .i64 4)])
  (cond (decide (x0=(8:Int)))
  (some [(.i .i64 1)])
  (cond (decide (x0=(19:Int)))
  (some [(.i .i64 16)])
  (cond (decide (x0=(2:Int)))
  (sz_Of.j2 n x0 (decide (x0=(2:Int))) x2)
  (cond (decide (x0=(13:Int)))
  (sz_Of.j2 n x0 (decide (x0=(13:Int))) x2)
  (sz_Of.j2 n x0 (decide (x0=(14:Int))) x2)))))):=((dv _ _ _ _ _ _ _).trans (by kernel_rfl))
theorem sz_Of.lO (n:Nat) (x0:Int) (x1:Bool) (x2:Val) {ρ:OT} (K:∀(v1:Int) (h1:v1=(((Val.text x2)).length:Int)) (v2:Int) (h2:v2=(IntKind.i64.wrap (v1+(5:Int)))) (v3:Int) (h3:v3=(((Val.more x2)).length:Int)) (v4:Int) (h4:v4=(IntKind.i64.wrap ((IntKind.i64.wrap (v1+v3))+(2:Int)))) (v5:Int) (h5:v5=(((Val.bytes x2)).length:Int)) (v6:Int) (h6:v6=(IntKind.i64.wrap (v5+(9:Int)))) (v7:Int) (h7:v7=(IntKind.i64.wrap (v5+(5:Int)))) (v8:Int) (h8:v8=(IntKind.i64.wrap (v1+(17:Int)))),cond x1
  (some [(.i .i64 v2)])
  (cond (decide (x0=(11:Int)))
  (some [(.i .i64 v4)])
  (cond (decide (x0=(5:Int)))
  (cond (decide ((Val.sub x2)=(2:Int)))
  (some [(.i .i64 v6)])
  (some [(.i .i64 v7)]))
  (cond (decide (x0=(7:Int)))
  (some [(.i .i64 12)])
  (cond (decide (x0=(12:Int)))
  (some [(.i .i64 v8)])
  (cond (decide (x0=(3:Int)))
  (sz_Of.j3 n x0 (decide (x0=(3:Int))) x2)
  (sz_Of.j3 n x0 (decide (x0=(4:Int))) x2))))))=ρ):sz_Of.j2 n x0 x1 x2=ρ:=((dv _ _ _ _ _ _ _).trans (by kernel_rfl)).trans (K _ rfl _ rfl _ rfl _ rfl _ rfl _ rfl _ rfl _ rfl)
theorem sz_Of.j3_in (n:Nat) (x0:Int) (x1:Bool) (x2:Val) {ρ:OT} (K:∀(v1:Int) (h1:v1=(((Bs.dC ((Val.kids x2))+5:Nat):Int))) (v2:Int) (h2:v2=(((Val.text x2)).length:Int)) (v3:Int) (h3:v3=(IntKind.i64.wrap (v2+(9:Int)))),cond x1
  (ck ((decide (bx.cw ((Val.kids x2))≤1000000000000))&&decide ((2 * bx.cw ((Val.kids x2))+1)<n)) (some [(.i .i64 v1)]))
  (cond (decide (x0=(15:Int)))
  (ck ((decide (bx.cw ((Val.kids x2))≤1000000000000))&&decide ((2 * bx.cw ((Val.kids x2))+1)<n)) (some [(.i .i64 (IntKind.i64.wrap (v3+v1)))]))
  (some [(.i .i64 0)]))=ρ):sz_Of.j3 n x0 x1 x2=ρ:=((dv _ _ _ _ _ _ _).trans (by kernel_rfl)).trans (K _ rfl _ rfl _ rfl)
theorem sz_Of.fh (n:Nat) (v:Val):sz_Of.F n v=cond (decide ((Val.kind v)=(1:Int)))
  (sz_Of.j1 n (Val.kind v) (decide ((Val.kind v)=(1:Int))) v)
  (cond (decide ((Val.kind v)=(9:Int)))
  (sz_Of.j1 n (Val.kind v) (decide ((Val.kind v)=(9:Int))) v)
  (cond (decide ((Val.kind v)=(17:Int)))
  (sz_Of.j1 n (Val.kind v) (decide ((Val.kind v)=(17:Int))) v)
  (sz_Of.j1 n (Val.kind v) (decide ((Val.kind v)=(18:Int))) v))):=by kernel_rfl
def dY.E:cz:=dH fJ zs []
def dY.h:Hint := .o
def dY.F (l:eK):OT:=dD PG dY.E 24 dY.sg dY.h [(.ag (eK.cells l))]
theorem dY.cR (l:eK) {ρ:OT} (K:∀(v1:Bool) (h1:v1=(cond (decide ((1:Int)≤(eK.depth l))) (decide ((eK.depth l)≤(200:Int))) false)) (v2:Bool) (h2:v2=(cond v1 (decide ((5:Int)≤(eK.size l))) false)) (v3:Bool) (h3:v3=(cond v2 (decide ((eK.size l)≤(16777216:Int))) false)) (v4:Bool) (h4:v4=(cond v3 (decide ((0:Int)≤(eK.out l))) false)) (v5:Bool) (h5:v5=(cond v4 (decide ((eK.out l)≤(67108864:Int))) false)),ck (!(decide ((1:Int)≤(eK.depth l))) || (decide ((1:Int)≤(eK.depth l)))) (ck (!(decide ((1:Int)≤(eK.depth l))) || (decide ((1:Int)≤(eK.depth l)))) (ck (!(decide ((1:Int)≤(eK.depth l))) || (decide ((1:Int)≤(eK.depth l)))) (ck (!v1 || v1) (ck (!v1 || v1) (ck (!v1 || v1) (ck (!v2 || v2) (ck (!v2 || v2) (ck (!v2 || v2) (ck (!v3 || v3) (ck (!v3 || v3) (ck (!v3 || v3) (ck (!v4 || v4) (ck (!v4 || v4) (ck (!v4 || v4) (some [(.b v5)])))))))))))))))=ρ):dY.F l=ρ:=Eq.trans (by kernel_rfl) (K _ rfl _ rfl _ rfl _ rfl _ rfl)
def cO.E:cz:=dH fJ zs [(52,(dt.c,dt.sg)),(77,(eF.c,eF.sg))]
def cO.h:Hint := .o
def cO.F (s:IY) (b:List UInt8):OT:=dD PG cO.E 53 cO.sg cO.h [(.ag [.pt]),(.s s),(.sl .bs b)]
theorem cO.cR (s:IY) (b:List UInt8) {ρ:OT} (K:∀(v1:List UInt8) (h1:v1=(((((b++s)))++[UInt8.ofInt ((0:Int))]))),ck (lM (s).length) (ck (decide ((b).length+(s).length≤2199023255552)) (ck (decide (((((b++s)))).length≤1099511627776)) (some [(.ag [.pt]),(.sl .bs v1)])))=ρ):cO.F s b=ρ:=Eq.trans (by kernel_rfl) (K _ rfl)
def eu.E:cz:=dH fJ zs [(51,(cK.c,cK.sg)),(53,(cO.c,cO.sg))]
def eu.h:Hint := .o
def eu.F (s:IY) (b:List UInt8):OT:=dD PG eu.E 78 eu.sg eu.h [(.ag [.pt]),(.s s),(.sl .bs b)]
theorem eu.cR (s:IY) (b:List UInt8) {ρ:OT} (K:∀(v1:Int) (h1:v1=(IntKind.i64.wrap (((s).length:Int)+(1:Int)))) (v2:List UInt8) (h2:v2=((b++Bs.ff (((4:Int))).toNat (((UInt64.ofInt v1))).toNat))),ck (decide (1≤((4:Int))∧((4:Int))≤8∧(b).length≤1099511627776)) (ck (decide ((v2).length+(s).length≤1099511627776)) (some [(.ag [.pt]),(.sl .bs ((v2++(s++[0]))))]))=ρ):eu.F s b=ρ:=Eq.trans (by kernel_rfl) (K _ rfl _ rfl)
def bF.E (n:Nat):cz:=dH fJ zs [(50,(eG.c,eG.sg)),(51,(cK.c,cK.sg)),(52,(dt.c,dt.sg)),(53,(cO.c,cO.sg)),(54,(bD.cn n,bD.sg)),(55,(cQ.c,cQ.sg))]
def bF.h:Hint := .s .o (.s .o (.s (.s .o (.b (.l [(0,.ptr 1000000 0),(4,.no),(11,.no),(12,.no),(13,.no),(1000000,.cl [(0,800000)]),(800000,.pv)] .o))) .o))
def bF.F (n:Nat) (l:List bx) (b:List UInt8):OT:=dD PG (bF.E n) 28 bF.sg bF.h [(.ag [.pt]),(.sl .fl l),(.sl .bs b)]
def bF.l1 (n:Nat) (x0:Int) (x1:List bx) (x2:Int) (x3:Int) (x4:List UInt8):OT:=j9 PG (bF.E n) 28 bF.sg bF.h 43 [.pt,(.i .i64 x0),(.sl .fl x1),(.i .i64 x2),(.i .i64 x3),(.ag [.pt]),(.sl .bs x4)]
theorem bF.fo (n:Nat) (x0:Int) (x1:List bx) (x2:Int) (x3:Int) (x4:List UInt8) {ρ:OT} (K:∀(v1:bx) (h1:v1=(List.getD x1 (x3).toNat (ez.iH .fl))) (v2:List UInt8) (h2:v2=((x4++[UInt8.ofInt ((bx.kind v1))]))) (v3:List UInt8) (h3:v3=((v2++(((bx.name v1))++[0])))) (v4:List UInt8) (h4:v4=((v3++Bs.enc (bx.of [] (bx.val v1))))) (v5:Int) (h5:v5=(IntKind.i64.wrap (x3+(1:Int)))) (v6:List UInt8) (h6:v6=((x4++[UInt8.ofInt ((0:Int))]))) (v7:Int) (h7:v7=(IntKind.i64.wrap ((((v6).length:Int)) - x0))) (v8:List UInt8) (h8:v8=((Bs.jr ((v6)) (x0).toNat (Bs.ff (((4:Int))).toNat (((UInt64.ofInt v7))).toNat)))),cond (decide (x3<x2))
  (ck (dj x3 (x1).length) (ck (decide ((x4).length≤1099511627776)) (ck (decide ((v2).length+(((bx.name v1))).length≤1099511627776)) (ck ((decide ((v3).length+30 * bx.dk (bx.of [] (bx.val v1))+30≤1000000000000))&&decide ((2 * bx.dk (bx.of [] (bx.val v1)))<n)) (bF.l1 n x0 x1 x2 v5 v4)))))
  (ck (decide ((x4).length≤1099511627776)) (ck (decide (1≤((4:Int))∧((4:Int))≤8∧0≤x0∧x0+((4:Int))≤((((v6))).length:Int)∧(((v6))).length≤2199023255552)) (some [(.ag [.pt]),(.sl .bs v8)])))=ρ):bF.l1 n x0 x1 x2 x3 x4=ρ:=((gn _ _ _ _ _ _ _).trans (by kernel_rfl)).trans (K _ rfl _ rfl _ rfl _ rfl _ rfl _ rfl _ rfl _ rfl)
theorem bF.cR (n:Nat) (l:List bx) (b:List UInt8) {ρ:OT} (K:∀(v1:List UInt8) (h1:v1=((((b))++Bs.ff (((4:Int))).toNat (((0:UInt64))).toNat))),ck (decide (1≤((4:Int))∧((4:Int))≤8∧(((b))).length≤1099511627776)) (bF.l1 n (((b).length:Int)) l ((l).length:Int) (0:Int) v1)=ρ):bF.F n l b=ρ:=Eq.trans (by kernel_rfl) (K _ rfl)
def bD.E (n:Nat):cz:=dH fJ zs [(28,(bF.cn n,bF.sg)),(50,(eG.c,eG.sg)),(51,(cK.c,cK.sg)),(52,(dt.c,dt.sg)),(53,(cO.c,cO.sg)),(55,(cQ.c,cQ.sg)),(77,(eF.c,eF.sg)),(78,(eu.c,eu.sg))]
def bD.h:Hint := .s .o (.s .o (.b (.j [(0,.ptr 1000000 0),(3,.ptr 136 0),(7,.no),(8,.no),(136,.cl []),(1000000,.cl [(0,800000)]),(800000,.pv)] .o (.s .o (.s .o (.s .o (.s .o (.s .o (.s .o (.s .o (.j [(0,.ptr 1000000 0),(3,.ptr 136 0),(7,.no),(39,.no),(136,.cl []),(1000000,.cl [(0,800000)]),(800000,.pv)] .o (.s .o (.s .o (.s .o (.s .o (.s (.s .o (.j [(0,.ptr 1000000 0),(3,.ptr 136 0),(136,.cl []),(1000000,.cl [(0,800000)]),(800000,.pv)] .o .o)) (.s .o (.s .o (.s .o (.s .o (.j [(0,.ptr 1000000 0),(3,.ptr 136 0),(7,.no),(104,.no),(136,.cl []),(1000000,.cl [(0,800000)]),(800000,.pv)] .o .o)))))))))))))))))))))
def bD.F (n:Nat) (v:Val) (b:List UInt8):OT:=dD PG (bD.E n) 54 bD.sg bD.h [(.ag [.pt]),(.ag (Val.cells v)),(.sl .bs b)]
def bD.j1 (n:Nat) (x0:Int) (x1:Bool) (x2:Val) (x3:List UInt8):OT:=fp PG (bD.E n) 54 bD.sg bD.h 11 [.pt,.pt,(.i .i64 x0),(.b x1),(.ag (Val.cells x2)),(.ag [.pt]),(.sl .bs x3)]
def bD.j2 (n:Nat) (x0:Int) (x1:Bool) (x2:Val) (x3:List UInt8):OT:=fp PG (bD.E n) 54 bD.sg bD.h 4091 [.pt,.pt,(.i .i64 x0),(.b x1),(.ag (Val.cells x2)),(.ag [.pt]),(.sl .bs x3)]
def bD.j3 (n:Nat) (x0:Val) (x1:List UInt8):OT:=fp PG (bD.E n) 54 bD.sg bD.h 458747 [.pt,.pt,(.ag (Val.cells x0)),(.ag [.pt]),(.sl .bs x1)]
def bD.j4 (n:Nat) (x0:Int) (x1:Bool) (x2:Val) (x3:List UInt8):OT:=fp PG (bD.E n) 54 bD.sg bD.h 4194299 [.pt,.pt,(.i .i64 x0),(.b x1),(.ag (Val.cells x2)),(.ag [.pt]),(.sl .bs x3)]
theorem bD.qy (n:Nat) (x0:Int) (x1:Bool) (x2:Val) (x3:List UInt8) {ρ:OT} (K:∀(v1:List UInt8) (h1:v1=((x3++Bs.ff (((8:Int))).toNat (((Val.bits x2))).toNat))) (v2:List UInt8) (h2:v2=((x3++Bs.ff (((4:Int))).toNat (((Val.bits x2))).toNat))) (v3:List UInt8) (h3:v3=((x3++Bs.ff (((1:Int))).toNat (((Val.bits x2))).toNat))) (v4:List UInt8) (h4:v4=((x3++Bs.ff (((8:Int))).toNat (((Val.low x2))).toNat))) (v5:List UInt8) (h5:v5=((v4++Bs.ff (((8:Int))).toNat (((Val.high x2))).toNat))),cond x1
  (ck (decide (1≤((8:Int))∧((8:Int))≤8∧(x3).length≤1099511627776)) (some [(.ag [.pt]),(.sl .bs v1)]))
  (cond (decide (x0=(16:Int)))
  (ck (decide (1≤((4:Int))∧((4:Int))≤8∧(x3).length≤1099511627776)) (some [(.ag [.pt]),(.sl .bs v2)]))
  (cond (decide (x0=(8:Int)))
  (ck (decide (1≤((1:Int))∧((1:Int))≤8∧(x3).length≤1099511627776)) (some [(.ag [.pt]),(.sl .bs v3)]))
  (cond (decide (x0=(19:Int)))
  (ck (decide (1≤((8:Int))∧((8:Int))≤8∧(x3).length≤1099511627776)) (ck (decide (1≤((8:Int))∧((8:Int))≤8∧(v4).length≤1099511627776)) (some [(.ag [.pt]),(.sl .bs v5)])))
  (cond (decide (x0=(2:Int)))
  (bD.j2 n x0 (decide (x0=(2:Int))) x2 x3)
  (cond (decide (x0=(13:Int)))
  (bD.j2 n x0 (decide (x0=(13:Int))) x2 x3)
  (bD.j2 n x0 (decide (x0=(14:Int))) x2 x3))))))=ρ):bD.j1 n x0 x1 x2 x3=ρ:=((dv _ _ _ _ _ _ _).trans (by kernel_rfl)).trans (K _ rfl _ rfl _ rfl _ rfl _ rfl)
theorem bD.lO (n:Nat) (x0:Int) (x1:Bool) (x2:Val) (x3:List UInt8) {ρ:OT} (K:∀(v1:List UInt8) (h1:v1=((x3++Bs.fC ((Val.text x2))))) (v2:List UInt8) (h2:v2=((x3++(((Val.text x2))++[0])))) (v3:List UInt8) (h3:v3=((v2++(((Val.more x2))++[0])))) (v4:Int) (h4:v4=(((Val.bytes x2)).length:Int)) (v5:UInt64) (h5:v5=((UInt64.ofInt v4)+(4:UInt64))) (v6:List UInt8) (h6:v6=((x3++Bs.ff (((4:Int))).toNat (v5).toNat))) (v7:List UInt8) (h7:v7=((v6++[UInt8.ofInt ((Val.sub x2))]))) (v8:List UInt8) (h8:v8=((v7++Bs.ff (((4:Int))).toNat (((UInt64.ofInt v4))).toNat))) (v9:List UInt8) (h9:v9=((x3++Bs.ff (((4:Int))).toNat (((UInt64.ofInt v4))).toNat))) (v10:List UInt8) (iU:v10=((v9++[UInt8.ofInt ((Val.sub x2))]))),cond x1
  (ck (decide ((x3).length+(((Val.text x2))).length+10≤1099511627776)) (some [(.ag [.pt]),(.sl .bs v1)]))
  (cond (decide (x0=(11:Int)))
  (ck (decide ((x3).length+(((Val.text x2))).length≤1099511627776)) (ck (decide ((v2).length+(((Val.more x2))).length≤1099511627776)) (some [(.ag [.pt]),(.sl .bs v3)])))
  (cond (decide (x0=(5:Int)))
  (cond (decide ((Val.sub x2)=(2:Int)))
  (ck (decide (1≤((4:Int))∧((4:Int))≤8∧(x3).length≤1099511627776)) (ck (decide ((v6).length≤1099511627776)) (ck (decide (1≤((4:Int))∧((4:Int))≤8∧(v7).length≤1099511627776)) (bD.j3 n x2 v8))))
  (ck (decide (1≤((4:Int))∧((4:Int))≤8∧(x3).length≤1099511627776)) (ck (decide ((v9).length≤1099511627776)) (bD.j3 n x2 v10))))
  (cond (decide (x0=(7:Int)))
  (ck (decide ((x3).length+(((Val.bytes x2))).length≤2199023255552)) (some [(.ag [.pt]),(.sl .bs ((x3++((Val.bytes x2)))))]))
  (cond (decide (x0=(12:Int)))
  (ck (decide ((x3).length+(((Val.text x2))).length+10≤1099511627776)) (ck (decide ((v1).length+(((Val.bytes x2))).length≤2199023255552)) (some [(.ag [.pt]),(.sl .bs ((v1++((Val.bytes x2)))))])))
  (cond (decide (x0=(3:Int)))
  (bD.j4 n x0 (decide (x0=(3:Int))) x2 x3)
  (bD.j4 n x0 (decide (x0=(4:Int))) x2 x3))))))=ρ):bD.j2 n x0 x1 x2 x3=ρ:=((dv _ _ _ _ _ _ _).trans (by kernel_rfl)).trans (K _ rfl _ rfl _ rfl _ rfl _ rfl _ rfl _ rfl _ rfl _ rfl _ rfl)
theorem bD.zx (n:Nat) (x0:Val) (x1:List UInt8):bD.j3 n x0 x1=ck (decide ((x1).length+(((Val.bytes x0))).length≤2199023255552)) (some [(.ag [.pt]),(.sl .bs ((x1++((Val.bytes x0)))))]):=((dv _ _ _ _ _ _ _).trans (by kernel_rfl))
theorem bD.s7 (n:Nat) (x0:Int) (x1:Bool) (x2:Val) (x3:List UInt8) {ρ:OT} (K:∀(v1:List UInt8) (h1:v1=((x3++Bs.iR ((Val.kids x2))))) (v2:List UInt8) (h2:v2=((((x3))++Bs.ff (((4:Int))).toNat (((0:UInt64))).toNat))) (v3:List UInt8) (h3:v3=((v2++Bs.fC ((Val.text x2))))) (v4:List UInt8) (h4:v4=((v3++Bs.iR ((Val.kids x2))))) (v5:Int) (h5:v5=(IntKind.i64.wrap ((((v4).length:Int)) - (((x3).length:Int))))) (v6:List UInt8) (h6:v6=((Bs.jr ((v4)) (((((x3).length:Int)))).toNat (Bs.ff (((4:Int))).toNat (((UInt64.ofInt v5))).toNat)))),cond x1
  (ck ((decide ((x3).length+30 * bx.cw ((Val.kids x2))+50≤1000000000000))&&decide ((2 * bx.cw ((Val.kids x2))+1)<n)) (some [(.ag [.pt]),(.sl .bs v1)]))
  (cond (decide (x0=(15:Int)))
  (ck (decide (1≤((4:Int))∧((4:Int))≤8∧(((x3))).length≤1099511627776)) (ck (decide ((v2).length+(((Val.text x2))).length+10≤1099511627776)) (ck ((decide ((v3).length+30 * bx.cw ((Val.kids x2))+50≤1000000000000))&&decide ((2 * bx.cw ((Val.kids x2))+1)<n)) (ck (decide (1≤((4:Int))∧((4:Int))≤8∧0≤((((x3).length:Int)))∧((((x3).length:Int)))+((4:Int))≤((((v4))).length:Int)∧(((v4))).length≤2199023255552)) (some [(.ag [.pt]),(.sl .bs v6)])))))
  (some [(.ag [.pt]),(.sl .bs x3)]))=ρ):bD.j4 n x0 x1 x2 x3=ρ:=((dv _ _ _ _ _ _ _).trans (by kernel_rfl)).trans (K _ rfl _ rfl _ rfl _ rfl _ rfl _ rfl)
theorem bD.fh (n:Nat) (v:Val) (b:List UInt8):bD.F n v b=cond (decide ((Val.kind v)=(1:Int)))
  (bD.j1 n (Val.kind v) (decide ((Val.kind v)=(1:Int))) v b)
  (cond (decide ((Val.kind v)=(9:Int)))
  (bD.j1 n (Val.kind v) (decide ((Val.kind v)=(9:Int))) v b)
  (cond (decide ((Val.kind v)=(17:Int)))
  (bD.j1 n (Val.kind v) (decide ((Val.kind v)=(17:Int))) v b)
  (bD.j1 n (Val.kind v) (decide ((Val.kind v)=(18:Int))) v b))):=by kernel_rfl
def cZ.E:cz:=dH fJ zs [(12,(cF.c,cF.sg)),(26,(sz_Of.c,sz_Of.sg)),(27,(eW.c,eW.sg)),(28,(bF.c,bF.sg)),(29,(dF.c,dF.sg))]
def cZ.h:Hint := .o
def cZ.F (v:Val):OT:=dD PG cZ.E 9 cZ.sg cZ.h [(.ag (Val.cells v))]
theorem cZ.cR (v:Val) {ρ:OT} (K:∀(v1:List Int) (h1:v1=((Tree.hU (bx.of [] v) []).1)) (v2:Int) (h2:v2=((Tree.hU (bx.of [] v) []).2)) (v3:Int) (h3:v3=(((Bs.size (bx.of [] v):Nat):Int))) (v4:List UInt8) (h4:v4=((((([]:List UInt8)))++Bs.iR ((Val.kids v))))),ck (decide (bx.dk (bx.of [] v)≤1099511627776)) (cond (!decide (v2=(0:Int)))
  (some [(.sl .bs ([]:List UInt8)),(.ag [(.i .i64 v2),(.i .i64 0),(.sl .is v1)])])
  (cond (!decide ((Val.kind v)=(3:Int)))
  (some [(.sl .bs ([]:List UInt8)),(.ag [(.i .i64 5),(.i .i64 0),(.sl .is ([]:List Int))])])
  (ck (decide (bx.dk (bx.of [] v)≤1000000000000)) (cond (decide ((16777216:Int)<v3))
  (some [(.sl .bs ([]:List UInt8)),(.ag [(.i .i64 9),(.i .i64 0),(.sl .is ([]:List Int))])])
  (ck (decide ((((([]:List UInt8)))).length+30 * bx.cw ((Val.kids v))+50≤1000000000000)) (ck (decide ((((rI.mk v4)).b).length≤2199023255552)) (some [(.sl .bs ((((rI.mk v4)).b))),(.ag [(.i .i64 0),(.i .i64 0),(.sl .is ([]:List Int))])])))))))=ρ):cZ.F v=ρ:=Eq.trans (by kernel_rfl) (K _ rfl _ rfl _ rfl _ rfl)
def bW.E:cz:=dH fJ zs []
def bW.h:Hint := .o
def bW.F (e:Int) (at_:Int):OT:=dD PG bW.E 44 bW.sg bW.h [(.i .i64 e),(.i .i64 at_)]
theorem bW.fh (e:Int) (at_:Int):bW.F e at_=some [(.ag [(.i .i64 e),(.i .i64 at_),(.sl .is ([]:List Int))])]:=by kernel_rfl
def cd.E:cz:=dH fJ zs [(66,(eH.c,eH.sg)),(67,(cT.c,cT.sg))]
def cd.h:Hint := .o
def cd.F (r:bA) (at_:Int):OT:=dD PG cd.E 45 cd.sg cd.h [(.ag (bA.cells r)),(.i .i64 at_)]
theorem cd.cR (r:bA) (at_:Int) {ρ:OT} (K:∀(v1:Int) (h1:v1=(IntKind.i64.wrap (at_+(4:Int)))) (v2:List UInt8) (h2:v2=(List.drop (at_).toNat (List.take (v1).toNat (bA.b r)))) (v3:bA) (h3:v3=((Bs.jA ((bA.mk v2 0)) ((4:Int))))) (v4:UInt64) (h4:v4=((UInt64.ofNat (Bs.gD (Bs.fH ((bA.mk v2 0)) ((4:Int))))))) (v5:Bool) (h5:v5=((Bs.can ((bA.mk v2 0)) ((4:Int))))) (v6:Int) (h6:v6=(IntKind.i32.wrap ((v4).toNat:Int))),ck (dV at_ v1 ((bA.b r)).length) (ck (decide ((v2).length≤1099511627776)) (ck (decide (1≤((4:Int))∧((4:Int))≤8∧0≤(((bA.mk v2 0))).at_∧(((bA.mk v2 0))).at_≤((((bA.mk v2 0))).b).length∧((((bA.mk v2 0))).b).length≤1099511627776)) (some [(.i .i64 (IntKind.i64.wrap v6)),(.ag (bA.cells r))])))=ρ):cd.F r at_=ρ:=Eq.trans (by kernel_rfl) (K _ rfl _ rfl _ rfl _ rfl _ rfl _ rfl)
def bJ.E:cz:=dH fJ zs []
def bJ.h:Hint := .s .o (.s (.s .o (.b (.j (sc [3,4]) .o (.s .o (.j (sc [3,9]) .o .o))))) .o)
def bJ.F (k:Int):OT:=dD PG bJ.E 70 bJ.sg bJ.h [(.i .i64 k)]
def bJ.j1 (x0:Int) (x1:Bool):OT:=fp PG bJ.E 70 bJ.sg bJ.h 21 [(.i .i64 x0),(.b x1)]
def bJ.j2 (x0:Int) (x1:Bool):OT:=fp PG bJ.E 70 bJ.sg bJ.h 117 [(.i .i64 x0),(.b x1)]
theorem bJ.qz (x0:Int) (x1:Bool):bJ.j1 x0 x1=cond x1
  (some [(.i .i64 8)])
  (cond (decide (x0=(16:Int)))
  (bJ.j2 x0 (decide (x0=(16:Int))))
  (cond (decide (x0=(2:Int)))
  (bJ.j2 x0 (decide (x0=(2:Int))))
  (cond (decide (x0=(13:Int)))
  (bJ.j2 x0 (decide (x0=(13:Int))))
  (cond (decide (x0=(14:Int)))
  (bJ.j2 x0 (decide (x0=(14:Int))))
  (cond (decide (x0=(12:Int)))
  (bJ.j2 x0 (decide (x0=(12:Int))))
  (bJ.j2 x0 (decide (x0=(15:Int))))))))):=((dv _ _ _ _ _ _ _).trans (by kernel_rfl))
theorem bJ.jE (x0:Int) (x1:Bool):bJ.j2 x0 x1=cond x1
  (some [(.i .i64 4)])
  (cond (decide (x0=(8:Int)))
  (some [(.i .i64 1)])
  (cond (decide (x0=(19:Int)))
  (some [(.i .i64 16)])
  (cond (decide (x0=(7:Int)))
  (some [(.i .i64 12)])
  (cond (decide (x0=(5:Int)))
  (some [(.i .i64 5)])
  (some [(.i .i64 0)]))))):=((dv _ _ _ _ _ _ _).trans (by kernel_rfl))
theorem bJ.fh (k:Int):bJ.F k=cond (decide (k=(1:Int)))
  (bJ.j1 k (decide (k=(1:Int))))
  (cond (decide (k=(9:Int)))
  (bJ.j1 k (decide (k=(9:Int))))
  (cond (decide (k=(17:Int)))
  (bJ.j1 k (decide (k=(17:Int))))
  (bJ.j1 k (decide (k=(18:Int)))))):=by kernel_rfl
def dG.E:cz:=dH fJ zs [(44,(bW.c,bW.sg)),(47,(cG.c,cG.sg))]
def dG.h:Hint := .o
def dG.F (r:bA) (q:Int) (z:Int):OT:=dD PG dG.E 73 dG.sg dG.h [(.ag (bA.cells r)),(.i .i64 q),(.i .i64 z)]
theorem dG.cR (r:bA) (q:Int) (z:Int) {ρ:OT} (K:∀(v1:List UInt8) (h1:v1=(List.take (z).toNat (bA.b r))) (v2:cq) (h2:v2=((cq.mk (((Bs.ctext v1 q).2.2)) q []))),ck (dV 0 z ((bA.b r)).length) (ck (decide ((v1).length≤1099511627776)) (cond (!decide (((Bs.ctext v1 q).2.2)=(0:Int)))
  (some [(.s []),(.i .i64 0),(.ag (cq.cells v2)),(.ag (bA.cells r))])
  (some [(.s ((Bs.ctext v1 q).1)),(.i .i64 ((Bs.ctext v1 q).2.1)),(.ag [(.i .i64 0),(.i .i64 0),(.sl .is ([]:List Int))]),(.ag (bA.cells r))])))=ρ):dG.F r q z=ρ:=Eq.trans (by kernel_rfl) (K _ rfl _ rfl)
def dK.E:cz:=dH fJ zs [(44,(bW.c,bW.sg)),(45,(cd.c,cd.sg)),(69,(utf_Check.c,utf_Check.sg))]
def dK.h:Hint := .o
def dK.F (r:bA) (q:Int) (z:Int):OT:=dD PG dK.E 72 dK.sg dK.h [(.ag (bA.cells r)),(.i .i64 q),(.i .i64 z)]
theorem dK.cR (r:bA) (q:Int) (z:Int) {ρ:OT} (K:∀(v1:Int) (h1:v1=(IntKind.i64.wrap ((IntKind.i64.wrap (z - q)) - (4:Int)))) (v2:Bool) (h2:v2=(cond (decide (((Bs.cU ((r).b) (q).toNat))<(1:Int))) true (decide (v1<((Bs.cU ((r).b) (q).toNat)))))) (v3:Int) (h3:v3=(IntKind.i64.wrap (q+(4:Int)))) (v4:Int) (h4:v4=(IntKind.i64.wrap (v3+((Bs.cU ((r).b) (q).toNat))))) (v5:Int) (h5:v5=(IntKind.i64.wrap (v4 - (1:Int)))) (v6:UInt8) (h6:v6=(List.getD (bA.b (r)) (v5).toNat (0:UInt8))) (v7:List UInt8) (h7:v7=(List.drop (v3).toNat (List.take (v5).toNat (bA.b (r))))),cond (decide ((IntKind.i64.wrap (z - q))<(4:Int)))
  (some [(.s []),(.i .i64 0),(.ag (cq.cells ((cq.mk ((2:Int)) q [])))),(.ag (bA.cells r))])
  (ck (decide (0≤q∧q+4≤(((r).b).length:Int)∧((r).b).length≤1000000000)) (ck (!(!(decide (((Bs.cU ((r).b) (q).toNat))<(1:Int)))) || ((!(decide (((Bs.cU ((r).b) (q).toNat))<(1:Int))))&&(!(decide (((Bs.cU ((r).b) (q).toNat))<(1:Int)))))) (ck (!(!(decide (((Bs.cU ((r).b) (q).toNat))<(1:Int)))) || (!(decide (((Bs.cU ((r).b) (q).toNat))<(1:Int))))) (ck (!(!(decide (((Bs.cU ((r).b) (q).toNat))<(1:Int)))) || ((!(decide (((Bs.cU ((r).b) (q).toNat))<(1:Int))))&&(!(decide (((Bs.cU ((r).b) (q).toNat))<(1:Int)))))) (ck ((decide (((Bs.cU ((r).b) (q).toNat))<(1:Int))) || (!(decide (((Bs.cU ((r).b) (q).toNat))<(1:Int))))) (cond v2
  (some [(.s []),(.i .i64 0),(.ag (cq.cells ((cq.mk ((6:Int)) q [])))),(.ag (bA.cells (r)))])
  (ck (dj v5 ((bA.b (r))).length) (cond (!decide (v6=(0:UInt8)))
  (some [(.s []),(.i .i64 0),(.ag (cq.cells ((cq.mk ((3:Int)) v5 [])))),(.ag (bA.cells (r)))])
  (ck (dV v3 v5 ((bA.b (r))).length) (ck (decide (v7.length≤1099511627776)) (cond (!(dp.whole v7))
  (some [(.s []),(.i .i64 0),(.ag (cq.cells ((cq.mk ((4:Int)) v3 [])))),(.ag (bA.cells (r)))])
  (ck (dV v3 v5 ((bA.b (r))).length) (some [(.s v7),(.i .i64 v4),(.ag [(.i .i64 0),(.i .i64 0),(.sl .is ([]:List Int))]),(.ag (bA.cells (r)))])))))))))))))=ρ):dK.F r q z=ρ:=Eq.trans (by kernel_rfl) (K _ rfl _ rfl _ rfl _ rfl _ rfl _ rfl _ rfl)
def bR.E:cz:=dH fJ zs [(35,(bQ.c,bQ.sg)),(44,(bW.c,bW.sg)),(45,(cd.c,cd.sg))] [193,264]
def bR.h:Hint := .s .o (.s .o (.s .o (.s .o (.j [(0,.ptr 1000000 0),(9,.ptr 80 0),(11,.no),(12,.no),(13,.no),(80,.cl []),(1000000,.cl [])] .o .o))))
def bR.F (r:bA) (q:Int) (z:Int):OT:=dD PG bR.E 74 bR.sg bR.h [(.ag (bA.cells r)),(.i .i64 q),(.i .i64 z)]
def bR.j1 (x0:Int) (x1:Int) (x2:Int) (x3:cq) (x4:List UInt8) (x5:Int):OT:=fp PG bR.E 74 bR.sg bR.h 31 [.pt,.pt,(.i .i64 x0),(.i .i64 x1),(.i .i64 x2),(.ag (cq.cells x3)),(.ag [(.sl .bs x4),(.i .i64 x5)])]
theorem bR.qy (x0:Int) (x1:Int) (x2:Int) (x3:cq) (x4:List UInt8) (x5:Int) {ρ:OT} (K:∀(v1:List UInt8) (h1:v1=(List.drop (x1).toNat (List.take (x2).toNat x4))),ck (dV x1 x2 (x4).length) (ck (eO (v1).length 1) (some [(.i .i64 x0),(.sl .bs (v1)),(.i .i64 x2),(.ag [(.i .i64 0),(.i .i64 0),(.sl .is ([]:List Int))]),(.ag [(.sl .bs x4),(.i .i64 x5)])]))=ρ):bR.j1 x0 x1 x2 x3 x4 x5=ρ:=((dv _ _ _ _ _ _ _).trans (by kernel_rfl)).trans (K _ rfl)
theorem bR.cR (r:bA) (q:Int) (z:Int) {ρ:OT} (K:∀(v1:Int) (h1:v1=(IntKind.i64.wrap ((IntKind.i64.wrap (z - q)) - (5:Int)))) (v2:Bool) (h2:v2=(cond (decide (((Bs.cU ((r).b) (q).toNat))<(0:Int))) true (decide (v1<((Bs.cU ((r).b) (q).toNat)))))) (v3:Int) (h3:v3=(IntKind.i64.wrap (q+(4:Int)))) (v4:UInt8) (h4:v4=(List.getD (bA.b (r)) (v3).toNat (0:UInt8))) (v5:Int) (h5:v5=(IntKind.i64.wrap ((v4).toNat:Int))) (v6:Int) (h6:v6=(IntKind.i64.wrap (q+(5:Int)))) (v7:Int) (h7:v7=(IntKind.i64.wrap (v6+((Bs.cU ((r).b) (q).toNat))))) (v8:Int) (h8:v8=((Bs.cU (((r)).b) (v6).toNat))) (v9:Int) (h9:v9=(IntKind.i64.wrap (((Bs.cU ((r).b) (q).toNat)) - (4:Int)))) (v10:Bool) (iU:v10=(cond (decide (((Bs.cU ((r).b) (q).toNat))<(4:Int))) true (!decide (v8=v9)))) (v11:Int) (h11:v11=(IntKind.i64.wrap (v6+(4:Int)))),ck (decide (0≤q∧q+4≤(((r).b).length:Int)∧((r).b).length≤1000000000)) (ck (!(!(decide (((Bs.cU ((r).b) (q).toNat))<(0:Int)))) || ((!(decide (((Bs.cU ((r).b) (q).toNat))<(0:Int))))&&(!(decide (((Bs.cU ((r).b) (q).toNat))<(0:Int)))))) (ck (!(!(decide (((Bs.cU ((r).b) (q).toNat))<(0:Int)))) || (!(decide (((Bs.cU ((r).b) (q).toNat))<(0:Int))))) (ck (!(!(decide (((Bs.cU ((r).b) (q).toNat))<(0:Int)))) || ((!(decide (((Bs.cU ((r).b) (q).toNat))<(0:Int))))&&(!(decide (((Bs.cU ((r).b) (q).toNat))<(0:Int)))))) (ck ((decide (((Bs.cU ((r).b) (q).toNat))<(0:Int))) || (!(decide (((Bs.cU ((r).b) (q).toNat))<(0:Int))))) (cond v2
  (some [(.i .i64 0),(.sl .bs ([]:List UInt8)),(.i .i64 0),(.ag (cq.cells ((cq.mk ((6:Int)) q [])))),(.ag (bA.cells (r)))])
  (ck (dj v3 ((bA.b (r))).length) (cond (decide (v5=(2:Int)))
  (cond (!(decide (((Bs.cU ((r).b) (q).toNat))<(4:Int))))
  (ck ((!(decide (((Bs.cU ((r).b) (q).toNat))<(4:Int))))&&(((!(decide (((Bs.cU ((r).b) (q).toNat))<(4:Int))))&&(!(decide (((Bs.cU ((r).b) (q).toNat))<(4:Int)))))&&(decide (0≤v6∧v6+4≤((((r)).b).length:Int)∧(((r)).b).length≤1000000000)))) (ck (!(!(decide (((Bs.cU ((r).b) (q).toNat))<(4:Int)))) || (!(decide (((Bs.cU ((r).b) (q).toNat))<(4:Int))))) (ck (!(!(decide (((Bs.cU ((r).b) (q).toNat))<(4:Int)))) || (!(decide (((Bs.cU ((r).b) (q).toNat))<(4:Int))))) (ck ((decide (((Bs.cU ((r).b) (q).toNat))<(4:Int))) || (!(decide (((Bs.cU ((r).b) (q).toNat))<(4:Int))))) (cond v10
  (some [(.i .i64 0),(.sl .bs ([]:List UInt8)),(.i .i64 0),(.ag (cq.cells ((cq.mk ((6:Int)) v6 [])))),(.ag (bA.cells ((r))))])
  (bR.j1 v5 v11 v7 (cq.mk 0 0 []) (bA.b ((r))) (bA.at_ ((r)))))))))
  (ck (!(!(decide (((Bs.cU ((r).b) (q).toNat))<(4:Int)))) || (!(decide (((Bs.cU ((r).b) (q).toNat))<(4:Int))))) (ck (!(!(decide (((Bs.cU ((r).b) (q).toNat))<(4:Int)))) || (false&&(!(decide (((Bs.cU ((r).b) (q).toNat))<(4:Int)))))) (ck ((decide (((Bs.cU ((r).b) (q).toNat))<(4:Int))) || (!(decide (((Bs.cU ((r).b) (q).toNat))<(4:Int))))) (cond v10
  (some [(.i .i64 0),(.sl .bs ([]:List UInt8)),(.i .i64 0),(.ag (cq.cells ((cq.mk ((6:Int)) v6 [])))),(.ag (bA.cells (r)))])
  (bR.j1 v5 v11 v7 (cq.mk 0 0 []) (bA.b (r)) (bA.at_ (r))))))))
  (bR.j1 v5 v6 v7 (cq.mk 0 0 []) (bA.b (r)) (bA.at_ (r))))))))))=ρ):bR.F r q z=ρ:=Eq.trans (by kernel_rfl) (K _ rfl _ rfl _ rfl _ rfl _ rfl _ rfl _ rfl _ rfl _ rfl _ rfl _ rfl)
end
end Go.Eng
set_option maxRecDepth 100000
namespace Go.Eng
open Go.Proofs
noncomputable section
def da.E (n:Nat):cz:=dH fJ zs [(25,(bz.cn n,bz.sg)),(44,(bW.c,bW.sg)),(45,(cd.c,cd.sg)),(72,(dK.c,dK.sg))]
def da.h:Hint := .o
def da.F (n:Nat) (r:bA) (q:Int) (z:Int) (d:Int):OT:=dD PG (da.E n) 75 da.sg da.h [(.ag (bA.cells r)),(.i .i64 q),(.i .i64 z),(.i .i64 d)]
theorem da.cR (n:Nat) (r:bA) (q:Int) (z:Int) (d:Int) {ρ:OT} (K:∀(v1:Bool) (h1:v1=(cond (decide (((Bs.cU ((r).b) (q).toNat))<(14:Int))) true (decide ((IntKind.i64.wrap (z - q))<((Bs.cU ((r).b) (q).toNat)))))) (v2:Int) (h2:v2=(IntKind.i64.wrap (q+(4:Int)))) (v3:Int) (h3:v3=(IntKind.i64.wrap (q+((Bs.cU ((r).b) (q).toNat))))) (v4:IY) (h4:v4=((Bs.gh ([],0) (Bs.text (((r)).b) (v2).toNat (v3).toNat)).1)) (v5:Int) (h5:v5=(((Bs.gh ([],0) (Bs.text (((r)).b) (v2).toNat (v3).toNat)).2:Int))) (v6:cq) (h6:v6=((Bs.iI (Bs.text (((r)).b) (v2).toNat (v3).toNat)))) (v7:Int) (h7:v7=(IntKind.i64.wrap (d+(1:Int)))) (v8:List bx) (h8:v8=((Bs.gh ([],0) (Bs.doc ((((r))).at_ - v7).toNat ((((r))).b) (v5).toNat (v3).toNat ((2:Int)))).1)) (v9:Int) (h9:v9=(((Bs.gh ([],0) (Bs.doc ((((r))).at_ - v7).toNat ((((r))).b) (v5).toNat (v3).toNat ((2:Int)))).2:Int))) (v10:cq) (iU:v10=((Bs.iI (Bs.doc ((((r))).at_ - v7).toNat ((((r))).b) (v5).toNat (v3).toNat ((2:Int)))))),ck (decide (0≤q∧q+4≤(((r).b).length:Int)∧((r).b).length≤1000000000)) (ck (!(!(decide (((Bs.cU ((r).b) (q).toNat))<(14:Int)))) || ((!(decide (((Bs.cU ((r).b) (q).toNat))<(14:Int))))&&(!(decide (((Bs.cU ((r).b) (q).toNat))<(14:Int)))))) (ck (!(!(decide (((Bs.cU ((r).b) (q).toNat))<(14:Int)))) || ((!(decide (((Bs.cU ((r).b) (q).toNat))<(14:Int))))&&(!(decide (((Bs.cU ((r).b) (q).toNat))<(14:Int)))))) (ck ((decide (((Bs.cU ((r).b) (q).toNat))<(14:Int))) || (!(decide (((Bs.cU ((r).b) (q).toNat))<(14:Int))))) (cond v1
  (some [(.s []),(.sl .fl ([]:List bx)),(.i .i64 0),(.ag (cq.cells ((cq.mk ((6:Int)) q [])))),(.ag (bA.cells (r)))])
  (ck (decide (0≤v2∧v2≤v3∧v3≤((((r)).b).length:Int)∧(((r)).b).length≤1000000000)) (cond (!decide ((cq.err v6)=(0:Int)))
  (some [(.s []),(.sl .fl ([]:List bx)),(.i .i64 0),(.ag (cq.cells v6)),(.ag (bA.cells ((r))))])
  (ck ((decide (0≤v5∧v5≤v3∧v3≤(((((r))).b).length:Int)∧((((r))).b).length≤1000000000∧0≤v7∧v7≤1000∧(((r))).at_≤1000))&&decide ((3 * ((((r))).at_ - v7).toNat+2)<n)) (some [(.s v4),(.sl .fl v8),(.i .i64 v9),(.ag (cq.cells v10)),(.ag (bA.cells (((r)))))]))))))))=ρ):da.F n r q z d=ρ:=Eq.trans (by kernel_rfl) (K _ rfl _ rfl _ rfl _ rfl _ rfl _ rfl _ rfl _ rfl _ rfl _ rfl)
def bt.E (n:Nat):cz:=dH fJ zs [(25,(bz.cn n,bz.sg)),(35,(bQ.c,bQ.sg)),(44,(bW.c,bW.sg)),(66,(eH.c,eH.sg)),(67,(cT.c,cT.sg)),(70,(bJ.c,bJ.sg)),(71,(et.c,et.sg)),(72,(dK.c,dK.sg)),(73,(dG.c,dG.sg)),(74,(bR.c,bR.sg)),(75,(da.cn n,da.sg))]
def bt.h:Hint := .s .o (.s .o (.s .o (.s .o (.s .o (.s .o (.j [(10,.ptr 219 0),(11,.no),(12,.ptr 221 0),(219,.cl []),(221,.cl []),(1000000,.cl [])] (.s .o (.b (.j [(0,.ptr 1000000 0),(1,.no),(2,.no),(3,.no),(4,.no),(10,.ptr 219 0),(11,.no),(12,.ptr 221 0),(13,.no),(14,.ptr 245 0),(40,.no),(41,.no),(219,.cl []),(221,.cl []),(245,.cl []),(1000000,.cl [])] .o (.s .o (.s .o (.s .o (.s .o (.s .o (.j [(0,.ptr 1000000 0),(2,.no),(3,.no),(4,.no),(10,.ptr 219 0),(11,.no),(12,.ptr 221 0),(40,.no),(87,.no),(219,.cl []),(221,.cl []),(1000000,.cl [])] .o (.s .o (.s .o (.s (.s .o (.j [(0,.ptr 1000000 0),(10,.ptr 219 0),(11,.no),(12,.ptr 221 0),(219,.cl []),(221,.cl []),(1000000,.cl [])] .o .o)) (.s .o (.s .o (.s .o (.s .o (.j [(0,.ptr 1000000 0),(2,.no),(3,.no),(4,.no),(10,.ptr 219 0),(11,.no),(12,.ptr 221 0),(40,.no),(173,.no),(219,.cl []),(221,.cl []),(1000000,.cl [])] .o .o))))))))))))))))) .o))))))
def bt.F (n:Nat) (r:bA) (k:Int) (q:Int) (z:Int) (d:Int):OT:=dD PG (bt.E n) 48 bt.sg bt.h [(.ag (bA.cells r)),(.i .i64 k),(.i .i64 q),(.i .i64 z),(.i .i64 d)]
def bt.j1 (n:Nat) (x0:Int) (x1:Int) (x2:Int) (x3:Int) (x4:Int) (x5:Int) (x6:Int) (x7:Bool) (x8:Val) (x9:cq) (ia:List UInt8) (x11:Int) (xE:List UInt8) (xD:Int):OT:=fp PG (bt.E n) 48 bt.sg bt.h 703 [.pt,(.i .i64 x0),(.i .i64 x1),(.i .i64 x2),(.i .i64 x3),.pt,(.i .i64 x4),.pt,(.i .i64 x5),.pt,(.i .i64 x6),(.b x7),(.ag (Val.cells x8)),(.ag (cq.cells x9)),(.ag [(.sl .bs ia),(.i .i64 x11)]),(.ag [(.sl .bs xE),(.i .i64 xD)])]
def bt.j2 (n:Nat) (x0:Int) (x1:Val) (x2:cq) (x3:List UInt8) (x4:Int):OT:=fp PG (bt.E n) 48 bt.sg bt.h 127 [.pt,(.i .i64 x0),.pt,(.ag (Val.cells x1)),(.ag (cq.cells x2)),(.ag [(.sl .bs x3),(.i .i64 x4)])]
def bt.j3 (n:Nat) (x0:Int) (x1:Int) (x2:Int) (x3:Int) (x4:Int) (x5:Bool) (x6:Val) (x7:cq) (x8:List UInt8) (x9:Int):OT:=fp PG (bt.E n) 48 bt.sg bt.h 65215 [.pt,(.i .i64 x0),(.i .i64 x1),(.i .i64 x2),.pt,(.i .i64 x3),.pt,(.i .i64 x4),(.b x5),(.ag (Val.cells x6)),(.ag (cq.cells x7)),(.ag [(.sl .bs x8),(.i .i64 x9)])]
def bt.j4 (n:Nat) (x0:Int) (x1:Val) (x2:cq) (x3:List UInt8) (x4:Int):OT:=fp PG (bt.E n) 48 bt.sg bt.h 1834687 [.pt,.pt,(.i .i64 x0),.pt,(.ag (Val.cells x1)),(.ag (cq.cells x2)),(.ag [(.sl .bs x3),(.i .i64 x4)])]
def bt.j5 (n:Nat) (x0:Int) (x1:Int) (x2:Int) (x3:Int) (x4:Int) (x5:Bool) (x6:Val) (x7:cq) (x8:List UInt8) (x9:Int):OT:=fp PG (bt.E n) 48 bt.sg bt.h 16776895 [.pt,(.i .i64 x0),(.i .i64 x1),(.i .i64 x2),.pt,(.i .i64 x3),.pt,(.i .i64 x4),(.b x5),(.ag (Val.cells x6)),(.ag (cq.cells x7)),(.ag [(.sl .bs x8),(.i .i64 x9)])]
theorem bt.qy (n:Nat) (x0:Int) (x1:Int) (x2:Int) (x3:Int) (x4:Int) (x5:Int) (x6:Int) (x7:Bool) (x8:Val) (x9:cq) (ia:List UInt8) (x11:Int) (xE:List UInt8) (xD:Int) {ρ:OT} (K:∀(v1:bA) (h1:v1=((Bs.jA (bA.mk ia x11) x5))) (v2:UInt64) (h2:v2=((UInt64.ofNat (Bs.gD (Bs.fH (bA.mk ia x11) x5))))) (v3:Bool) (h3:v3=((Bs.can (bA.mk ia x11) x5))) (v4:Bool) (h4:v4=(cond (decide (x0=(8:Int))) (decide ((1:UInt64)<v2)) false)) (v5:bA) (h5:v5=((Bs.jA (bA.mk ia x11) ((8:Int))))) (v6:UInt64) (h6:v6=((UInt64.ofNat (Bs.gD (Bs.fH (bA.mk ia x11) ((8:Int))))))) (v7:Bool) (h7:v7=((Bs.can (bA.mk ia x11) ((8:Int))))) (v8:UInt64) (h8:v8=((UInt64.ofNat (Bs.gD (Bs.fH v5 ((8:Int))))))) (v9:bA) (h9:v9=((Bs.o0 (bA.mk ia x11) x5))) (v10:List UInt8) (iU:v10=((Bs.pW (bA.mk ia x11) x5))) (v11:Bool) (h11:v11=((Bs.qY (bA.mk ia x11) x5))),cond x7
  (ck (decide (1≤x5∧x5≤8∧0≤((bA.mk ia x11)).at_∧((bA.mk ia x11)).at_≤(((bA.mk ia x11)).b).length∧(((bA.mk ia x11)).b).length≤1099511627776)) (ck (!(decide (x0=(8:Int))) || (decide (x0=(8:Int)))) (ck (!(decide (x0=(8:Int))) || (decide (x0=(8:Int)))) (ck (!(decide (x0=(8:Int))) || (decide (x0=(8:Int)))) (cond v4
  (bt.j2 n x4 (Val.mk (Val.kind x8) v2 (Val.high x8) (Val.low x8) (Val.text x8) (Val.more x8) (Val.sub x8) (Val.bytes x8) (Val.kids x8)) ((cq.mk ((3:Int)) x1 [])) xE xD)
  (bt.j2 n x4 (Val.mk (Val.kind x8) v2 (Val.high x8) (Val.low x8) (Val.text x8) (Val.more x8) (Val.sub x8) (Val.bytes x8) (Val.kids x8)) x9 xE xD))))))
  (cond (decide (x6=(19:Int)))
  (ck (decide (1≤((8:Int))∧((8:Int))≤8∧0≤((bA.mk ia x11)).at_∧((bA.mk ia x11)).at_≤(((bA.mk ia x11)).b).length∧(((bA.mk ia x11)).b).length≤1099511627776)) (ck (decide (1≤((8:Int))∧((8:Int))≤8∧0≤(v5).at_∧(v5).at_≤((v5).b).length∧((v5).b).length≤1099511627776)) (bt.j2 n x4 (Val.mk (Val.kind x8) (Val.bits x8) v8 v6 (Val.text x8) (Val.more x8) (Val.sub x8) (Val.bytes x8) (Val.kids x8)) x9 xE xD)))
  (cond (decide (x6=(7:Int)))
  (ck (decide (0≤x5∧0≤((bA.mk ia x11)).at_∧((bA.mk ia x11)).at_≤(((bA.mk ia x11)).b).length∧(((bA.mk ia x11)).b).length≤1099511627776)) (bt.j2 n x4 (Val.mk (Val.kind x8) (Val.bits x8) (Val.high x8) (Val.low x8) (Val.text x8) (Val.more x8) (Val.sub x8) v10 (Val.kids x8)) x9 xE xD))
  (cond (decide (x6=(2:Int)))
  (bt.j3 n x1 x2 x3 x4 x6 (decide (x6=(2:Int))) x8 x9 xE xD)
  (cond (decide (x6=(13:Int)))
  (bt.j3 n x1 x2 x3 x4 x6 (decide (x6=(13:Int))) x8 x9 xE xD)
  (bt.j3 n x1 x2 x3 x4 x6 (decide (x6=(14:Int))) x8 x9 xE xD)))))=ρ):bt.j1 n x0 x1 x2 x3 x4 x5 x6 x7 x8 x9 ia x11 xE xD=ρ:=((dv _ _ _ _ _ _ _).trans (by kernel_rfl)).trans (K _ rfl _ rfl _ rfl _ rfl _ rfl _ rfl _ rfl _ rfl _ rfl _ rfl _ rfl)
theorem bt.jE (n:Nat) (x0:Int) (x1:Val) (x2:cq) (x3:List UInt8) (x4:Int):bt.j2 n x0 x1 x2 x3 x4=cond (!decide ((cq.err x2)=(0:Int)))
  (some [(.ag [(.i .i64 0),(.u64 0),(.u64 0),(.u64 0),(.s []),(.s []),(.i .i64 0),(.sl .bs ([]:List UInt8)),(.sl .fl ([]:List bx))]),(.i .i64 0),(.ag (cq.cells x2)),(.ag [(.sl .bs x3),(.i .i64 x4)])])
  (some [(.ag (Val.cells x1)),(.i .i64 x0),(.ag [(.i .i64 0),(.i .i64 0),(.sl .is ([]:List Int))]),(.ag [(.sl .bs x3),(.i .i64 x4)])]):=((dv _ _ _ _ _ _ _).trans (by kernel_rfl))
theorem bt.j3_in (n:Nat) (x0:Int) (x1:Int) (x2:Int) (x3:Int) (x4:Int) (x5:Bool) (x6:Val) (x7:cq) (x8:List UInt8) (x9:Int) {ρ:OT} (K:∀(v1:IY) (h1:v1=((Bs.gh ([],0) (Bs.text (((bA.mk x8 x9)).b) (x0).toNat (x1).toNat)).1)) (v2:Int) (h2:v2=(((Bs.gh ([],0) (Bs.text (((bA.mk x8 x9)).b) (x0).toNat (x1).toNat)).2:Int))) (v3:cq) (h3:v3=((Bs.iI (Bs.text (((bA.mk x8 x9)).b) (x0).toNat (x1).toNat)))) (v4:Bool) (h4:v4=(cond (decide ((cq.err v3)=(0:Int))) (decide ((IntKind.i64.wrap (x1 - v2))<(12:Int))) false)) (v5:IY) (h5:v5=((Bs.gh ([],0) (Bs.ended (((bA.mk x8 x9)).b) (x0).toNat (x1).toNat)).1)) (v6:Int) (h6:v6=(((Bs.gh ([],0) (Bs.ended (((bA.mk x8 x9)).b) (x0).toNat (x1).toNat)).2:Int))) (v7:cq) (h7:v7=((Bs.iI (Bs.ended (((bA.mk x8 x9)).b) (x0).toNat (x1).toNat)))) (v8:IY) (h8:v8=((Bs.gh ([],0) (Bs.ended ((((bA.mk x8 x9))).b) (v6).toNat (x1).toNat)).1)) (v9:Int) (h9:v9=(((Bs.gh ([],0) (Bs.ended ((((bA.mk x8 x9))).b) (v6).toNat (x1).toNat)).2:Int))) (v10:cq) (iU:v10=((Bs.iI (Bs.ended ((((bA.mk x8 x9))).b) (v6).toNat (x1).toNat)))) (v11:Int) (h11:v11=((Bs.gh (0,[],0) (Bs.binary (((bA.mk x8 x9)).b) (x0).toNat (x1).toNat)).1)) (v12:List UInt8) (vi:v12=((Bs.gh (0,[],0) (Bs.binary (((bA.mk x8 x9)).b) (x0).toNat (x1).toNat)).2.1)) (jY:Int) (tj:jY=(((Bs.gh (0,[],0) (Bs.binary (((bA.mk x8 x9)).b) (x0).toNat (x1).toNat)).2.2:Int))) (nR:cq) (zM:nR=((Bs.iI (Bs.binary (((bA.mk x8 x9)).b) (x0).toNat (x1).toNat)))),cond x5
  (ck (decide (0≤x0∧x0≤x1∧x1≤((((bA.mk x8 x9)).b).length:Int)∧(((bA.mk x8 x9)).b).length≤1000000000)) (bt.j2 n v2 (Val.mk (Val.kind x6) (Val.bits x6) (Val.high x6) (Val.low x6) v1 (Val.more x6) (Val.sub x6) (Val.bytes x6) (Val.kids x6)) v3 (bA.b ((bA.mk x8 x9))) (bA.at_ ((bA.mk x8 x9)))))
  (cond (decide (x4=(12:Int)))
  (ck (decide (0≤x0∧x0≤x1∧x1≤((((bA.mk x8 x9)).b).length:Int)∧(((bA.mk x8 x9)).b).length≤1000000000)) (ck (!(decide ((cq.err v3)=(0:Int))) || ((decide ((cq.err v3)=(0:Int)))&&(decide ((cq.err v3)=(0:Int))))) (ck (!(decide ((cq.err v3)=(0:Int))) || (decide ((cq.err v3)=(0:Int)))) (ck (!(decide ((cq.err v3)=(0:Int))) || (decide ((cq.err v3)=(0:Int)))) (cond v4
  (bt.j4 n v2 (Val.mk (Val.kind x6) (Val.bits x6) (Val.high x6) (Val.low x6) v1 (Val.more x6) (Val.sub x6) (Val.bytes x6) (Val.kids x6)) ((cq.mk ((2:Int)) v2 [])) (bA.b ((bA.mk x8 x9))) (bA.at_ ((bA.mk x8 x9))))
  (bt.j4 n v2 (Val.mk (Val.kind x6) (Val.bits x6) (Val.high x6) (Val.low x6) v1 (Val.more x6) (Val.sub x6) (Val.bytes x6) (Val.kids x6)) v3 (bA.b ((bA.mk x8 x9))) (bA.at_ ((bA.mk x8 x9)))))))))
  (cond (decide (x4=(11:Int)))
  (ck (decide (0≤x0∧x0≤x1∧x1≤((((bA.mk x8 x9)).b).length:Int)∧(((bA.mk x8 x9)).b).length≤1000000000)) (cond (decide ((cq.err v7)=(0:Int)))
  (ck (decide (0≤v6∧v6≤x1∧x1≤(((((bA.mk x8 x9))).b).length:Int)∧((((bA.mk x8 x9))).b).length≤1000000000)) (bt.j2 n v9 (Val.mk (Val.kind x6) (Val.bits x6) (Val.high x6) (Val.low x6) v5 v8 (Val.sub x6) (Val.bytes x6) (Val.kids x6)) v10 (bA.b (((bA.mk x8 x9)))) (bA.at_ (((bA.mk x8 x9))))))
  (bt.j2 n v6 (Val.mk (Val.kind x6) (Val.bits x6) (Val.high x6) (Val.low x6) v5 (Val.more x6) (Val.sub x6) (Val.bytes x6) (Val.kids x6)) v7 (bA.b ((bA.mk x8 x9))) (bA.at_ ((bA.mk x8 x9))))))
  (cond (decide (x4=(5:Int)))
  (ck (decide (0≤x0∧x0+5≤x1∧x1≤((((bA.mk x8 x9)).b).length:Int)∧(((bA.mk x8 x9)).b).length≤1000000000)) (bt.j2 n jY (Val.mk (Val.kind x6) (Val.bits x6) (Val.high x6) (Val.low x6) (Val.text x6) (Val.more x6) v11 v12 (Val.kids x6)) nR (bA.b ((bA.mk x8 x9))) (bA.at_ ((bA.mk x8 x9)))))
  (cond (decide (x4=(3:Int)))
  (bt.j5 n x0 x1 x2 x3 x4 (decide (x4=(3:Int))) x6 x7 x8 x9)
  (bt.j5 n x0 x1 x2 x3 x4 (decide (x4=(4:Int))) x6 x7 x8 x9)))))=ρ):bt.j3 n x0 x1 x2 x3 x4 x5 x6 x7 x8 x9=ρ:=((dv _ _ _ _ _ _ _).trans (by kernel_rfl)).trans (K _ rfl _ rfl _ rfl _ rfl _ rfl _ rfl _ rfl _ rfl _ rfl _ rfl _ rfl _ rfl _ rfl _ rfl)
theorem bt.s7 (n:Nat) (x0:Int) (x1:Val) (x2:cq) (x3:List UInt8) (x4:Int) {ρ:OT} (K:∀(v1:Int) (h1:v1=(IntKind.i64.wrap (x0+(12:Int)))) (v2:List UInt8) (h2:v2=(List.drop (x0).toNat (List.take (v1).toNat x3))),cond (decide ((cq.err x2)=(0:Int)))
  (ck (dV x0 v1 (x3).length) (ck (eO (v2).length 1) (bt.j2 n v1 (Val.mk (Val.kind x1) (Val.bits x1) (Val.high x1) (Val.low x1) (Val.text x1) (Val.more x1) (Val.sub x1) (v2) (Val.kids x1)) x2 x3 x4)))
  (bt.j2 n x0 x1 x2 x3 x4)=ρ):bt.j4 n x0 x1 x2 x3 x4=ρ:=((dv _ _ _ _ _ _ _).trans (by kernel_rfl)).trans (K _ rfl _ rfl)
theorem bt.Cv (n:Nat) (x0:Int) (x1:Int) (x2:Int) (x3:Int) (x4:Int) (x5:Bool) (x6:Val) (x7:cq) (x8:List UInt8) (x9:Int) {ρ:OT} (K:∀(v1:Int) (h1:v1=(IntKind.i64.wrap (x2+(1:Int)))) (v2:List bx) (h2:v2=((Bs.gh ([],0) (Bs.doc (((bA.mk x8 x9)).at_ - v1).toNat (((bA.mk x8 x9)).b) (x0).toNat (x1).toNat ((0:Int)))).1)) (v3:Int) (h3:v3=(((Bs.gh ([],0) (Bs.doc (((bA.mk x8 x9)).at_ - v1).toNat (((bA.mk x8 x9)).b) (x0).toNat (x1).toNat ((0:Int)))).2:Int))) (v4:cq) (h4:v4=((Bs.iI (Bs.doc (((bA.mk x8 x9)).at_ - v1).toNat (((bA.mk x8 x9)).b) (x0).toNat (x1).toNat ((0:Int)))))) (v5:IY) (h5:v5=((Bs.ew (Bs.doc (((bA.mk x8 x9)).at_ - (x2+1)).toNat) (((bA.mk x8 x9)).b) (x0).toNat (x1).toNat).1)) (v6:List bx) (h6:v6=((Bs.gh ([],0) (Bs.ew (Bs.doc (((bA.mk x8 x9)).at_ - (x2+1)).toNat) (((bA.mk x8 x9)).b) (x0).toNat (x1).toNat).2).1)) (v7:Int) (h7:v7=(((Bs.gh ([],0) (Bs.ew (Bs.doc (((bA.mk x8 x9)).at_ - (x2+1)).toNat) (((bA.mk x8 x9)).b) (x0).toNat (x1).toNat).2).2:Int))) (v8:cq) (h8:v8=((Bs.iI (Bs.ew (Bs.doc (((bA.mk x8 x9)).at_ - (x2+1)).toNat) (((bA.mk x8 x9)).b) (x0).toNat (x1).toNat).2))),cond x5
  (ck ((decide (0≤x0∧x0≤x1∧x1≤((((bA.mk x8 x9)).b).length:Int)∧(((bA.mk x8 x9)).b).length≤1000000000∧0≤v1∧v1≤1000∧((bA.mk x8 x9)).at_≤1000))&&decide ((3 * (((bA.mk x8 x9)).at_ - v1).toNat+2)<n)) (bt.j2 n v3 (Val.mk (Val.kind x6) (Val.bits x6) (Val.high x6) (Val.low x6) (Val.text x6) (Val.more x6) (Val.sub x6) (Val.bytes x6) v2) v4 (bA.b ((bA.mk x8 x9))) (bA.at_ ((bA.mk x8 x9)))))
  (cond (decide (x4=(15:Int)))
  (ck ((decide (0≤x0∧x0+4≤x1∧x1≤((((bA.mk x8 x9)).b).length:Int)∧(((bA.mk x8 x9)).b).length≤1000000000∧0≤x2∧x2≤1000∧((bA.mk x8 x9)).at_≤1000∧x2<((bA.mk x8 x9)).at_))&&decide ((3 * (((bA.mk x8 x9)).at_ - x2).toNat)<n)) (bt.j2 n v7 (Val.mk (Val.kind x6) (Val.bits x6) (Val.high x6) (Val.low x6) v5 (Val.more x6) (Val.sub x6) (Val.bytes x6) v6) v8 (bA.b ((bA.mk x8 x9))) (bA.at_ ((bA.mk x8 x9)))))
  (bt.j2 n x3 x6 x7 x8 x9))=ρ):bt.j5 n x0 x1 x2 x3 x4 x5 x6 x7 x8 x9=ρ:=((dv _ _ _ _ _ _ _).trans (by kernel_rfl)).trans (K _ rfl _ rfl _ rfl _ rfl _ rfl _ rfl _ rfl _ rfl)
theorem bt.cR (n:Nat) (r:bA) (k:Int) (q:Int) (z:Int) (d:Int) {ρ:OT} (K:∀(v1:Int) (h1:v1=(IntKind.i64.wrap (q+(((Bs.fixed k:Nat):Int))))) (v2:List UInt8) (h2:v2=(List.drop (q).toNat (List.take (v1).toNat (bA.b r)))),cond (decide ((IntKind.i64.wrap (z - q))<(((Bs.fixed k:Nat):Int))))
  (some [(.ag [(.i .i64 0),(.u64 0),(.u64 0),(.u64 0),(.s []),(.s []),(.i .i64 0),(.sl .bs ([]:List UInt8)),(.sl .fl ([]:List bx))]),(.i .i64 0),(.ag (cq.cells ((cq.mk ((2:Int)) q [])))),(.ag (bA.cells r))])
  (ck (dV q v1 ((bA.b r)).length) (ck (decide ((v2).length≤1099511627776)) (cond (decide (k=(1:Int)))
  (bt.j1 n k q z d v1 (((Bs.fixed k:Nat):Int)) k (decide (k=(1:Int))) (Val.mk k 0 0 0 [] [] 0 [] []) (cq.mk 0 0 []) (bA.b ((bA.mk v2 0))) (bA.at_ ((bA.mk v2 0))) (bA.b r) (bA.at_ r))
  (cond (decide (k=(9:Int)))
  (bt.j1 n k q z d v1 (((Bs.fixed k:Nat):Int)) k (decide (k=(9:Int))) (Val.mk k 0 0 0 [] [] 0 [] []) (cq.mk 0 0 []) (bA.b ((bA.mk v2 0))) (bA.at_ ((bA.mk v2 0))) (bA.b r) (bA.at_ r))
  (cond (decide (k=(17:Int)))
  (bt.j1 n k q z d v1 (((Bs.fixed k:Nat):Int)) k (decide (k=(17:Int))) (Val.mk k 0 0 0 [] [] 0 [] []) (cq.mk 0 0 []) (bA.b ((bA.mk v2 0))) (bA.at_ ((bA.mk v2 0))) (bA.b r) (bA.at_ r))
  (cond (decide (k=(18:Int)))
  (bt.j1 n k q z d v1 (((Bs.fixed k:Nat):Int)) k (decide (k=(18:Int))) (Val.mk k 0 0 0 [] [] 0 [] []) (cq.mk 0 0 []) (bA.b ((bA.mk v2 0))) (bA.at_ ((bA.mk v2 0))) (bA.b r) (bA.at_ r))
  (cond (decide (k=(16:Int)))
  (bt.j1 n k q z d v1 (((Bs.fixed k:Nat):Int)) k (decide (k=(16:Int))) (Val.mk k 0 0 0 [] [] 0 [] []) (cq.mk 0 0 []) (bA.b ((bA.mk v2 0))) (bA.at_ ((bA.mk v2 0))) (bA.b r) (bA.at_ r))
  (bt.j1 n k q z d v1 (((Bs.fixed k:Nat):Int)) k (decide (k=(8:Int))) (Val.mk k 0 0 0 [] [] 0 [] []) (cq.mk 0 0 []) (bA.b ((bA.mk v2 0))) (bA.at_ ((bA.mk v2 0))) (bA.b r) (bA.at_ r)))))))))=ρ):bt.F n r k q z d=ρ:=Eq.trans (by kernel_rfl) (K _ rfl _ rfl)
def bz.E (n:Nat):cz:=dH fJ zs [(44,(bW.c,bW.sg)),(45,(cd.c,cd.sg)),(46,(cH.c,cH.sg)),(47,(cG.c,cG.sg)),(48,(bt.cn n,bt.sg))]
def bz.h:Hint := .s .o (.sc [(0,[(0,.ptr 1000000 0),(10,.cM 800000),(11,.no),(12,.ptr 165 0),(13,.no),(165,.cl []),(1000000,.cl []),(800000,.pv)]),(1,[(0,.ptr 1000000 0),(3,.no),(10,.cM 800000),(11,.no),(12,.ptr 165 0),(13,.no),(17,.ptr 170 0),(165,.cl []),(170,.cl []),(1000000,.cl []),(800000,.pv)])] .o)
def bz.F (n:Nat) (r:bA) (p:Int) (z:Int) (d:Int) (fZ:Int):OT:=dD PG (bz.E n) 25 bz.sg bz.h [(.ag (bA.cells r)),(.i .i64 p),(.i .i64 z),(.i .i64 d),(.i .i64 fZ)]
def bz.g1 (n:Nat) (x0:Int) (x1:Int) (x2:cq) (x3:List UInt8) (x4:Int) (x5:List bx):OT:=jD PG (bz.E n) 25 bz.sg bz.h 3 0 [.pt,.pt,(.i .i64 x0),.pt,(.i .i64 x1),(.ag (cq.cells x2)),(.ag [(.sl .bs x3),(.i .i64 x4)]),(.sl .fl x5)]
def bz.g2 (n:Nat) (x0:Int) (x1:Int) (x2:Int) (x3:cq) (x4:Val) (x5:List UInt8) (x6:Int) (x7:List bx):OT:=jD PG (bz.E n) 25 bz.sg bz.h 3 1 [.pt,(.i .i64 x0),.pt,(.i .i64 x1),.pt,(.i .i64 x2),.pt,(.ag (cq.cells x3)),(.ag (Val.cells x4)),(.ag [(.sl .bs x5),(.i .i64 x6)]),(.sl .fl x7)]
theorem bz.De (n:Nat) (x0:Int) (x1:Int) (x2:cq) (x3:List UInt8) (x4:Int) (x5:List bx) {ρ:OT} (K:∀(v1:UInt8) (h1:v1=(List.getD x3 (x1).toNat (0:UInt8))),ck (dj x1 (x3).length) (cond (!decide (v1=(0:UInt8)))
  (some [(.sl .fl ([]:List bx)),(.i .i64 (0:Int)),(.ag (cq.cells ((cq.mk ((3:Int)) x1 [])))),(.ag [(.sl .bs x3),(.i .i64 x4)])])
  (some [(.sl .fl x5),(.i .i64 x0),(.ag [(.i .i64 (0:Int)),(.i .i64 (0:Int)),(.sl .is ([]:List Int))]),(.ag [(.sl .bs x3),(.i .i64 x4)])]))=ρ):bz.g1 n x0 x1 x2 x3 x4 x5=ρ:=((gS _ _ _ _ _ _ _ _).trans (by kernel_rfl)).trans (K _ rfl)
theorem bz.zN (n:Nat) (x0:Int) (x1:Int) (x2:Int) (x3:cq) (x4:Val) (x5:List UInt8) (x6:Int) (x7:List bx) {ρ:OT} (K:∀(v1:Int) (h1:v1=(IntKind.i64.wrap (x1 - (1:Int)))) (v2:UInt8) (h2:v2=(List.getD x5 (x2).toNat (0:UInt8))) (v3:Int) (h3:v3=(IntKind.i64.wrap ((v2).toNat:Int))) (v4:Int) (h4:v4=(IntKind.i64.wrap (x2+(1:Int)))) (v5:IY) (h5:v5=((Bs.ctext ((List.take (v1).toNat x5)) v4).1)) (v6:Int) (h6:v6=((Bs.ctext ((List.take (v1).toNat x5)) v4).2.1)) (v7:Int) (h7:v7=((Bs.ctext ((List.take (v1).toNat x5)) v4).2.2)) (v8:Val) (h8:v8=((Bs.gh (Bs.cS 0,0) (Bs.eM (Bs.doc (((bA.mk x5 x6)).at_ - (x0+1)).toNat) (((bA.mk x5 x6)).b) v3 (v6).toNat (v1).toNat)).1)) (v9:Int) (h9:v9=(((Bs.gh (Bs.cS 0,0) (Bs.eM (Bs.doc (((bA.mk x5 x6)).at_ - (x0+1)).toNat) (((bA.mk x5 x6)).b) v3 (v6).toNat (v1).toNat)).2:Int))) (v10:cq) (iU:v10=((Bs.iI (Bs.eM (Bs.doc (((bA.mk x5 x6)).at_ - (x0+1)).toNat) (((bA.mk x5 x6)).b) v3 (v6).toNat (v1).toNat)))) (v11:List bx) (h11:v11=([(bx.mk v5 (Val.kind v8) (Val.bits v8) (Val.high v8) (Val.low v8) (Val.text v8) (Val.more v8) (Val.sub v8) (Val.bytes v8) (Val.kids v8))]:List bx)),cond (decide (x2=v1))
  (bz.g1 n x1 x2 x3 x5 x6 x7)
  (ck (dj x2 (x5).length) (cond (decide (v2=(0:UInt8)))
  (some [(.sl .fl ([]:List bx)),(.i .i64 (0:Int)),(.ag (cq.cells ((cq.mk ((3:Int)) x2 [])))),(.ag [(.sl .bs x5),(.i .i64 x6)])])
  (ck (dj x2 (x5).length) (cond (decide ((Tree.name v3)=([]:IY)))
  (some [(.sl .fl ([]:List bx)),(.i .i64 (0:Int)),(.ag (cq.cells ((cq.mk ((5:Int)) x2 [])))),(.ag [(.sl .bs x5),(.i .i64 x6)])])
  (ck (dV 0 v1 (x5).length) (ck (decide ((((List.take (v1).toNat x5))).length≤1099511627776)) (cond (!decide (v7=(0:Int)))
  (some [(.sl .fl ([]:List bx)),(.i .i64 (0:Int)),(.ag (cq.cells ((cq.mk v7 v4 [])))),(.ag [(.sl .bs x5),(.i .i64 x6)])])
  (ck ((decide (0≤v6∧v6≤v1∧v1≤((((bA.mk x5 x6)).b).length:Int)∧(((bA.mk x5 x6)).b).length≤1000000000∧0≤x0∧x0≤1000∧((bA.mk x5 x6)).at_≤1000∧x0<((bA.mk x5 x6)).at_))&&decide ((3 * (((bA.mk x5 x6)).at_ - x0).toNat+1)<n)) (cond (!decide ((cq.err v10)=(0:Int)))
  (some [(.sl .fl ([]:List bx)),(.i .i64 (0:Int)),(.ag (cq.cells v10)),(.ag (bA.cells ((bA.mk x5 x6))))])
  (ck (eO ((x7).length+(v11).length) 136) (bz.g2 n x0 x1 v9 v10 v8 (bA.b ((bA.mk x5 x6))) (bA.at_ ((bA.mk x5 x6))) (x7++v11))))))))))))=ρ):bz.g2 n x0 x1 x2 x3 x4 x5 x6 x7=ρ:=((gS _ _ _ _ _ _ _ _).trans (by kernel_rfl)).trans (K _ rfl _ rfl _ rfl _ rfl _ rfl _ rfl _ rfl _ rfl _ rfl _ rfl _ rfl)
theorem bz.cR (n:Nat) (r:bA) (p:Int) (z:Int) (d:Int) (fZ:Int) {ρ:OT} (K:∀(v1:Int) (h1:v1=(IntKind.i64.wrap (p+((Bs.cU ((r).b) (p).toNat))))) (v2:Int) (h2:v2=(IntKind.i64.wrap (p+(4:Int)))) (v3:Bool) (h3:v3=(cond (decide (((Bs.cU ((r).b) (p).toNat))<(5:Int))) true (decide ((IntKind.i64.wrap (z - p))<((Bs.cU ((r).b) (p).toNat)))))) (v4:Bool) (h4:v4=((!v3)&&(decide (fZ=(2:Int))))) (v5:Bool) (h5:v5=(cond (decide (fZ=(2:Int))) (!decide (v1=z)) false)) (v6:Bool) (h6:v6=(cond (decide (fZ=(1:Int))) (decide (v1<z)) false)) (v7:Int) (h7:v7=(IntKind.i64.wrap (v1 - (1:Int)))) (v8:UInt8) (h8:v8=(List.getD (bA.b (r)) (v2).toNat (0:UInt8))) (v9:Int) (h9:v9=(IntKind.i64.wrap ((v8).toNat:Int))) (v10:List UInt8) (iU:v10=(List.take (v7).toNat (bA.b (r)))) (v11:Int) (h11:v11=(IntKind.i64.wrap (v2+(1:Int)))) (v12:cq) (vi:v12=((cq.mk (((Bs.ctext v10 v11).2.2)) v11 []))) (jY:Val) (tj:jY=((Bs.gh (Bs.cS 0,0) (Bs.eM (Bs.doc (((r)).at_ - (d+1)).toNat) (((r)).b) v9 ((((Bs.ctext v10 v11).2.1))).toNat (v7).toNat)).1)) (nR:Int) (zM:nR=(((Bs.gh (Bs.cS 0,0) (Bs.eM (Bs.doc (((r)).at_ - (d+1)).toNat) (((r)).b) v9 ((((Bs.ctext v10 v11).2.1))).toNat (v7).toNat)).2:Int))) (rB:cq) (AX:rB=((Bs.iI (Bs.eM (Bs.doc (((r)).at_ - (d+1)).toNat) (((r)).b) v9 ((((Bs.ctext v10 v11).2.1))).toNat (v7).toNat)))) (tM:List bx) (B4:tM=([(bx.mk ((Bs.ctext v10 v11).1) (Val.kind jY) (Val.bits jY) (Val.high jY) (Val.low jY) (Val.text jY) (Val.more jY) (Val.sub jY) (Val.bytes jY) (Val.kids jY))]:List bx)),cond (decide ((bA.at_ r)≤d))
  (some [(.sl .fl ([]:List bx)),(.i .i64 0),(.ag (cq.cells ((cq.mk ((8:Int)) p [])))),(.ag (bA.cells r))])
  (cond (decide ((IntKind.i64.wrap (z - p))<(4:Int)))
  (some [(.sl .fl ([]:List bx)),(.i .i64 0),(.ag (cq.cells ((cq.mk ((2:Int)) p [])))),(.ag (bA.cells r))])
  (ck (decide (0≤p∧p+4≤(((r).b).length:Int)∧((r).b).length≤1000000000)) (ck (!(!(decide (((Bs.cU ((r).b) (p).toNat))<(5:Int)))) || ((!(decide (((Bs.cU ((r).b) (p).toNat))<(5:Int))))&&(!(decide (((Bs.cU ((r).b) (p).toNat))<(5:Int)))))) (ck (!(!(decide (((Bs.cU ((r).b) (p).toNat))<(5:Int)))) || ((!(decide (((Bs.cU ((r).b) (p).toNat))<(5:Int))))&&(!(decide (((Bs.cU ((r).b) (p).toNat))<(5:Int)))))) (ck ((decide (((Bs.cU ((r).b) (p).toNat))<(5:Int))) || (!(decide (((Bs.cU ((r).b) (p).toNat))<(5:Int))))) (ck (!(!v3) || (!v3)) (ck (!(!v3) || (!v3)) (ck (!v4 || (v4&&v4)) (ck (!(!v3) || ((!v3)&&(!(decide (fZ=(2:Int))) || v4))) (ck (v3 || (!v3)) (cond (cond v3 true v5)
  (some [(.sl .fl ([]:List bx)),(.i .i64 0),(.ag (cq.cells ((cq.mk ((6:Int)) p [])))),(.ag (bA.cells (r)))])
  (ck (!(decide (fZ=(1:Int))) || ((decide (fZ=(1:Int)))&&(decide (fZ=(1:Int))))) (ck (!(decide (fZ=(1:Int))) || (decide (fZ=(1:Int)))) (cond v6
  (some [(.sl .fl ([]:List bx)),(.i .i64 0),(.ag (cq.cells ((cq.mk ((7:Int)) v1 [])))),(.ag (bA.cells (r)))])
  (cond (decide (v2=v7))
  (bz.g1 n v1 v2 (cq.mk 0 0 []) (bA.b (r)) (bA.at_ (r)) ([]:List bx))
  (ck (dj v2 ((bA.b (r))).length) (cond (decide (v8=(0:UInt8)))
  (some [(.sl .fl ([]:List bx)),(.i .i64 0),(.ag (cq.cells ((cq.mk ((3:Int)) v2 [])))),(.ag (bA.cells (r)))])
  (ck (dj v2 ((bA.b (r))).length) (cond (decide ((Tree.name v9)=([]:IY)))
  (some [(.sl .fl ([]:List bx)),(.i .i64 0),(.ag (cq.cells ((cq.mk ((5:Int)) v2 [])))),(.ag (bA.cells (r)))])
  (ck (dV 0 v7 ((bA.b (r))).length) (ck (decide ((v10).length≤1099511627776)) (cond (!decide (((Bs.ctext v10 v11).2.2)=(0:Int)))
  (some [(.sl .fl ([]:List bx)),(.i .i64 0),(.ag (cq.cells v12)),(.ag (bA.cells (r)))])
  (ck ((decide (0≤(((Bs.ctext v10 v11).2.1))∧(((Bs.ctext v10 v11).2.1))≤v7∧v7≤((((r)).b).length:Int)∧(((r)).b).length≤1000000000∧0≤d∧d≤1000∧((r)).at_≤1000∧d<((r)).at_))&&decide ((3 * (((r)).at_ - d).toNat+1)<n)) (cond (!decide ((cq.err rB)=(0:Int)))
  (some [(.sl .fl ([]:List bx)),(.i .i64 0),(.ag (cq.cells rB)),(.ag (bA.cells ((r))))])
  (ck (eO (tM).length 136) (bz.g2 n d v1 nR rB jY (bA.b ((r))) (bA.at_ ((r))) tM))))))))))))))))))))))))))=ρ):bz.F n r p z d fZ=ρ:=Eq.trans (by kernel_rfl) (K _ rfl _ rfl _ rfl _ rfl _ rfl _ rfl _ rfl _ rfl _ rfl _ rfl _ rfl _ rfl _ rfl _ rfl _ rfl _ rfl)
def db.E:cz:=dH fJ zs [(24,(dY.c,dY.sg)),(25,(bz.c,bz.sg))]
def db.h:Hint := .o
def db.F (b:List UInt8) (l:eK):OT:=dD PG db.E 8 db.sg db.h [(.sl .bs b),(.ag (eK.cells l))]
theorem db.cR (b:List UInt8) (l:eK) {ρ:OT} (K:∀(v1:List bx) (h1:v1=((Bs.gh ([],0) (Bs.doc (((bA.mk b (eK.depth l))).at_ - ((0:Int))).toNat (((bA.mk b (eK.depth l))).b) (((0:Int))).toNat ((((b).length:Int))).toNat ((1:Int)))).1)) (v2:Int) (h2:v2=(((Bs.gh ([],0) (Bs.doc (((bA.mk b (eK.depth l))).at_ - ((0:Int))).toNat (((bA.mk b (eK.depth l))).b) (((0:Int))).toNat ((((b).length:Int))).toNat ((1:Int)))).2:Int))) (v3:cq) (h3:v3=((Bs.iI (Bs.doc (((bA.mk b (eK.depth l))).at_ - ((0:Int))).toNat (((bA.mk b (eK.depth l))).b) (((0:Int))).toNat ((((b).length:Int))).toNat ((1:Int)))))),cond (!(Bs.may l))
  (some [(.ag [(.i .i64 0),(.u64 0),(.u64 0),(.u64 0),(.s []),(.s []),(.i .i64 0),(.sl .bs ([]:List UInt8)),(.sl .fl ([]:List bx))]),(.ag [(.i .i64 1),(.i .i64 0),(.sl .is ([]:List Int))])])
  (cond (decide ((eK.size l)<((b).length:Int)))
  (some [(.ag [(.i .i64 0),(.u64 0),(.u64 0),(.u64 0),(.s []),(.s []),(.i .i64 0),(.sl .bs ([]:List UInt8)),(.sl .fl ([]:List bx))]),(.ag [(.i .i64 9),(.i .i64 0),(.sl .is ([]:List Int))])])
  (ck (decide (0≤((0:Int))∧((0:Int))≤(((b).length:Int))∧(((b).length:Int))≤((((bA.mk b (eK.depth l))).b).length:Int)∧(((bA.mk b (eK.depth l))).b).length≤1000000000∧0≤((0:Int))∧((0:Int))≤1000∧((bA.mk b (eK.depth l))).at_≤1000)) (cond (!decide ((cq.err v3)=(0:Int)))
  (some [(.ag [(.i .i64 0),(.u64 0),(.u64 0),(.u64 0),(.s []),(.s []),(.i .i64 0),(.sl .bs ([]:List UInt8)),(.sl .fl ([]:List bx))]),(.ag (cq.cells v3))])
  (some [(.ag [(.i .i64 3),(.u64 0),(.u64 0),(.u64 0),(.s []),(.s []),(.i .i64 0),(.sl .bs ([]:List UInt8)),(.sl .fl v1)]),(.ag [(.i .i64 0),(.i .i64 0),(.sl .is ([]:List Int))])]))))=ρ):db.F b l=ρ:=Eq.trans (by kernel_rfl) (K _ rfl _ rfl _ rfl)
def Jc.E:cz:=dH fJ zs []
def Jc.h:Hint := .o
def Jc.F  : OT:=dD PG Jc.E 20 Jc.sg Jc.h []
theorem Jc.fh  : Jc.F  = some [(.ag [(.i .i64 200),(.i .i64 65536),(.i .i64 262144)])]:=by kernel_rfl
def cY.E:cz:=dH fJ zs []
def cY.h:Hint := .o
def cY.F (b:List UInt8) (at_:Int):OT:=dD PG cY.E 33 cY.sg cY.h [(.sl .bs b),(.i .i64 at_)]
theorem cY.cR (b:List UInt8) (at_:Int) {ρ:OT} (K:∀(v1:Int) (h1:v1=(IntKind.i64.wrap (((b).length:Int) - (4:Int)))) (v2:Bool) (h2:v2=(cond (decide (at_<(0:Int))) true (decide (v1<at_)))) (v3:UInt8) (h3:v3=(List.getD b (at_).toNat (0:UInt8))) (v4:UInt32) (h4:v4=(UInt32.ofInt ((v3).toNat:Int))) (v5:Int) (h5:v5=(IntKind.i64.wrap (at_+(1:Int)))) (v6:UInt8) (h6:v6=(List.getD b (v5).toNat (0:UInt8))) (v7:UInt32) (h7:v7=(UInt32.ofInt ((v6).toNat:Int))) (v8:UInt32) (h8:v8=(lL v7 (((8:UInt64)).toNat))) (v9:Int) (h9:v9=(IntKind.i64.wrap (at_+(2:Int)))) (v10:UInt8) (iU:v10=(List.getD b (v9).toNat (0:UInt8))) (v11:UInt32) (h11:v11=(UInt32.ofInt ((v10).toNat:Int))) (v12:UInt32) (vi:v12=(lL v11 (((16:UInt64)).toNat))) (jY:Int) (tj:jY=(IntKind.i64.wrap (at_+(3:Int)))) (nR:UInt8) (zM:nR=(List.getD b (jY).toNat (0:UInt8))) (rB:UInt32) (AX:rB=(UInt32.ofInt ((nR).toNat:Int))) (tM:UInt32) (B4:tM=(lL rB (((24:UInt64)).toNat))) (zm:UInt32) (Da:zm=(((v4 ||| v8) ||| v12) ||| tM)) (zl:Int) (C9:zl=(IntKind.i32.wrap ((zm).toNat:Int))),ck (!(!(decide (at_<(0:Int)))) || (!(decide (at_<(0:Int))))) (ck (!(!(decide (at_<(0:Int)))) || (!(decide (at_<(0:Int))))) (ck (!(!(decide (at_<(0:Int)))) || ((!(decide (at_<(0:Int))))&&(!(decide (at_<(0:Int)))))) (ck ((decide (at_<(0:Int))) || (!(decide (at_<(0:Int))))) (cond v2
  (some [(.i .i64 0),(.b false)])
  (ck (dj at_ (b).length) (ck (dj v5 (b).length) (ck (dj v9 (b).length) (ck (dj jY (b).length) (some [(.i .i64 (IntKind.i64.wrap zl)),(.b true)])))))))))=ρ):cY.F b at_=ρ:=Eq.trans (by kernel_rfl) (K _ rfl _ rfl _ rfl _ rfl _ rfl _ rfl _ rfl _ rfl _ rfl _ rfl _ rfl _ rfl _ rfl _ rfl _ rfl _ rfl _ rfl _ rfl)
def dZ.E:cz:=dH fJ zs [(24,(dY.c,dY.sg))]
def dZ.h:Hint := .o
def dZ.F (f:Int) (l:eK):OT:=dD PG dZ.E 40 dZ.sg dZ.h [(.i .i64 f),(.ag (eK.cells l))]
theorem dZ.cR (f:Int) (l:eK) {ρ:OT} (K:∀(v1:Bool) (h1:v1=(cond (decide ((1:Int)≤f)) (decide (f≤(5:Int))) false)),ck (!(decide ((1:Int)≤f)) || (decide ((1:Int)≤f))) (ck (!(decide ((1:Int)≤f)) || (decide ((1:Int)≤f))) (ck (!v1 || v1) (ck (!v1 || v1) (some [(.b (cond v1 (Bs.may l) false))]))))=ρ):dZ.F f l=ρ:=Eq.trans (by kernel_rfl) (K _ rfl)
def ei.E:cz:=dH fJ zs [(8,(db.c,db.sg)),(40,(dZ.c,dZ.sg))]
def ei.h:Hint := .o
def ei.F (f:Int) (l:eK) (b:List UInt8):OT:=dD PG ei.E 41 ei.sg ei.h [(.i .i64 f),(.ag (eK.cells l)),(.sl .bs b)]
theorem ei.cR (f:Int) (l:eK) (b:List UInt8) {ρ:OT} (K:∀(v1:Bool) (h1:v1=(decide (1≤f∧f≤5)&&Bs.may l)) (v2:Bool) (h2:v2=(cond (decide (f=(2:Int))) true (decide (f=(3:Int))))),cond (!v1)
  (some [(.ag [(.i .i64 0),(.u64 0),(.u64 0),(.u64 0),(.s []),(.s []),(.i .i64 0),(.sl .bs ([]:List UInt8)),(.sl .fl ([]:List bx))]),(.ag [(.i .i64 1),(.i .i64 0),(.sl .is ([]:List Int))])])
  (cond (decide (f=(1:Int)))
  (ck (decide ((b).length≤1000000000)) (some [(.ag (Val.cells ((Bs.nN (Bs.decode b l))))),(.ag (cq.cells ((Bs.iI (Bs.decode b l)))))]))
  (cond (decide ((eK.out l)<((b).length:Int)))
  (some [(.ag [(.i .i64 0),(.u64 0),(.u64 0),(.u64 0),(.s []),(.s []),(.i .i64 0),(.sl .bs ([]:List UInt8)),(.sl .fl ([]:List bx))]),(.ag [(.i .i64 9),(.i .i64 0),(.sl .is ([]:List Int))])])
  (ck (!(!(decide (f=(2:Int)))) || (!(decide (f=(2:Int))))) (ck ((decide (f=(2:Int))) || (!(decide (f=(2:Int))))) (cond v2
  (none)
  (none))))))=ρ):ei.F f l b=ρ:=Eq.trans (by kernel_rfl) (K _ rfl _ rfl)
def eh.E:cz:=dH fJ zs [(9,(cZ.c,cZ.sg))]
def eh.h:Hint := .o
def eh.F (f:Int) (v:Val):OT:=dD PG eh.E 64 eh.sg eh.h [(.i .i64 f),(.ag (Val.cells v))]
theorem eh.cR (f:Int) (v:Val) {ρ:OT} (K:∀(v1:cq) (h1:v1=((cq.mk (Bs.encode v).2.1 0 (Bs.encode v).2.2))),cond (decide (f=(1:Int)))
  (ck (decide (bx.dk (bx.of [] v)≤10000000000)) (some [(.sl .bs ((Bs.encode v).1)),(.ag (cq.cells v1))]))
  (cond (decide (f=(2:Int)))
  (none)
  (cond (decide (f=(3:Int)))
  (none)
  (cond (decide (f=(4:Int)))
  (none)
  (none))))=ρ):eh.F f v=ρ:=Eq.trans (by kernel_rfl) (K _ rfl)
def dE.E:cz:=dH fJ zs [(40,(dZ.c,dZ.sg)),(64,(eh.c,eh.sg))]
def dE.h:Hint := .o
def dE.F (f:Int) (l:eK) (v:Val):OT:=dD PG dE.E 42 dE.sg dE.h [(.i .i64 f),(.ag (eK.cells l)),(.ag (Val.cells v))]
theorem dE.cR (f:Int) (l:eK) (v:Val) {ρ:OT} (K:∀(v1:Bool) (h1:v1=(decide (1≤f∧f≤5)&&Bs.may l)) (v2:cq) (h2:v2=((cq.mk (Bs.encode v).2.1 0 (Bs.encode v).2.2))) (v3:Int) (h3:v3=((((Bs.encode v).1)).length:Int)),cond (!v1)
  (some [(.sl .bs ([]:List UInt8)),(.sl .mh ([]:List (List Int))),(.ag [(.i .i64 1),(.i .i64 0),(.sl .is ([]:List Int))])])
  (ck (decide (f=1∧bx.dk (bx.of [] v)≤10000000000)) (cond (!decide ((cq.err v2)=(0:Int)))
  (some [(.sl .bs ([]:List UInt8)),(.sl .mh ([]:List (List Int))),(.ag (cq.cells v2))])
  (cond (decide ((eK.out l)<v3))
  (some [(.sl .bs ([]:List UInt8)),(.sl .mh ([]:List (List Int))),(.ag [(.i .i64 9),(.i .i64 0),(.sl .is ([]:List Int))])])
  (cond (decide (f=(3:Int)))
  (none)
  (some [(.sl .bs ((Bs.encode v).1)),(.sl .mh ([]:List (List Int))),(.ag [(.i .i64 0),(.i .i64 0),(.sl .is ([]:List Int))])])))))=ρ):dE.F f l v=ρ:=Eq.trans (by kernel_rfl) (K _ rfl _ rfl _ rfl)
def bY.E:cz:=dH fJ zs [(40,(dZ.c,dZ.sg)),(41,(ei.c,ei.sg)),(42,(dE.c,dE.sg))]
def bY.h:Hint := .o
def bY.F (f:Int) (t:Int) (l:eK) (b:List UInt8):OT:=dD PG bY.E 22 bY.sg bY.h [(.i .i64 f),(.i .i64 t),(.ag (eK.cells l)),(.sl .bs b)]
theorem bY.cR (f:Int) (t:Int) (l:eK) (b:List UInt8) {ρ:OT} (K:∀(v1:Bool) (h1:v1=(decide (1≤f∧f≤5)&&Bs.may l)) (v2:Bool) (h2:v2=(decide (1≤t∧t≤5)&&Bs.may l)) (v3:Int) (h3:v3=(cq.err ((Bs.iI (Bs.decode b l))))) (v4:List UInt8) (h4:v4=((Gt.write l ((Bs.nN (Bs.decode b l)))).1)) (v5:cq) (h5:v5=((Gt.write l ((Bs.nN (Bs.decode b l)))).2)),ck (!(!(!v1)) || ((!(!v1))&&(!(!v1)))) (ck (!(!(!v1)) || (!(!v1))) (ck ((!v1) || (!(!v1))) (cond (cond (!v1) true (!v2))
  (some [(.sl .bs ([]:List UInt8)),(.sl .mh ([]:List (List Int))),(.ag [(.i .i64 1),(.i .i64 0),(.sl .is ([]:List Int))])])
  (ck (decide (f=1∧(b).length≤1000000000)) (cond (!decide (v3=(0:Int)))
  (some [(.sl .bs ([]:List UInt8)),(.sl .mh ([]:List (List Int))),(.ag (cq.cells ((Bs.iI (Bs.decode b l)))))])
  (ck (decide (t=1∧bx.dk (bx.of [] ((Bs.nN (Bs.decode b l))))≤10000000000)) (some [(.sl .bs v4),(.sl .mh (([]:List (List Int)))),(.ag (cq.cells v5))])))))))=ρ):bY.F f t l b=ρ:=Eq.trans (by kernel_rfl) (K _ rfl _ rfl _ rfl _ rfl _ rfl)
def eU.E:cz:=dH fJ zs [(24,(dY.c,dY.sg))]
def eU.h:Hint := .o
def eU.F (t:Int) (l:eK):OT:=dD PG eU.E 14 eU.sg eU.h [(.i .i64 t),(.ag (eK.cells l))]
theorem eU.cR (t:Int) (l:eK) {ρ:OT} (K:∀(v1:Bool) (h1:v1=(cond (decide (t<(1:Int))) true (decide ((5:Int)<t)))),ck (!(!(decide (t<(1:Int)))) || (!(decide (t<(1:Int))))) (ck ((decide (t<(1:Int))) || (!(decide (t<(1:Int))))) (ck (!(!v1) || (!v1)) (ck (!(!v1) || (!v1)) (ck (v1 || (!v1)) (cond (cond v1 true (!(Bs.may l)))
  (none)
  (some [(.ag [(.i .i64 t),(.i .i64 (eK.depth l)),(.i .i64 (eK.size l)),(.i .i64 (eK.out l)),(.i .i64 0),.pt,(.b false)]),(.i .i64 0),(.sl .bs ([]:List UInt8))]))))))=ρ):eU.F t l=ρ:=Eq.trans (by kernel_rfl) (K _ rfl)
def dI.E:cz:=dH fJ zs []
def dI.h:Hint := .o
def dI.F (g:bS) (e:Int):OT:=dD PG dI.E 34 dI.sg dI.h [(.ag [(.i .i64 (bS.fk g)),(.i .i64 (bS.depth g)),(.i .i64 (bS.size g)),(.i .i64 (bS.out g)),(.i .i64 (bS.at_ g)),.pt,(.b (bS.bT g))]),(.i .i64 e),.dead]
theorem dI.fh (g:bS) (e:Int):dI.F g e=some [(.ag [(.i .i64 (bS.at_ g)),(.sl .bs ([]:List UInt8)),(.sl .mh ([]:List (List Int))),(.i .i64 e),(.i .i64 (bS.at_ g)),(.sl .is ([]:List Int))]),(.ag [(.i .i64 (bS.fk g)),(.i .i64 (bS.depth g)),(.i .i64 (bS.size g)),(.i .i64 (bS.out g)),(.i .i64 (bS.at_ g)),.pt,(.b true)]),(.sl .bs ([]:List UInt8))]:=by kernel_rfl
def bI.E:cz:=dH fJ zs [(22,(bY.c,bY.sg)),(33,(cY.c,cY.sg)),(34,(dI.c,dI.sg)),(35,(bQ.c,bQ.sg))]
def bI.h:Hint := .s .o (.sc [(1,[(0,.ptr 1000000 0),(5,.cM 800000),(1000000,.cl []),(800000,.pv)]),(0,[(0,.ptr 1000000 0),(5,.cM 800000),(6,.ptr 136 0),(136,.cl []),(1000000,.cl []),(800000,.pv)])] (.s .o (.s .o (.s .o (.s .o (.s .o (.s .o (.s .o (.s .o (.s .o (.s .o (.s .o (.s .o (.s .o (.s .o (.j [(0,.ptr 1000000 0),(5,.cM 800000),(6,.ptr 136 0),(7,.no),(136,.cl []),(1000000,.cl []),(800000,.pv)] .o .o))))))))))))))))
def bI.F (g:bS) (x:List UInt8) (b:List UInt8):OT:=dD PG bI.E 16 bI.sg bI.h [(.ag [(.i .i64 (bS.fk g)),(.i .i64 (bS.depth g)),(.i .i64 (bS.size g)),(.i .i64 (bS.out g)),(.i .i64 (bS.at_ g)),.pt,(.b (bS.bT g))]),(.sl .bs x),(.sl .bs b)]
def bI.g1 (x0:Int) (x1:Int) (x2:Int) (x3:Int) (x4:Int) (x5:List UInt8) (x6:Bool) (x7:List Out):OT:=jD PG bI.E 16 bI.sg bI.h 3 1 [.pt,.pt,(.ag [(.i .i64 x0),(.i .i64 x1),(.i .i64 x2),(.i .i64 x3),(.i .i64 x4),(.sl .bs x5),(.b x6)]),(.sl .ou x7)]
def bI.j2 (x0:Int) (x1:Out) (x2:Int) (x3:Int) (x4:Int) (x5:Int) (x6:Int) (x7:List UInt8) (x8:Bool) (x9:List Out):OT:=fp PG bI.E 16 bI.sg bI.h 131069 [.pt,.pt,.pt,(.i .i64 x0),(.ag (Out.cells x1)),(.ag [(.i .i64 x2),(.i .i64 x3),(.i .i64 x4),(.i .i64 x5),(.i .i64 x6),(.sl .bs x7),(.b x8)]),(.sl .ou x9)]
def bI.g3 (x0:Out) (x1:Int) (x2:Int) (x3:Int) (x4:Int) (x5:Int) (x6:List UInt8) (x7:Bool) (x8:List Out):OT:=jD PG bI.E 16 bI.sg bI.h 3 0 [.pt,.pt,.pt,(.ag (Out.cells x0)),(.ag [(.i .i64 x1),(.i .i64 x2),(.i .i64 x3),(.i .i64 x4),(.i .i64 x5),(.sl .bs x6),(.b x7)]),(.sl .ou x8)]
theorem bI.lP (x0:Int) (x1:Int) (x2:Int) (x3:Int) (x4:Int) (x5:List UInt8) (x6:Bool) (x7:List Out):bI.g1 x0 x1 x2 x3 x4 x5 x6 x7=ck (eO (x5).length 1) (some [(.sl .ou x7),(.ag [(.i .i64 x0),(.i .i64 x1),(.i .i64 x2),(.i .i64 x3),(.i .i64 x4),.pt,(.b x6)]),(.sl .bs (x5))]):=((gS _ _ _ _ _ _ _ _).trans (by kernel_rfl))
theorem bI.jE (x0:Int) (x1:Out) (x2:Int) (x3:Int) (x4:Int) (x5:Int) (x6:Int) (x7:List UInt8) (x8:Bool) (x9:List Out):bI.j2 x0 x1 x2 x3 x4 x5 x6 x7 x8 x9=ck (eO ((x9).length+(([x1]:List Out)).length) 96) (ck (dV x0 (x7).length (x7).length) (bI.g3 x1 x2 x3 x4 x5 (IntKind.i64.wrap (x6+x0)) (List.drop (x0).toNat x7) x8 (x9++([x1]:List Out)))):=((dv _ _ _ _ _ _ _).trans (by kernel_rfl))
theorem bI.ot (x0:Out) (x1:Int) (x2:Int) (x3:Int) (x4:Int) (x5:Int) (x6:List UInt8) (x7:Bool) (x8:List Out) {ρ:OT} (K:∀(v1:Int) (h1:v1=((Gt.iP x6 ((0:Int))).1)) (v2:Bool) (h2:v2=((Gt.iP x6 ((0:Int))).2)) (v3:Int) (h3:v3=(bS.fk ((Gt.dT (bS.mk x1 x2 x3 x4 x5 x7))))) (v4:Int) (h4:v4=(bS.depth ((Gt.dT (bS.mk x1 x2 x3 x4 x5 x7))))) (v5:Int) (h5:v5=(bS.size ((Gt.dT (bS.mk x1 x2 x3 x4 x5 x7))))) (v6:Int) (h6:v6=(bS.out ((Gt.dT (bS.mk x1 x2 x3 x4 x5 x7))))) (v7:Int) (h7:v7=(bS.at_ ((Gt.dT (bS.mk x1 x2 x3 x4 x5 x7))))) (v8:Bool) (h8:v8=(bS.bT ((Gt.dT (bS.mk x1 x2 x3 x4 x5 x7))))) (v9:Out) (h9:v9=((Gt.j0 ((6:Int)) (bS.at_ (bS.mk x1 x2 x3 x4 x5 x7))))) (v10:Out) (iU:v10=((Gt.j0 ((9:Int)) (bS.at_ (bS.mk x1 x2 x3 x4 x5 x7))))) (v11:List UInt8) (h11:v11=((Gt.trans (eK.mk x2 x3 x4) ((List.take (v1).toNat x6))).1)) (v12:cq) (vi:v12=((Gt.trans (eK.mk x2 x3 x4) ((List.take (v1).toNat x6))).2)) (jY:Int) (tj:jY=(IntKind.i64.wrap ((cq.at_ v12)+x5))),ck (decide ((x6).length≤1000000000)) (cond (!v2)
  (bI.g1 x1 x2 x3 x4 x5 x6 x7 x8)
  (cond (decide (v1<(5:Int)))
  (ck (eO ((x8).length+(([v9]:List Out)).length) 96) (some [(.sl .ou (x8++([v9]:List Out))),(.ag [(.i .i64 v3),(.i .i64 v4),(.i .i64 v5),(.i .i64 v6),(.i .i64 v7),.pt,(.b v8)]),(.sl .bs (([]:List UInt8)))]))
  (cond (decide (x3<v1))
  (ck (eO ((x8).length+(([v10]:List Out)).length) 96) (some [(.sl .ou (x8++([v10]:List Out))),(.ag [(.i .i64 v3),(.i .i64 v4),(.i .i64 v5),(.i .i64 v6),(.i .i64 v7),.pt,(.b v8)]),(.sl .bs (([]:List UInt8)))]))
  (cond (decide (((x6).length:Int)<v1))
  (bI.g1 x1 x2 x3 x4 x5 x6 x7 x8)
  (ck (dV 0 v1 (x6).length) (ck (decide (((1:Int))=1∧x1=1∧(((List.take (v1).toNat x6))).length≤1000000000)) (cond (!decide ((cq.err v12)=(0:Int)))
  (bI.j2 v1 (Out.mk x5 v11 (([]:List (List Int))) (cq.err v12) jY (cq.path v12)) x1 x2 x3 x4 x5 x6 x7 x8)
  (bI.j2 v1 (Out.mk x5 v11 (([]:List (List Int))) (cq.err v12) (cq.at_ v12) (cq.path v12)) x1 x2 x3 x4 x5 x6 x7 x8))))))))=ρ):bI.g3 x0 x1 x2 x3 x4 x5 x6 x7 x8=ρ:=((gS _ _ _ _ _ _ _ _).trans (by kernel_rfl)).trans (K _ rfl _ rfl _ rfl _ rfl _ rfl _ rfl _ rfl _ rfl _ rfl _ rfl _ rfl _ rfl _ rfl)
theorem bI.cR (g:bS) (x:List UInt8) (b:List UInt8) {ρ:OT} (K:∀(v1:Int) (h1:v1=((Gt.iP ((b++x)) ((0:Int))).1)) (v2:Bool) (h2:v2=((Gt.iP ((b++x)) ((0:Int))).2)) (v3:Out) (h3:v3=((Gt.j0 ((6:Int)) (bS.at_ g)))) (v4:Out) (h4:v4=((Gt.j0 ((9:Int)) (bS.at_ g)))) (v5:List UInt8) (h5:v5=(List.take (v1).toNat (b++x))) (v6:List UInt8) (h6:v6=((Gt.trans (eK.mk (bS.depth g) (bS.size g) (bS.out g)) v5).1)) (v7:cq) (h7:v7=((Gt.trans (eK.mk (bS.depth g) (bS.size g) (bS.out g)) v5).2)) (v8:Int) (h8:v8=(IntKind.i64.wrap ((cq.at_ v7)+(bS.at_ g)))),cond (bS.bT g)
  (some [(.sl .ou ([]:List Out)),(.ag [(.i .i64 (bS.fk g)),(.i .i64 (bS.depth g)),(.i .i64 (bS.size g)),(.i .i64 (bS.out g)),(.i .i64 (bS.at_ g)),.pt,(.b (bS.bT g))]),(.sl .bs b)])
  (ck (eO ((b).length+(x).length) 1) (ck (decide ((((b++x))).length≤1000000000)) (cond (!v2)
  (bI.g1 (bS.fk g) (bS.depth g) (bS.size g) (bS.out g) (bS.at_ g) (b++x) (bS.bT g) ([]:List Out))
  (cond (decide (v1<(5:Int)))
  (ck (eO (([v3]:List Out)).length 96) (some [(.sl .ou ([v3]:List Out)),(.ag [(.i .i64 (bS.fk ((Gt.dT g)))),(.i .i64 (bS.depth ((Gt.dT g)))),(.i .i64 (bS.size ((Gt.dT g)))),(.i .i64 (bS.out ((Gt.dT g)))),(.i .i64 (bS.at_ ((Gt.dT g)))),.pt,(.b (bS.bT ((Gt.dT g))))]),(.sl .bs (([]:List UInt8)))]))
  (cond (decide ((bS.size g)<v1))
  (ck (eO (([v4]:List Out)).length 96) (some [(.sl .ou ([v4]:List Out)),(.ag [(.i .i64 (bS.fk ((Gt.dT g)))),(.i .i64 (bS.depth ((Gt.dT g)))),(.i .i64 (bS.size ((Gt.dT g)))),(.i .i64 (bS.out ((Gt.dT g)))),(.i .i64 (bS.at_ ((Gt.dT g)))),.pt,(.b (bS.bT ((Gt.dT g))))]),(.sl .bs (([]:List UInt8)))]))
  (cond (decide ((((b++x)).length:Int)<v1))
  (bI.g1 (bS.fk g) (bS.depth g) (bS.size g) (bS.out g) (bS.at_ g) (b++x) (bS.bT g) ([]:List Out))
  (ck (dV 0 v1 ((b++x)).length) (ck (decide (((1:Int))=1∧((bS.fk g))=1∧(v5).length≤1000000000)) (cond (!decide ((cq.err v7)=(0:Int)))
  (bI.j2 v1 (Out.mk (bS.at_ g) v6 (([]:List (List Int))) (cq.err v7) v8 (cq.path v7)) (bS.fk g) (bS.depth g) (bS.size g) (bS.out g) (bS.at_ g) (b++x) (bS.bT g) ([]:List Out))
  (bI.j2 v1 (Out.mk (bS.at_ g) v6 (([]:List (List Int))) (cq.err v7) (cq.at_ v7) (cq.path v7)) (bS.fk g) (bS.depth g) (bS.size g) (bS.out g) (bS.at_ g) (b++x) (bS.bT g) ([]:List Out)))))))))))=ρ):bI.F g x b=ρ:=Eq.trans (by kernel_rfl) (K _ rfl _ rfl _ rfl _ rfl _ rfl _ rfl _ rfl _ rfl)
def eV.E:cz:=dH fJ zs [(34,(dI.c,dI.sg))]
def eV.h:Hint := .o
def eV.F (g:bS) (b:List UInt8):OT:=dD PG eV.E 17 eV.sg eV.h [(.ag [(.i .i64 (bS.fk g)),(.i .i64 (bS.depth g)),(.i .i64 (bS.size g)),(.i .i64 (bS.out g)),(.i .i64 (bS.at_ g)),.pt,(.b (bS.bT g))]),(.sl .bs b)]
theorem eV.cR (g:bS) (b:List UInt8) {ρ:OT} (K:∀(v1:Bool) (h1:v1=(cond (bS.bT g) true (decide (((b).length:Int)=(0:Int))))) (v2:Out) (h2:v2=((Gt.j0 ((2:Int)) (bS.at_ g)))),ck (!(!(bS.bT g)) || (!(bS.bT g))) (ck (!(!(bS.bT g)) || (!(bS.bT g))) (ck (!(!(bS.bT g)) || (!(bS.bT g))) (ck (!(!(bS.bT g)) || (!(bS.bT g))) (ck (!(!(bS.bT g)) || (!(bS.bT g))) (ck ((bS.bT g) || (!(bS.bT g))) (cond v1
  (some [(.sl .ou ([]:List Out)),(.ag [(.i .i64 (bS.fk g)),(.i .i64 (bS.depth g)),(.i .i64 (bS.size g)),(.i .i64 (bS.out g)),(.i .i64 (bS.at_ g)),.pt,(.b true)]),(.sl .bs b)])
  (some [(.sl .ou ([v2]:List Out)),(.ag [(.i .i64 (bS.fk ((Gt.dT g)))),(.i .i64 (bS.depth ((Gt.dT g)))),(.i .i64 (bS.size ((Gt.dT g)))),(.i .i64 (bS.out ((Gt.dT g)))),(.i .i64 (bS.at_ ((Gt.dT g)))),.pt,(.b (bS.bT ((Gt.dT g))))]),(.sl .bs (([]:List UInt8)))])))))))=ρ):eV.F g b=ρ:=Eq.trans (by kernel_rfl) (K _ rfl _ rfl)
def I2.E:cz:=dH fJ zs []
def I2.h:Hint := .s .o (.s .o (.s (.s .o (.b (.l [(0,.no),(1,.no),(5,.cM 800000),(6,.no),(800000,.pv)] .o))) .o))
def I2.F (v:UInt64) (n:Int):OT:=dD PG I2.E 61 I2.sg I2.h [(.u64 v),(.i .i64 n)]
def I2.l1 (x0:UInt64) (x1:Int) (x2:Int) (x3:List UInt8):OT:=j9 PG I2.E 61 I2.sg I2.h 43 [(.u64 x0),(.i .i64 x1),.pt,(.i .i64 x2),(.sl .bs x3)]
theorem I2.fo (x0:UInt64) (x1:Int) (x2:Int) (x3:List UInt8) {ρ:OT} (K:∀(v1:Bool) (h1:v1=(cond (decide (x2<x1)) (decide (x1≤(8:Int))) false)) (v2:UInt8) (h2:v2=(UInt8.ofInt ((x0).toNat:Int))) (v3:Int) (h3:v3=(IntKind.i64.wrap (x2+(1:Int)))),ck (!(decide (x2<x1)) || (decide (x2<x1))) (ck (!(decide (x2<x1)) || (decide (x2<x1))) (cond v1
  (ck (eO ((x3).length+(([v2]:List UInt8)).length) 1) (ck (!decide ((256:UInt64)=0)) (I2.l1 (x0 / (256:UInt64)) x1 v3 (x3++([v2]:List UInt8)))))
  (some [(.sl .bs x3)])))=ρ):I2.l1 x0 x1 x2 x3=ρ:=((gn _ _ _ _ _ _ _).trans (by kernel_rfl)).trans (K _ rfl _ rfl _ rfl)
theorem I2.fh (v:UInt64) (n:Int):I2.F v n=I2.l1 v n (0:Int) ([]:List UInt8):=by kernel_rfl
end
end Go.Eng
set_option maxRecDepth 100000
namespace Go.Eng
open Go.Proofs
noncomputable section
def sy.E (n:Nat):cz:=dH fJ zs [(38,(sy.cn n,sy.sg))]
def sy.h:Hint := .s .o (.s (.s .o (.b (.j [(1,.ptr 97 0),(7,.no),(8,.no),(97,.cl [])] .o (.s .o (.s .o (.s .o (.s .o (.s .o (.s .o (.s .o (.j [(1,.ptr 97 0),(7,.no),(19,.no),(97,.cl [])] .o (.s .o (.s .o (.s .o (.s .o (.s (.s .o (.j (sc [3]) .o .o)) (.s .o (.s .o (.s .o (.s .o (.j [(1,.ptr 97 0),(57,.no),(97,.cl [])] .o (.s (.s .o (.s (.s .o (.b (.l [(1,.ptr 97 0),(4,.no),(5,.no),(97,.cl [])] .o))) (.j (sc [4]) .o .o))) .o)))))))))))))))))))))) .o)
def sy.F (n:Nat) (v:Val):OT:=dD PG (sy.E n) 38 sy.sg sy.h [(.ag (Val.cells v))]
def sy.j1 (n:Nat) (x0:Int) (x1:Bool) (x2:Val):OT:=fp PG (sy.E n) 38 sy.sg sy.h 21 [.pt,(.i .i64 x0),(.b x1),(.ag (Val.cells x2))]
def sy.j2 (n:Nat) (x0:Int) (x1:Bool) (x2:Val):OT:=fp PG (sy.E n) 38 sy.sg sy.h 8181 [.pt,(.i .i64 x0),(.b x1),(.ag (Val.cells x2))]
def sy.j3 (n:Nat) (x0:Int):OT:=fp PG (sy.E n) 38 sy.sg sy.h 917493 [(.i .i64 x0)]
def sy.j4 (n:Nat) (x0:Bool) (x1:Val):OT:=fp PG (sy.E n) 38 sy.sg sy.h 8388597 [.pt,(.b x0),(.ag (Val.cells x1))]
def sy.l5 (n:Nat) (x0:Int) (x1:Int) (x2:Val):OT:=j9 PG (sy.E n) 38 sy.sg sy.h 360710133 [.pt,(.i .i64 x0),(.i .i64 x1),(.ag (Val.cells x2))]
def sy.j6 (n:Nat) (x0:Int):OT:=fp PG (sy.E n) 38 sy.sg sy.h 125829109 [(.i .i64 x0)]
theorem sy.qz (n:Nat) (x0:Int) (x1:Bool) (x2:Val):sy.j1 n x0 x1 x2=cond x1
  (some [(.i .i64 8)])
  (cond (decide (x0=(16:Int)))
  (some [(.i .i64 4)])
  (cond (decide (x0=(8:Int)))
  (some [(.i .i64 1)])
  (cond (decide (x0=(19:Int)))
  (some [(.i .i64 16)])
  (cond (decide (x0=(2:Int)))
  (sy.j2 n x0 (decide (x0=(2:Int))) x2)
  (cond (decide (x0=(13:Int)))
  (sy.j2 n x0 (decide (x0=(13:Int))) x2)
  (sy.j2 n x0 (decide (x0=(14:Int))) x2)))))):=((dv _ _ _ _ _ _ _).trans (by kernel_rfl))
theorem sy.lO (n:Nat) (x0:Int) (x1:Bool) (x2:Val) {ρ:OT} (K:∀(v1:Int) (h1:v1=(((Val.text x2)).length:Int)) (v2:Int) (h2:v2=(IntKind.i64.wrap (v1+(5:Int)))) (v3:Int) (h3:v3=(((Val.more x2)).length:Int)) (v4:Int) (h4:v4=(IntKind.i64.wrap ((IntKind.i64.wrap (v1+v3))+(2:Int)))) (v5:Int) (h5:v5=(((Val.bytes x2)).length:Int)) (v6:Int) (h6:v6=(IntKind.i64.wrap (v5+(5:Int)))) (v7:Int) (h7:v7=(IntKind.i64.wrap (v6+(4:Int)))) (v8:Int) (h8:v8=(IntKind.i64.wrap (v1+(17:Int)))),cond x1
  (some [(.i .i64 v2)])
  (cond (decide (x0=(11:Int)))
  (some [(.i .i64 v4)])
  (cond (decide (x0=(5:Int)))
  (cond (decide ((Val.sub x2)=(2:Int)))
  (sy.j3 n v7)
  (sy.j3 n v6))
  (cond (decide (x0=(7:Int)))
  (some [(.i .i64 12)])
  (cond (decide (x0=(12:Int)))
  (some [(.i .i64 v8)])
  (cond (decide (x0=(3:Int)))
  (sy.j4 n (decide (x0=(3:Int))) x2)
  (cond (decide (x0=(4:Int)))
  (sy.j4 n (decide (x0=(4:Int))) x2)
  (sy.j4 n (decide (x0=(15:Int))) x2)))))))=ρ):sy.j2 n x0 x1 x2=ρ:=((dv _ _ _ _ _ _ _).trans (by kernel_rfl)).trans (K _ rfl _ rfl _ rfl _ rfl _ rfl _ rfl _ rfl _ rfl)
theorem sy.zx (n:Nat) (x0:Int):sy.j3 n x0=some [(.i .i64 x0)]:=((dv _ _ _ _ _ _ _).trans (by kernel_rfl))
theorem sy.Cw (n:Nat) (x0:Bool) (x1:Val):sy.j4 n x0 x1=cond x0
  (sy.l5 n (5:Int) (0:Int) x1)
  (some [(.i .i64 0)]):=((dv _ _ _ _ _ _ _).trans (by kernel_rfl))
theorem sy.Kj (n:Nat) (x0:Int) (x1:Int) (x2:Val) {ρ:OT} (K:∀(v1:Int) (h1:v1=(((Val.kids x2)).length:Int)) (v2:bx) (h2:v2=(List.getD (Val.kids x2) (x1).toNat (ez.iH .fl))) (v3:Int) (h3:v3=(((bx.name v2)).length:Int)) (v4:Int) (h4:v4=(IntKind.i64.wrap ((IntKind.i64.wrap (x0+v3))+(2:Int)))) (v5:Int) (h5:v5=(((Bs.size (bx.of [] (bx.val v2)):Nat):Int))) (v6:Int) (h6:v6=(IntKind.i64.wrap (x1+(1:Int)))) (v7:Int) (h7:v7=(((Val.text x2)).length:Int)) (v8:Int) (h8:v8=(IntKind.i64.wrap ((IntKind.i64.wrap (x0+v7))+(9:Int)))),cond (decide (x1<v1))
  (ck (dj x1 ((Val.kids x2)).length) (ck (dj x1 ((Val.kids x2)).length) (ck ((decide (bx.dk (bx.of [] (bx.val v2))≤100000))&&decide ((bx.dk (bx.of [] (bx.val v2)))<n)) (sy.l5 n (IntKind.i64.wrap (v4+v5)) v6 x2))))
  (cond (decide ((Val.kind x2)=(15:Int)))
  (sy.j6 n v8)
  (sy.j6 n x0))=ρ):sy.l5 n x0 x1 x2=ρ:=((gn _ _ _ _ _ _ _).trans (by kernel_rfl)).trans (K _ rfl _ rfl _ rfl _ rfl _ rfl _ rfl _ rfl _ rfl)
theorem sy.Km (n:Nat) (x0:Int):sy.j6 n x0=some [(.i .i64 x0)]:=((dv _ _ _ _ _ _ _).trans (by kernel_rfl))
theorem sy.fh (n:Nat) (v:Val):sy.F n v=cond (decide ((Val.kind v)=(1:Int)))
  (sy.j1 n (Val.kind v) (decide ((Val.kind v)=(1:Int))) v)
  (cond (decide ((Val.kind v)=(9:Int)))
  (sy.j1 n (Val.kind v) (decide ((Val.kind v)=(9:Int))) v)
  (cond (decide ((Val.kind v)=(17:Int)))
  (sy.j1 n (Val.kind v) (decide ((Val.kind v)=(17:Int))) v)
  (sy.j1 n (Val.kind v) (decide ((Val.kind v)=(18:Int))) v))):=by kernel_rfl
def Jh.E:cz:=dH fJ zs [(61,(I2.c,I2.sg))]
def Jh.h:Hint := .o
def Jh.F (s:IY):OT:=dD PG Jh.E 83 Jh.sg Jh.h [(.s s)]
theorem Jh.cR (s:IY) {ρ:OT} (K:∀(v1:Int) (h1:v1=(IntKind.i64.wrap (((s).length:Int)+(1:Int)))) (v2:List UInt8) (h2:v2=((Bs.ff (((4:Int))).toNat (((UInt64.ofInt v1))).toNat))) (v3:List UInt8) (h3:v3=((v2++s)++([(0:UInt8)]:List UInt8))),ck (decide (0≤((4:Int))∧((4:Int))≤8)) (ck (eO ((v2).length+(s).length) 1) (ck (eO (((v2++s)).length+(([(0:UInt8)]:List UInt8)).length) 1) (some [(.sl .bs v3)])))=ρ):Jh.F s=ρ:=Eq.trans (by kernel_rfl) (K _ rfl _ rfl _ rfl)
def I8.E (n:Nat):cz:=dH fJ zs [(60,(IZ.cn n,IZ.sg)),(61,(I2.c,I2.sg))]
def I8.h:Hint := .s .o (.s .o (.s (.s .o (.b (.l [(0,.no),(3,.cM 800000),(4,.no),(800000,.pv)] .o))) .o))
def I8.F (n:Nat) (l:List bx):OT:=dD PG (I8.E n) 39 I8.sg I8.h [(.sl .fl l)]
def I8.l1 (n:Nat) (x0:List bx) (x1:Int) (x2:List UInt8):OT:=j9 PG (I8.E n) 39 I8.sg I8.h 43 [(.sl .fl x0),.pt,(.i .i64 x1),(.sl .bs x2)]
theorem I8.fo (n:Nat) (x0:List bx) (x1:Int) (x2:List UInt8) {ρ:OT} (K:∀(v1:bx) (h1:v1=(List.getD x0 (x1).toNat (ez.iH .fl))) (v2:List UInt8) (h2:v2=([(UInt8.ofInt (bx.kind v1))]:List UInt8)) (v3:List UInt8) (h3:v3=((x2++v2)++(bx.name v1))) (v4:List UInt8) (h4:v4=(v3++([(0:UInt8)]:List UInt8))) (v5:List UInt8) (h5:v5=((Bs.enc (bx.of [] (bx.val v1))))) (v6:Int) (h6:v6=(IntKind.i64.wrap (x1+(1:Int)))) (v7:Int) (h7:v7=(IntKind.i64.wrap (((x2).length:Int)+(5:Int)))) (v8:List UInt8) (h8:v8=((Bs.ff (((4:Int))).toNat (((UInt64.ofInt v7))).toNat))) (v9:List UInt8) (h9:v9=((v8++x2)++([(0:UInt8)]:List UInt8))),cond (decide (x1<((x0).length:Int)))
  (ck (dj x1 (x0).length) (ck (eO ((x2).length+(v2).length) 1) (ck (dj x1 (x0).length) (ck (eO (((x2++v2)).length+((bx.name v1)).length) 1) (ck (eO ((v3).length+(([(0:UInt8)]:List UInt8)).length) 1) (ck (dj x1 (x0).length) (ck ((decide (bx.dk (bx.of [] (bx.val v1))≤100000))&&decide ((2 * bx.dk (bx.of [] (bx.val v1)))<n)) (ck (eO ((v4).length+(v5).length) 1) (I8.l1 n x0 v6 (v4++v5))))))))))
  (ck (decide (0≤((4:Int))∧((4:Int))≤8)) (ck (eO ((v8).length+(x2).length) 1) (ck (eO (((v8++x2)).length+(([(0:UInt8)]:List UInt8)).length) 1) (some [(.sl .bs v9)]))))=ρ):I8.l1 n x0 x1 x2=ρ:=((gn _ _ _ _ _ _ _).trans (by kernel_rfl)).trans (K _ rfl _ rfl _ rfl _ rfl _ rfl _ rfl _ rfl _ rfl _ rfl)
theorem I8.fh (n:Nat) (l:List bx):I8.F n l=I8.l1 n l (0:Int) ([]:List UInt8):=by kernel_rfl
def IZ.E (n:Nat):cz:=dH fJ zs [(39,(I8.cn n,I8.sg)),(61,(I2.c,I2.sg)),(83,(Jh.c,Jh.sg))]
def IZ.h:Hint := .s .o (.s (.s .o (.b (.j [(1,.ptr 116 0),(6,.no),(7,.no),(116,.cl [])] .o (.s .o (.s .o (.s .o (.s .o (.s .o (.s .o (.s .o (.j [(1,.ptr 116 0),(6,.no),(34,.no),(116,.cl [])] .o (.s .o (.s .o (.s .o (.s .o (.s (.s .o (.j [(1,.ptr 116 0),(3,.no),(116,.cl [])] .o .o)) (.s .o (.s .o (.s .o (.s .o (.j [(1,.ptr 116 0),(6,.no),(93,.no),(116,.cl [])] .o .o))))))))))))))))))))) .o)
def IZ.F (n:Nat) (v:Val):OT:=dD PG (IZ.E n) 60 IZ.sg IZ.h [(.ag (Val.cells v))]
def IZ.j1 (n:Nat) (x0:Int) (x1:Bool) (x2:Val):OT:=fp PG (IZ.E n) 60 IZ.sg IZ.h 21 [.pt,(.i .i64 x0),(.b x1),(.ag (Val.cells x2))]
def IZ.j2 (n:Nat) (x0:Int) (x1:Bool) (x2:Val):OT:=fp PG (IZ.E n) 60 IZ.sg IZ.h 8181 [.pt,(.i .i64 x0),(.b x1),(.ag (Val.cells x2))]
def IZ.j3 (n:Nat) (x0:List UInt8) (x1:Val):OT:=fp PG (IZ.E n) 60 IZ.sg IZ.h 917493 [.pt,(.sl .bs x0),(.ag (Val.cells x1))]
def IZ.j4 (n:Nat) (x0:Int) (x1:Bool) (x2:Val):OT:=fp PG (IZ.E n) 60 IZ.sg IZ.h 8388597 [.pt,(.i .i64 x0),(.b x1),(.ag (Val.cells x2))]
theorem IZ.qy (n:Nat) (x0:Int) (x1:Bool) (x2:Val) {ρ:OT} (K:∀(v1:List UInt8) (h1:v1=((Bs.ff (((8:Int))).toNat (((Val.bits x2))).toNat))) (v2:List UInt8) (h2:v2=((Bs.ff (((4:Int))).toNat (((Val.bits x2))).toNat))) (v3:List UInt8) (h3:v3=((Bs.ff (((1:Int))).toNat (((Val.bits x2))).toNat))) (v4:List UInt8) (h4:v4=((Bs.ff (((8:Int))).toNat (((Val.low x2))).toNat))) (v5:List UInt8) (h5:v5=((Bs.ff (((8:Int))).toNat (((Val.high x2))).toNat))),cond x1
  (ck (decide (0≤((8:Int))∧((8:Int))≤8)) (some [(.sl .bs v1)]))
  (cond (decide (x0=(16:Int)))
  (ck (decide (0≤((4:Int))∧((4:Int))≤8)) (some [(.sl .bs v2)]))
  (cond (decide (x0=(8:Int)))
  (ck (decide (0≤((1:Int))∧((1:Int))≤8)) (some [(.sl .bs v3)]))
  (cond (decide (x0=(19:Int)))
  (ck (decide (0≤((8:Int))∧((8:Int))≤8)) (ck (decide (0≤((8:Int))∧((8:Int))≤8)) (ck (eO ((v4).length+(v5).length) 1) (some [(.sl .bs (v4++v5))]))))
  (cond (decide (x0=(2:Int)))
  (IZ.j2 n x0 (decide (x0=(2:Int))) x2)
  (cond (decide (x0=(13:Int)))
  (IZ.j2 n x0 (decide (x0=(13:Int))) x2)
  (IZ.j2 n x0 (decide (x0=(14:Int))) x2))))))=ρ):IZ.j1 n x0 x1 x2=ρ:=((dv _ _ _ _ _ _ _).trans (by kernel_rfl)).trans (K _ rfl _ rfl _ rfl _ rfl _ rfl)
theorem IZ.lO (n:Nat) (x0:Int) (x1:Bool) (x2:Val) {ρ:OT} (K:∀(v1:List UInt8) (h1:v1=((Val.text x2)++([(0:UInt8)]:List UInt8))) (v2:List UInt8) (h2:v2=((v1++(Val.more x2))++([(0:UInt8)]:List UInt8))) (v3:Int) (h3:v3=(((Val.bytes x2)).length:Int)) (v4:List UInt8) (h4:v4=((Bs.ff (((4:Int))).toNat (((UInt64.ofInt v3))).toNat))) (v5:List UInt8) (h5:v5=(([]:List UInt8)++(Val.bytes x2))) (v6:List UInt8) (h6:v6=(((Bs.fC ((Val.text x2))))++(Val.bytes x2))),cond x1
  (ck (decide ((((Val.text x2))).length≤1000000)) (some [(.sl .bs ((Bs.fC ((Val.text x2)))))]))
  (cond (decide (x0=(11:Int)))
  (ck (lM ((Val.text x2)).length) (ck (eO (((Val.text x2)).length+(([(0:UInt8)]:List UInt8)).length) 1) (ck (eO ((v1).length+((Val.more x2)).length) 1) (ck (eO (((v1++(Val.more x2))).length+(([(0:UInt8)]:List UInt8)).length) 1) (some [(.sl .bs v2)])))))
  (cond (decide (x0=(5:Int)))
  (cond (decide ((Val.sub x2)=(2:Int)))
  (ck (decide (0≤((4:Int))∧((4:Int))≤8)) (ck (eO ((v4).length+((Val.bytes x2)).length) 1) (IZ.j3 n (v4++(Val.bytes x2)) x2)))
  (IZ.j3 n (Val.bytes x2) x2))
  (cond (decide (x0=(7:Int)))
  (ck (eO ((([]:List UInt8)).length+((Val.bytes x2)).length) 1) (some [(.sl .bs v5)]))
  (cond (decide (x0=(12:Int)))
  (ck (decide ((((Val.text x2))).length≤1000000)) (ck (eO ((((Bs.fC ((Val.text x2))))).length+((Val.bytes x2)).length) 1) (some [(.sl .bs v6)])))
  (cond (decide (x0=(3:Int)))
  (IZ.j4 n x0 (decide (x0=(3:Int))) x2)
  (IZ.j4 n x0 (decide (x0=(4:Int))) x2))))))=ρ):IZ.j2 n x0 x1 x2=ρ:=((dv _ _ _ _ _ _ _).trans (by kernel_rfl)).trans (K _ rfl _ rfl _ rfl _ rfl _ rfl _ rfl)
theorem IZ.j3_in (n:Nat) (x0:List UInt8) (x1:Val) {ρ:OT} (K:∀(v1:UInt64) (h1:v1=(UInt64.ofInt ((x0).length:Int))) (v2:List UInt8) (h2:v2=((Bs.ff (((4:Int))).toNat (v1).toNat))) (v3:List UInt8) (h3:v3=([(UInt8.ofInt (Val.sub x1))]:List UInt8)),ck (decide (0≤((4:Int))∧((4:Int))≤8)) (ck (eO ((v2).length+(v3).length) 1) (ck (eO (((v2++v3)).length+(x0).length) 1) (some [(.sl .bs ((v2++v3)++x0))])))=ρ):IZ.j3 n x0 x1=ρ:=((dv _ _ _ _ _ _ _).trans (by kernel_rfl)).trans (K _ rfl _ rfl _ rfl)
theorem IZ.s7 (n:Nat) (x0:Int) (x1:Bool) (x2:Val) {ρ:OT} (K:∀(v1:List UInt8) (h1:v1=(((Bs.fC ((Val.text x2))))++((Bs.iR ((Val.kids x2)))))) (v2:Int) (h2:v2=(IntKind.i64.wrap (((v1).length:Int)+(4:Int)))) (v3:List UInt8) (h3:v3=((Bs.ff (((4:Int))).toNat (((UInt64.ofInt v2))).toNat))),cond x1
  (ck ((decide (bx.cw ((Val.kids x2))≤100000))&&decide ((2 * bx.cw ((Val.kids x2))+1)<n)) (some [(.sl .bs ((Bs.iR ((Val.kids x2)))))]))
  (cond (decide (x0=(15:Int)))
  (ck (decide ((((Val.text x2))).length≤1000000)) (ck ((decide (bx.cw ((Val.kids x2))≤100000))&&decide ((2 * bx.cw ((Val.kids x2))+1)<n)) (ck (eO ((((Bs.fC ((Val.text x2))))).length+(((Bs.iR ((Val.kids x2))))).length) 1) (ck (decide (0≤((4:Int))∧((4:Int))≤8)) (ck (eO ((v3).length+(v1).length) 1) (some [(.sl .bs (v3++v1))]))))))
  (some [(.sl .bs ([]:List UInt8))]))=ρ):IZ.j4 n x0 x1 x2=ρ:=((dv _ _ _ _ _ _ _).trans (by kernel_rfl)).trans (K _ rfl _ rfl _ rfl)
theorem IZ.fh (n:Nat) (v:Val):IZ.F n v=cond (decide ((Val.kind v)=(1:Int)))
  (IZ.j1 n (Val.kind v) (decide ((Val.kind v)=(1:Int))) v)
  (cond (decide ((Val.kind v)=(9:Int)))
  (IZ.j1 n (Val.kind v) (decide ((Val.kind v)=(9:Int))) v)
  (cond (decide ((Val.kind v)=(17:Int)))
  (IZ.j1 n (Val.kind v) (decide ((Val.kind v)=(17:Int))) v)
  (IZ.j1 n (Val.kind v) (decide ((Val.kind v)=(18:Int))) v))):=by kernel_rfl
def Je.E:cz:=dH fJ zs [(37,(Jb.c,Jb.sg)),(38,(sy.c,sy.sg)),(39,(I8.c,I8.sg))]
def Je.h:Hint := .o
def Je.F (v:Val):OT:=dD PG Je.E 19 Je.sg Je.h [(.ag (Val.cells v))]
theorem Je.cR (v:Val) {ρ:OT} (K:∀(v1:List Int) (h1:v1=((Tree.hU (bx.of [] v) []).1)) (v2:Int) (h2:v2=((Tree.hU (bx.of [] v) []).2)) (v3:Int) (h3:v3=(((Bs.size (bx.of [] v):Nat):Int))),ck (decide (bx.dk (bx.of [] v)≤1099511627776)) (cond (!decide (v2=(0:Int)))
  (some [(.sl .bs ([]:List UInt8)),(.ag [(.i .i64 v2),(.i .i64 0),(.sl .is v1)])])
  (cond (!decide ((Val.kind v)=(3:Int)))
  (some [(.sl .bs ([]:List UInt8)),(.ag [(.i .i64 5),(.i .i64 0),(.sl .is ([]:List Int))])])
  (ck (decide (bx.dk (bx.of [] v)≤100000)) (cond (decide ((16777216:Int)<v3))
  (some [(.sl .bs ([]:List UInt8)),(.ag [(.i .i64 9),(.i .i64 0),(.sl .is ([]:List Int))])])
  (ck (decide (bx.cw ((Val.kids v))≤100000)) (some [(.sl .bs ((Bs.iR ((Val.kids v))))),(.ag [(.i .i64 0),(.i .i64 0),(.sl .is ([]:List Int))])]))))))=ρ):Je.F v=ρ:=Eq.trans (by kernel_rfl) (K _ rfl _ rfl _ rfl)
end
end Go.Eng
set_option maxRecDepth 20000
namespace Go.Eng
open Go.IntWalk
theorem eR.goal (r:Int):eR.F r=some [.b (dp.jg r)]:=by
 refine eR.cR r ?_
 intro v1 h1 v2 h2 v3 h3
 subst h1 h2 h3
 by_cases a:0≤r <;> by_cases b:r≤1114111 <;> by_cases c:r<55296 <;> simp [ck,a,b,c,dp.jg]
theorem BC:∀n,n<256→((n &&& 192=128) ↔ (128≤n∧n<192)):=by decide +kernel
theorem Dq:∀n,n<256→(128≤n∧n<192)→n &&& 63=n - 128:=by decide +kernel
theorem Dr:∀n,n<256→(192≤n∧n<224)→n &&& 31=n - 192:=by decide +kernel
theorem Ds:∀n,n<256→(224≤n∧n<240)→n &&& 15=n - 224:=by decide +kernel
theorem Fs:∀n,n<256→(240≤n∧n<248)→n &&& 7=n - 240:=by decide +kernel
theorem z7 (c:UInt8):c.toNat<256:=by have:=c.toNat_lt;simpa using this
theorem uW (c:UInt8):decide ((c &&& (192:UInt8))=(128:UInt8))=decide (128≤c.toNat∧c.toNat<192):=by
 have h:=BC c.toNat (z7 c)
 rw [aN]
 simp only [aF]
 rw [←h,←UInt8.toNat_inj,UInt8.toNat_and]
 exact Iff.rfl
theorem Et (c:UInt8) (h:128≤c.toNat∧c.toNat<192):((c &&& (63:UInt8)).toNat:Int)=((c.toNat - 128:Nat):Int):=by
 rw [UInt8.toNat_and]
 exact congrArg _ (Dq c.toNat (z7 c) h)
def uq (r:Option Nat) (more least:Nat):OT:=match r with
 | some r=>if r<least∨dp.jg r=false then some [.i .i64 0,.i .i64 0] else some [.i .i64 r,.i .i64 (more+1:Int)]
 | none=>some [.i .i64 0,.i .i64 0]
theorem yo (c:Nat) (more least:Nat) (l:IY):uq (dp.cont c more l) more least=some [.i .i64 (dp.jz c more least l).1,.i .i64 (dp.jz c more least l).2]:=by
 unfold uq dp.jz
 cases dp.cont c more l with
 | none=>rfl
 | some r=>simp only;split <;> rfl
theorem bB.end_ (r:Nat) (more least:Nat) (hm:more<8) :
  (ck (!(!(decide ((r:Int)<(least:Int)))) || (!(decide ((r:Int)<(least:Int))))) (ck (!(!(decide ((r:Int)<(least:Int)))) || (!(decide ((r:Int)<(least:Int))))) (ck ((decide ((r:Int)<(least:Int))) || (!(decide ((r:Int)<(least:Int))))) (cond (cond (decide ((r:Int)<(least:Int))) true (!(dp.jg r)))
  (bB.g1)
  (some [(.i .i64 (r:Int)),(.i .i64 (IntKind.i64.wrap ((more:Int)+(1:Int))))])))))=uq (some r) more least:=by
 simp only [aU,ba,eQ]
 rw [i64_in _ (by omega),bB.lP]
 unfold uq
 by_cases h:r<least
 ·simp [h]
 ·simp only [show ¬((r:Int)<(least:Int)) by omega,decide_false,af,h,false_or]
  cases dp.jg r <;> simp
theorem bB.tp (b:IY) (at_:Nat) (more least:Nat) (hm:more<8) (hb:b.length≤1099511627776) (eL:at_+more<b.length):∀(k i r:Nat),i+k=more+1→r<2 ^ (10+6 * i) →
  bB.g3 b at_ r more least i=uq (dp.cont r k (b.drop (at_+i))) more least:=by
 intro k
 induction k with
 | zero =>
  intro i r hi hr
  refine bB.ot _ _ _ _ _ _ ?_
  intro v1 h1 v2 h2 v3 h3 v4 h4 v5 h5 v6 h6 v7 h7
  rw [show decide ((i:Int)≤(more:Int))=false by simp;omega,af]
  subst h6 h7
  rw [dp.cont]
  exact bB.end_ r more least hm
 | succ k ih =>
  intro i r hi hr
  refine bB.ot _ _ _ _ _ _ ?_
  intro v1 h1 v2 h2 v3 h3 v4 h4 v5 h5 v6 h6 v7 h7
  have hw:IntKind.i64.wrap ((at_:Int)+(i:Int))=((at_+i:Nat):Int):=by rw [i64_in _ (by omega)];omega
  have E4:=drop_cons (l:=b) (i:=at_+i) (by omega) 0
  rw [show decide ((i:Int)≤(more:Int))=true by simp;omega,ao,hw]
  rw [hw,ar] at h1
  rw [bw (eT (by omega) (by omega)),E4,←h1,dp.cont,h2,uW]
  by_cases hc:128≤v1.toNat∧v1.toNat<192
  ·rw [aq hc,aa hc]
   simp only [aK,af]
   rw [bw (eT (by omega) (by omega))]
   have hp:2 ^ (10+6 * i) * 64=2 ^ (10+6 * (i+1)):=by rw [show 10+6 * (i+1)=(10+6 * i)+6 by omega,Nat.pow_add 2 (10+6 * i) 6]
   have DT:2 ^ (10+6 * (i+1))≤2 ^ 58:=Nat.pow_le_pow_right (by omega) (by omega)
   have Hp:r * 64+64≤2 ^ (10+6 * (i+1)):=by
    rw [←hp];have:=aR 64 (Nat.succ_le_of_lt hr);omega
   have e3:v3=((r * 64:Nat):Int):=by
    rw [h3]
    have:(min (((6:UInt64)).toNat) (IntKind.i64.bits))=6:=by decide
    rw [this,i64_in _ (by simp at DT;omega)];simp
   have e4:v4=((v1.toNat - 128:Nat):Int):=by
    rw [h4,Et v1 hc];exact i64_in _ (by omega)
   have e5:v5=((i+1:Nat):Int):=by rw [h5,i64_in _ (by omega)];omega
   have e6:intBitsV .or .i64 v3 v4=((r * 64+(v1.toNat - 128):Nat):Int):=by
    rw [e3,e4,An _ _ (by simp at DT;omega) (by omega)]
    have:=lk (a:=r) (b:=v1.toNat - 128) (k:=6) (by simp;omega)
    simp at this
    rw [this]
   rw [e6,e5,ih (i+1) _ (by omega) (by omega),Nat.add_assoc]
  ·rw [al hc,ab hc]
   simp only [aQ,ao]
   rw [bB.lP];rfl
theorem bB.Cy (b : IY) (at_ : Nat) (r more least : Nat) (hm : 1 ≤ more ∧ more < 8) (hb : b.length ≤ 1099511627776) (eL : at_ < b.length) (hr : r < 1024) :
    bB.j2 b at_ r more least = uq (dp.cont r more (b.drop (at_ + 1))) more least := by
  have zJ : ∀ (k r : Nat) (l : IY), l.length < k → dp.cont r k l = none := by
    intro k
    induction k with
    | zero => intro r l h; omega
    | succ k ih =>
      intro r l h
      cases l with
      | nil => rfl
      | cons c l => rw [dp.cont]; split
                    · exact ih _ _ (by simp at h; omega)
                    · rfl
  have key := fun (h : at_ + more < b.length) => bB.tp b at_ more least hm.2 hb h more 1 r (by omega) (by simp; omega)
  by_cases hx : at_ + more < b.length
  · rw [← key hx]
    refine bB.lO _ _ _ _ _ ?_
    intro v1 h1 v2 h2 v3 h3 v4 h4 v5 h5 v6 h6 v7 h7 v8 h8 v9 h9 v10 iU
    symm
    refine bB.ot _ _ _ _ _ _ ?_
    intro w1 k1 w2 k2 w3 k3 w4 k4 w5 k5 w6 k6 w7 k7
    have e1 : v1 = (b.length : Int) - at_ := by rw [h1]; exact i64_in _ (by omega)
    have e2 : v2 = (b.length : Int) - at_ - 1 := by rw [h2, e1]; exact i64_in _ (by omega)
    rw [show decide (v2 < (more : Int)) = false by simp; omega, af]
    have a1 : ((1 : Nat) : Int) = 1 := rfl
    simp only [a1] at k1 k2 k3 k4 k5 k6 k7 ⊢
    subst h3; subst h4; subst h5; subst h6; subst h7; subst h8; subst h9; subst iU; subst k1; subst k2; subst k3; subst k4; subst k5; subst k6; subst k7
    rfl
  · refine bB.lO _ _ _ _ _ ?_
    intro v1 h1 v2 h2 v3 h3 v4 h4 v5 h5 v6 h6 v7 h7 v8 h8 v9 h9 v10 iU
    have e1 : v1 = (b.length : Int) - at_ := by rw [h1]; exact i64_in _ (by omega)
    have e2 : v2 = (b.length : Int) - at_ - 1 := by rw [h2, e1]; exact i64_in _ (by omega)
    rw [show decide (v2 < (more : Int)) = true by simp; omega, ao, bB.lP, zJ _ _ _ (by simp; omega)]
    rfl
theorem Ek (lo hi n:Nat):(cond (decide ((lo:Int)≤(n:Int))) (decide ((n:Int)<(hi:Int))) false)=decide (lo≤n∧n<hi):=by
 by_cases a:lo≤n
 ·rw [show decide ((lo:Int)≤(n:Int))=true by simp;omega,ao,aN];simp;omega
 ·rw [show decide ((lo:Int)≤(n:Int))=false by simp;omega,af,ab (by omega)]
theorem bB.goal (b:IY) (at_:Int) (hp:decide (b.length≤1099511627776)=true):bB.F b at_=some [.i .i64 (dp.iY b at_).1,.i .i64 (dp.iY b at_).2]:=by
 have hb:b.length≤1099511627776:=au hp
 refine bB.cR b at_ ?_
 intro v1 h1 v2 h2 v3 h3 v4 h4 v5 h5 v6 h6 v7 h7 v8 h8 v9 h9
 unfold dp.iY
 by_cases h0:at_<0
 ·subst h1
  simp [h0,ck,bB.lP]
 ·have hd0:decide (at_<0)=false:=ab h0
  obtain ⟨i,rfl⟩:=Int.eq_ofNat_of_zero_le (show 0≤at_ by omega)
  rw [hd0] at h1 ⊢
  subst h1
  simp only [aQ,aK,Bool.false_or,Bool.or_true,eQ,af,ar] at h2 ⊢
  by_cases hl:b.length≤i
  ·rw [show decide ((b.length:Int)≤(i:Int))=true by simp;omega,aq (.inr (by omega)),ao,bB.lP];rfl
  ·rw [show decide ((b.length:Int)≤(i:Int))=false by simp;omega,al (by omega),af,bw (eT (by omega) (by omega)),drop_cons (l:=b) (i:=i) (by omega) 0,←h2,dp.rune]
   have hc:=z7 v2
   have e3:v3=(v2.toNat:Int):=by rw [h3];exact i64_in _ (by omega)
   have an:∀(m:Nat),m<256→intBitsV .and .i64 v3 m=((v2.toNat &&& m:Nat):Int):=fun m h=>by rw [e3,zd _ _ (by omega) (by omega)]
   have Ij:v5=((v2.toNat &&& 31:Nat):Int):=h5.trans (an 31 (by omega))
   have Ii:v7=((v2.toNat &&& 15:Nat):Int):=h7.trans (an 15 (by omega))
   have Ih:v9=((v2.toNat &&& 7:Nat):Int):=h9.trans (an 7 (by omega))
   have e4:v4=decide (192≤v2.toNat∧v2.toNat<224):=by rw [h4,e3];exact Ek 192 224 _
   have e6:v6=decide (224≤v2.toNat∧v2.toNat<240):=by rw [h6,e3];exact Ek 224 240 _
   have e8:v8=decide (240≤v2.toNat∧v2.toNat<248):=by rw [h8,e3];exact Ek 240 248 _
   have J:∀(r more least:Nat),1≤more∧more<8→r<1024→bB.j2 b i r more least=some [.i .i64 (dp.jz r more least (b.drop (i+1))).1,.i .i64 (dp.jz r more least (b.drop (i+1))).2]:=fun r more least h1 h2 =>
    (bB.Cy b i r more least h1 hb (by omega) h2).trans (yo _ _ _ _)
   simp only [aU,eQ]
   by_cases c1:v2.toNat<128
   ·rw [aq c1,e3,show decide ((v2.toNat:Int)<128)=true by simp;omega,ao];rfl
   ·rw [al c1,show decide (v3<(128:Int))=false by rw [e3];simp;omega,af,e4]
    by_cases c2:192≤v2.toNat∧v2.toNat<224
    ·rw [aq c2,aa c2,ao,Ij,Dr _ hc c2];exact J _ 1 128 (by omega) (by omega)
    ·rw [al c2,ab c2,af,e6]
     by_cases c3:224≤v2.toNat∧v2.toNat<240
     ·rw [aq c3,aa c3,ao,Ii,Ds _ hc c3];exact J _ 2 2048 (by omega) (by omega)
     ·rw [al c3,ab c3,af,e8]
      by_cases c4:240≤v2.toNat∧v2.toNat<248
      ·rw [aq c4,aa c4,ao,Ih,Fs _ hc c4];exact J _ 3 65536 (by omega) (by omega)
      ·rw [al c4,ab c4,af,bB.lP];rfl
theorem dp.lf (l:IY):0≤(dp.rune l).2∧(dp.rune l).2≤l.length:=by
 have vh:∀(k r q:Nat) (l:IY),dp.cont r k l=some q→k≤l.length:=by
  intro k
  induction k with
  | zero=>intro r q l _;omega
  | succ k ih =>
   intro r q l h
   cases l with
   | nil=>cases h
   | cons c l =>
    rw [dp.cont] at h
    split at h
    ·have:=ih _ _ _ h;simp;omega
    ·cases h
 have ES:∀(r more least:Nat) (l:IY),0≤(dp.jz r more least l).2∧(dp.jz r more least l).2≤l.length+1:=by
  intro r more least l
  unfold dp.jz
  cases h:dp.cont r more l with
  | none=>simp;omega
  | some q =>
   have:=vh _ _ _ _ h
   simp only
   split <;> simp <;> omega
 cases l with
 | nil=>exact ⟨by decide,by decide⟩
 | cons c l =>
  unfold dp.rune
  simp only [aJ]
  split
  ·simp;omega
  ·split
   ·have:=ES (c.toNat - 192) 1 128 l;omega
   ·split
    ·have:=ES (c.toNat - 224) 2 2048 l;omega
    ·split
     ·have:=ES (c.toNat - 240) 3 65536 l;omega
     ·simp;omega
theorem dp.wa (l:IY):∀n,l.length≤n→dp.kK n l=dp.kK l.length l:=by
 have key:∀(m:Nat) (l:IY),l.length≤m→∀n,l.length≤n→dp.kK n l=dp.kK l.length l:=by
  intro m
  induction m with
  | zero =>
   intro l hl n hn
   have:l=[]:=List.length_eq_zero_iff.1 (by omega)
   subst this
   cases n with
   | zero=>rfl
   | succ n=>rfl
  | succ m ih =>
   intro l hl n hn
   cases h:l.length with
   | zero =>
    have:l=[]:=List.length_eq_zero_iff.1 h
    subst this
    cases n <;> rfl
   | succ k =>
    cases n with
    | zero=>omega
    | succ n =>
     unfold dp.kK
     have hs:=dp.lf l
     by_cases h0:(dp.rune l).2=0
     ·rw [aq h0,aq h0]
     ·rw [al h0,al h0]
      have hd:(l.drop (dp.rune l).2.toNat).length≤k:=by simp;omega
      rw [ih _ (by simp;omega) n (by simp;omega),ih _ (by simp;omega) k hd]
 exact fun n hn=>key _ l (Nat.le_refl _) n hn
theorem dp.uv (l:IY) (h:(dp.rune l).2≠0):dp.look l=((dp.look (l.drop (dp.rune l).2.toNat)).1+(dp.rune l).2.toNat,(dp.look (l.drop (dp.rune l).2.toNat)).2+1):=by
 have hs:=dp.lf l
 unfold dp.look
 cases hl:l.length with
 | zero=>omega
 | succ k =>
  rw [dp.kK,al h]
  simp only
  rw [dp.wa _ k (by simp;omega)]
theorem dp.uw (l:IY) (h:(dp.rune l).2=0):dp.look l=(0,0):=by
 unfold dp.look
 cases l.length with
 | zero=>rfl
 | succ k=>rw [dp.kK,aq h]
theorem dp.rP (b:IY) (i:Nat) (h:i<b.length):dp.iY b i=dp.rune (b.drop i):=by
 unfold dp.iY;rw [al (by omega),ar]
theorem bK.fx (b:IY) (hb:b.length≤1099511627776):∀(m i k:Nat),b.length - i≤m→i≤b.length→k≤i →
  bK.l1 b i k=some [.i .i64 ((i+(dp.look (b.drop i)).1:Nat):Int),.i .i64 ((k+(dp.look (b.drop i)).2:Nat):Int)]:=by
 intro m
 induction m with
 | zero =>
  intro i k hm hi hk
  refine bK.fo _ _ _ ?_
  intro v1 h1 v2 h2
  rw [show decide ((i:Int)<(b.length:Int))=false by simp;omega,af,bK.jE,aW (by omega)]
  rfl
 | succ m ih =>
  intro i k hm hi hk
  by_cases eL:i<b.length
  ·refine bK.fo _ _ _ ?_
   intro v1 h1 v2 h2
   rw [dp.rP b i eL] at h1 ⊢
   have hs:=dp.lf (b.drop i)
   rw [aL] at hs
   rw [show decide ((i:Int)<(b.length:Int))=true by simp;omega,ao,bw (aa hb)]
   by_cases h0:(dp.rune (b.drop i)).2=0
   ·rw [aa h0,ao,bK.jE,dp.uw _ h0];rfl
   ·rw [ab h0,af,dp.uv _ h0]
    have e1:v1=((i+(dp.rune (b.drop i)).2.toNat:Nat):Int):=by rw [h1,i64_in _ (by omega)];omega
    have e2:v2=((k+1:Nat):Int):=by rw [h2,i64_in _ (by omega)];omega
    rw [e1,e2,ih _ _ (by omega) (by omega) (by omega),List.drop_drop]
    simp only [aA,bj,TV.i.injEq,true_and,and_true]
    exact ⟨by omega,by omega⟩
  ·refine bK.fo _ _ _ ?_
   intro v1 h1 v2 h2
   rw [show decide ((i:Int)<(b.length:Int))=false by simp;omega,af,bK.jE,aW (by omega)]
   rfl
theorem bK.goal (b:IY) (hp:decide (b.length≤1099511627776)=true):bK.F b=some [.i .i64 ((dp.look b).1:Int),.i .i64 ((dp.look b).2:Int)]:=by
 rw [bK.fh]
 have:=bK.fx b (au hp) b.length 0 0 (by omega) (by omega) (by omega)
 simpa using this
theorem utf_Check.goal (b:IY) (hp:decide (b.length≤1099511627776)=true):utf_Check.F b=some [.i .i64 ((dp.look b).1:Int),.b (dp.whole b)]:=by
 have e:decide (((dp.look b).1:Int)=(b.length:Int))=dp.whole b:=by unfold dp.whole;rw [aN];simp;omega
 rw [utf_Check.fh,bw hp,e]
theorem I1.end_ (r:Nat) (more least:Nat) {v7 v9:Bool} (h7:v7=(cond (decide ((r:Int)<(least:Int))) true (decide ((1114111:Int)<(r:Int))))) (h9:v9=(cond (decide ((55296:Int)≤(r:Int))) (decide ((r:Int)≤(57343:Int))) false)) :
  cond (cond v7 true v9)
  (some [(.i .i64 (0:Int)),(.i .i64 (0:Int))])
  (some [(.i .i64 (r:Int)),(.i .i64 ((more+1:Nat):Int))])=uq (some r) more least:=by
 have e:cond v7 true v9=decide (r<least∨dp.jg r=false):=by
  subst h7 h9
  unfold dp.jg
  rw [aN]
  by_cases a:r<least
  ·simp [a]
  ·by_cases b:1114111<r
   ·simp [a,show (1114111:Int)<(r:Int) by omega] <;> omega
   ·by_cases c:55296≤r
    ·simp [a,show ¬(1114111:Int)<(r:Int) by omega,show (55296:Int)≤(r:Int) by omega] <;> omega
    ·simp [a,show ¬(1114111:Int)<(r:Int) by omega,show ¬(55296:Int)≤(r:Int) by omega] <;> omega
 rw [e]
 unfold uq
 by_cases h:r<least∨dp.jg r=false
 ·rw [aa h];simp only [h,if_true,ao]
 ·rw [ab h];simp only [h,if_false,af];rfl
theorem KZ (a b c:Bool) (hc:c=(!a&&b)):(!(!a) || ((!a)&&(!b || c)))=true:=by subst hc;cases a <;> cases b <;> rfl
theorem I1.JJ (b:IY) (at_:Nat) (more least:Nat) (hm:more<8) (hb:b.length≤1099511627776) (eL:at_+more<b.length):∀(k i r:Nat),i+k=more+1→r<2 ^ (10+6 * i) →
  I1.l2 b at_ ((more+1:Nat):Int) r least i=uq (dp.cont r k (b.drop (at_+i))) more least:=by
 intro k
 induction k with
 | zero =>
  intro i r hi hr
  refine I1.Jv _ _ _ _ _ _ ?_
  intro v1 h1 v2 h2 v3 h3 v4 h4 v5 h5 v6 h6 v7 h7 v8 h8 v9 h9
  rw [show decide ((i:Int)<((more+1:Nat):Int))=false by simp;omega,af]
  simp only [aU,ba,eQ]
  rw [bw (KZ _ _ _ h8),dp.cont]
  exact I1.end_ r more least h7 h9
 | succ k ih =>
  intro i r hi hr
  refine I1.Jv _ _ _ _ _ _ ?_
  intro v1 h1 v2 h2 v3 h3 v4 h4 v5 h5 v6 h6 v7 h7 v8 h8 v9 h9
  have hw:IntKind.i64.wrap ((at_:Int)+(i:Int))=((at_+i:Nat):Int):=by rw [i64_in _ (by omega)];omega
  have E4:=drop_cons (l:=b) (i:=at_+i) (by omega) 0
  have hu:=z7 v1
  rw [show decide ((i:Int)<((more+1:Nat):Int))=true by simp;omega,ao,hw]
  rw [hw,ar] at h1
  have e2:v2=(v1.toNat:Int):=by rw [h2];exact i64_in _ (by omega)
  have e3:v3=!decide (128≤v1.toNat∧v1.toNat<192):=by
   rw [h3,e2,aN]
   by_cases a:v1.toNat<128
   ·simp [a];omega
   ·simp [show ¬(v1.toNat:Int)<128 by omega];omega
  simp only [aU,ba,eQ]
  rw [bw (eT (by omega) (by omega)),E4,←h1,dp.cont,e3]
  by_cases hc:128≤v1.toNat∧v1.toNat<192
  ·rw [aq hc,aa hc]
   simp only [aK,af]
   have hp:2 ^ (10+6 * i) * 64=2 ^ (10+6 * (i+1)):=by rw [show 10+6 * (i+1)=(10+6 * i)+6 by omega,Nat.pow_add 2 (10+6 * i) 6]
   have DT:2 ^ (10+6 * (i+1))≤2 ^ 58:=Nat.pow_le_pow_right (by omega) (by omega)
   have Hp:r * 64+64≤2 ^ (10+6 * (i+1)):=by
    rw [←hp];have:=aR 64 (Nat.succ_le_of_lt hr);omega
   simp at DT
   have e4:v4=((r * 64:Nat):Int):=by rw [h4,i64_in _ (by omega)];simp
   have e5:v5=((r * 64+(v1.toNat - 128):Nat):Int):=by
    rw [h5,e4,e2,i64_in (((r * 64:Nat):Int)+(v1.toNat:Int)) (by omega),i64_in _ (by omega)];omega
   have e6:v6=((i+1:Nat):Int):=by rw [h6,i64_in _ (by omega)];omega
   rw [e5,e6,ih (i+1) _ (by omega) (by omega),Nat.add_assoc]
  ·rw [al hc,ab hc]
   simp only [aQ,ao]
   rfl
theorem dp.JM:∀(k r:Nat) (l:IY),l.length<k→dp.cont r k l=none:=by
 intro k
 induction k with
 | zero=>intro r l h;omega
 | succ k ih =>
  intro r l h
  cases l with
  | nil=>rfl
  | cons c l =>
   rw [dp.cont]
   split
   ·exact ih _ _ (by simp at h;omega)
   ·rfl
theorem I1.KE (b:IY) (at_:Nat) (r more least:Nat) (hm:1≤more∧more<8) (hb:b.length≤1099511627776) (eL:at_<b.length) (hr:r<1024) :
  I1.j1 b at_ ((more+1:Nat):Int) r least=uq (dp.cont r more (b.drop (at_+1))) more least:=by
 refine I1.qy _ _ _ _ _ ?_
 intro v1 h1
 have e1:v1=(b.length:Int) - at_:=by rw [h1];exact i64_in _ (by omega)
 by_cases hx:at_+more<b.length
 ·rw [show decide (v1<((more+1:Nat):Int))=false by rw [e1];simp;omega,af]
  exact I1.JJ b at_ more least hm.2 hb hx more 1 r (by omega) (by simp;omega)
 ·rw [show decide (v1<((more+1:Nat):Int))=true by rw [e1];simp;omega,ao,dp.JM _ _ _ (by simp;omega)]
  rfl
theorem I1.goal (b:IY) (at_:Int) (hp:decide (b.length≤1099511627776)=true):I1.F b at_=some [.i .i64 (dp.iY b at_).1,.i .i64 (dp.iY b at_).2]:=by
 have hb:b.length≤1099511627776:=au hp
 refine I1.cR b at_ ?_
 intro v1 h1 v2 h2 v3 h3 v4 h4 v5 h5 v6 h6 v7 h7 v8 h8 v9 h9
 unfold dp.iY
 simp only [aU,ba,bc,eQ]
 by_cases h0:at_<0
 ·rw [h1,aa h0,ao,ao,aq (.inl h0)]
 ·rw [h1,ab h0,af]
  obtain ⟨i,rfl⟩:=Int.eq_ofNat_of_zero_le (show 0≤at_ by omega)
  rw [ar] at h2
  by_cases hl:b.length≤i
  ·rw [show decide ((b.length:Int)≤(i:Int))=true by simp;omega,aq (.inr (by omega)),ao]
  ·rw [show decide ((b.length:Int)≤(i:Int))=false by simp;omega,al (by omega),af,bw (eT (by omega) (by omega)),ar,drop_cons (l:=b) (i:=i) (by omega) 0,←h2,dp.rune]
   have hc:=z7 v2
   have e3:v3=(v2.toNat:Int):=by rw [h3];exact i64_in _ (by omega)
   have e4:v4=decide (192≤v2.toNat∧v2.toNat<224):=by rw [h4,e3];exact Ek 192 224 _
   have e6:v6=decide (224≤v2.toNat∧v2.toNat<240):=by rw [h6,e3];exact Ek 224 240 _
   have e8:v8=decide (240≤v2.toNat∧v2.toNat<248):=by rw [h8,e3];exact Ek 240 248 _
   have J:∀(r more least:Nat),1≤more∧more<8→r<1024→I1.j1 b i ((more+1:Nat):Int) r least=some [.i .i64 (dp.jz r more least (b.drop (i+1))).1,.i .i64 (dp.jz r more least (b.drop (i+1))).2]:=fun r more least h1 h2 =>
    (I1.KE b i r more least h1 hb (by omega) h2).trans (yo _ _ _ _)
   by_cases c1:v2.toNat<128
   ·rw [aq c1,e3,show decide ((v2.toNat:Int)<128)=true by simp;omega,ao]
   ·rw [al c1,show decide (v3<(128:Int))=false by rw [e3];simp;omega,af,e4]
    by_cases c2:192≤v2.toNat∧v2.toNat<224
    ·rw [aq c2,aa c2,ao,show v5=((v2.toNat - 192:Nat):Int) by rw [h5,e3,i64_in _ (by omega)];omega];exact J _ 1 128 (by omega) (by omega)
    ·rw [al c2,ab c2,af,e6]
     by_cases c3:224≤v2.toNat∧v2.toNat<240
     ·rw [aq c3,aa c3,ao,show v7=((v2.toNat - 224:Nat):Int) by rw [h7,e3,i64_in _ (by omega)];omega];exact J _ 2 2048 (by omega) (by omega)
     ·rw [al c3,ab c3,af,e8]
      by_cases c4:240≤v2.toNat∧v2.toNat<248
      ·rw [aq c4,aa c4,ao,show v9=((v2.toNat - 240:Nat):Int) by rw [h9,e3,i64_in _ (by omega)];omega];exact J _ 3 65536 (by omega) (by omega)
      ·rw [al c4,ab c4,af]
theorem I3.fx (b:IY) (hb:b.length≤1099511627776):∀(m i:Nat),b.length - i≤m→i≤b.length →
  I3.l1 b i=some [.i .i64 ((i+(dp.look (b.drop i)).1:Nat):Int),.b (decide (i+(dp.look (b.drop i)).1=b.length))]:=by
 intro m
 induction m with
 | zero =>
  intro i hm hi
  refine I3.fo _ _ ?_
  intro v1 h1
  rw [show decide ((i:Int)<(b.length:Int))=false by simp;omega,af,aW (by omega)]
  have:(dp.look []).1=0:=by decide
  rw [this,aa (show i+0=b.length by omega),show i+0=b.length by omega]
 | succ m ih =>
  intro i hm hi
  refine I3.fo _ _ ?_
  intro v1 h1
  by_cases eL:i<b.length
  ·rw [dp.rP b i eL] at h1 ⊢
   have hs:=dp.lf (b.drop i)
   rw [aL] at hs
   rw [show decide ((i:Int)<(b.length:Int))=true by simp;omega,ao,bw (aa hb)]
   by_cases h0:(dp.rune (b.drop i)).2=0
   ·rw [aa h0,ao,dp.uw _ h0,ab (show ¬i+(0,0).1=b.length by simp;omega)];rfl
   ·rw [ab h0,af,dp.uv _ h0]
    have e1:v1=((i+(dp.rune (b.drop i)).2.toNat:Nat):Int):=by rw [h1,i64_in _ (by omega)];omega
    rw [e1,ih _ (by omega) (by omega),List.drop_drop]
    simp only [aA,bj,TV.i.injEq,TV.b.injEq,true_and,and_true]
    refine ⟨by omega,?_⟩
    rw [aN];simp;omega
  ·rw [show decide ((i:Int)<(b.length:Int))=false by simp;omega,af,aW (by omega)]
   have:(dp.look []).1=0:=by decide
   rw [this,aa (show i+0=b.length by omega),show i+0=b.length by omega]
theorem I3.goal (b:IY) (hp:decide (b.length≤1099511627776)=true):I3.F b=some [.i .i64 ((dp.look b).1:Int),.b (dp.whole b)]:=by
 rw [I3.fh]
 have:=I3.fx b (au hp) b.length 0 (by omega) (by omega)
 simpa [dp.whole] using this
theorem I9.goal (s:IY) (hp:decide (s.length≤1099511627776)=true):I9.F s=some [.b (dp.whole s)]:=by
 rw [I9.fh,bw (yY (au hp)),bw hp]
theorem I5.fx (s:IY) (hb:s.length≤1099511627776):∀(m i:Nat),s.length - i≤m→i≤s.length→I5.l1 s i=some [.b ((s.drop i).contains 0)]:=by
 intro m
 induction m with
 | zero =>
  intro i hm hi
  refine I5.fo _ _ ?_
  intro v1 h1 v2 h2
  rw [show decide ((i:Int)<(s.length:Int))=false by simp;omega,af,aW (by omega)];rfl
 | succ m ih =>
  intro i hm hi
  refine I5.fo _ _ ?_
  intro v1 h1 v2 h2
  rw [ar] at h1
  by_cases eL:i<s.length
  ·rw [show decide ((i:Int)<(s.length:Int))=true by simp;omega,ao,bw (eT (by omega) (by omega)),drop_cons (l:=s) eL 0,←h1]
   have e2:v2=((i+1:Nat):Int):=by rw [h2,i64_in _ (by omega)];omega
   by_cases h0:v1=0
   ·rw [h0];rfl
   ·rw [ab h0,af,e2,ih _ (by omega) (by omega),List.contains_cons]
    have:((0:UInt8) == v1)=false:=by rw [beq_eq_false_iff_ne];exact fun e=>h0 e.symm
    rw [this,Bool.false_or]
  ·rw [show decide ((i:Int)<(s.length:Int))=false by simp;omega,af,aW (by omega)];rfl
theorem I5.goal (s:IY) (hp:decide (s.length≤1099511627776)=true):I5.F s=some [.b (dp.zero s)]:=by
 rw [I5.fh]
 have:=I5.fx s (au hp) s.length 0 (by omega) (by omega)
 simpa [dp.zero] using this
end Go.Eng
set_option maxRecDepth 20000
namespace Go.Eng
open Go.IntWalk
theorem bX.goal (s:IY) (c:UInt8):bX.F s c=some [.i .i64 (Lib.indexByte s c)]:=bX.fh s c
theorem dB.goal (s t:IY) (hp:decide (t.length=1)=true):dB.F s t=some [.i .i64 (Lib.indexByte s (t.getD 0 0))]:=by
 have hl:t.length=1:=au hp
 refine dB.cR s t ?_
 intro v1 h1 v2 h2
 have e0:decide ((t.length:Int)=0)=false:=ab (by omega)
 have e1:decide ((t.length:Int)=1)=true:=aa (by omega)
 rw [e0] at h1 ⊢
 simp only [aQ,aK,Bool.false_or,bc,eQ,af] at h1 ⊢
 by_cases hs:t=s
 ·subst hs
  rw [h1,aa rfl,ao]
  obtain ⟨c,rfl⟩:∃c,t=[c]:=by
   match t,hl with
   | [c],_=>exact ⟨c,rfl⟩
  simp [Lib.indexByte]
 ·rw [h1,ab hs,af,e1,ao,bw (eT (by omega) (by omega)),h2];rfl
theorem dA.goal (s t:IY) (hp:decide (t.length=1)=true):dA.F s t=some [.i .i64 (Lib.indexByte s (t.getD 0 0))]:=by
 refine dA.cR s t ?_
 intro v1 h1
 rw [bw hp,h1]
theorem cr.goal (s t:IY) (hp:decide (t.length=1)=true):cr.F s t=some [.b (decide (0≤Lib.indexByte s (t.getD 0 0)))]:=by
 refine cr.cR s t ?_
 intro v1 h1
 rw [bw hp,h1]
theorem cH.goal (k:Int):cH.F k=some [.s (Tree.name k)]:=by
 refine cH.cR k ?_
 intro v1 h1 v2 h2
 unfold Tree.name
 by_cases a:k=127
 ·rw [aq a,aa a];rfl
 ·rw [al a,ab a,af]
  by_cases b:k=255
  ·rw [aq b,aa b];rfl
  ·rw [al b,ab b,af]
   simp only [aU,ba,eQ]
   by_cases c:k<0∨20≤k
   ·rw [aq c,show v1=true by rw [h1];by_cases d:k<0 <;> simp [d];omega];rfl
   ·rw [al c,show v1=false by rw [h1];by_cases d:k<0 <;> simp [d] <;> omega,af,bw (eT (by omega) (by omega)),bw (by simp;omega),h2];rfl
theorem zp.goal:zp.F=some [.sl .is Tree.kinds]:=by
 refine zp.cR ?_
 intro v1 h1
 rw [h1];rfl
def JD (k:Int):List Int→List IY→IY
 | a :: ks,s :: ss=>if a=k then s else JD k ks ss
 | _,_=>[]
theorem I4.fx (k:Int) (ss:List IY) (ks:List Int) (hl:ss.length=ks.length) (hb:ks.length≤1000):∀(m i:Nat),i+m=ks.length→I4.l1 k ss ks i=some [.s (JD k (ks.drop i) (ss.drop i))]:=by
 intro m
 induction m with
 | zero =>
  intro i hi
  refine I4.fo _ _ _ _ ?_
  intro v1 h1 v2 h2 v3 h3
  rw [ab (by omega),af,aW (by omega)];rfl
 | succ m ih =>
  intro i hi
  refine I4.fo _ _ _ _ ?_
  intro v1 h1 v2 h2 v3 h3
  rw [ar] at h1 h2
  rw [aa (by omega),ao,bw (eT (by omega) (by omega)),drop_cons (l:=ks) (i:=i) (by omega) 0,drop_cons (l:=ss) (i:=i) (by omega) [],JD,←h1,←h2]
  by_cases h:v1=k
  ·rw [aq h,aa h,ao,bw (eT (by omega) (by omega)),bw (aa (by omega))]
  ·rw [al h,ab h,af,show v3=((i+1:Nat):Int) by rw [h3,i64_in _ (by omega)];omega,ih _ (by omega)]
theorem Tree.um (k:Int) (h:k ∉ Tree.kinds):Tree.name k=[]:=by
 simp only [Tree.kinds,aC,List.not_mem_nil,not_or] at h
 unfold Tree.name
 rw [al (by omega),al (by omega)]
 by_cases c:k<0∨20≤k
 ·rw [aq c]
 ·have:k=0:=by omega
  subst this
  rfl
theorem Jy (k:Int):∀(ks:List Int) (ss:List IY),k ∉ ks→JD k ks ss=[]
 | [],_,_=>rfl
 | _ :: _,[],_=>rfl
 | a :: ks,s :: ss,h=>by
  rw [JD,al (fun e=>h (by rw [e];exact List.mem_cons_self ..))]
  exact Jy k ks ss fun hm=>h (List.mem_cons_of_mem _ hm)
theorem I4.goal (k:Int):I4.F k=some [.s (Tree.name k)]:=by
 refine I4.cR k ?_
 intro v1 h1
 rw [show (0:Int)=((0:Nat):Int) from rfl,I4.fx k v1 Tree.kinds (by rw [h1];rfl) (by decide) 21 0 (by decide)]
 by_cases h:k∈Tree.kinds
 ·have key:∀k∈Tree.kinds,JD k (Tree.kinds.drop 0) (v1.drop 0)=Tree.name k:=by rw [h1];decide +kernel
  rw [key k h]
 ·rw [Tree.um k h,Jy _ _ _ (by simpa using h)]
theorem IW.goal (k:Int):IW.F k=some [.b (Tree.fu 0 k),.b (Tree.fu 1 k),.b (Tree.fu 2 k),.b (Tree.fu 3 k),.b (Tree.fu 4 k),.b (Tree.fu 5 k),.b (Tree.fu 6 k)]:=by
 have key:∀k,k∈Tree.kinds∨k ∉ Tree.kinds:=fun k=>Decidable.em _
 simp only [IW.fh,IW.qz,IW.jE,IW.zx,IW.Cw,Tree.fu]
 by_cases a1:k=1
 ·subst a1;rfl
 by_cases a2:k=2
 ·subst a2;rfl
 by_cases a3:k=3
 ·subst a3;rfl
 by_cases a4:k=4
 ·subst a4;rfl
 by_cases a5:k=5
 ·subst a5;rfl
 by_cases a7:k=7
 ·subst a7;rfl
 by_cases a8:k=8
 ·subst a8;rfl
 by_cases a9:k=9
 ·subst a9;rfl
 by_cases GN:k=11
 ·subst GN;rfl
 by_cases a12:k=12
 ·subst a12;rfl
 by_cases GM:k=13
 ·subst GM;rfl
 by_cases GK:k=14
 ·subst GK;rfl
 by_cases GJ:k=15
 ·subst GJ;rfl
 by_cases GI:k=16
 ·subst GI;rfl
 by_cases GH:k=17
 ·subst GH;rfl
 by_cases GG:k=18
 ·subst GG;rfl
 by_cases GF:k=19
 ·subst GF;rfl
 simp [a1,a2,a3,a4,a5,a7,a8,a9,GN,a12,GM,GK,GJ,GI,GH,GG,GF]
end Go.Eng
set_option maxRecDepth 20000
namespace Go.Eng
open Go.IntWalk
theorem fD (c:UInt8):∀s:IY,decide (0≤Lib.indexByte s c)=s.contains c
 | []=>by simp [Lib.indexByte]
 | b :: l=>by
  have ih:=fD c l
  have AP:=Lib.indexByte_ge l c
  rw [List.contains_cons,←ih]
  rw [Lib.indexByte]
  by_cases h:b=c
  ·subst h;simp
  ·rw [al (by simpa using h),show (c == b)=false by rw [beq_eq_false_iff_ne];exact fun e=>h e.symm,Bool.false_or]
   by_cases h1:Lib.indexByte l c=-1
   ·rw [h1];rfl
   ·rw [al (by simpa using h1),aa (by omega),aa (by omega)]
theorem cE.goal (s:IY) (plain:Bool) (hp:decide (s.length≤1099511627776)=true):cE.F s plain=some [.b (Tree.dr s plain)]:=by
 have e:decide (0≤Lib.indexByte s (([0]:IY).getD 0 0))=dp.zero s:=fD 0 s
 refine cE.cR s plain ?_
 intro v1 h1 v2 h2
 rw [bw (yY (au hp)),bw hp]
 rw [e] at h1
 subst h1 h2
 unfold Tree.dr
 cases dp.whole s <;> cases plain <;> cases dp.zero s <;> rfl
theorem bq.goal (v:Val):bq.F v=some [.b (Tree.fieldsOK v)]:=by
 have J2:∀(x:Bool) (v:Val),bq.j2 x v=some [.b (x&&decide (v.bits=0)&&decide (v.high=0)&&decide (v.low=0)&&decide (v.text=[])&&decide (v.more=[])&&decide (v.sub=0)&&decide (v.bytes=[])&&decide (v.kids=[]))]:=by
  intro x v
  refine bq.lO x v ?_
  intro v1 h1 v2 h2 v3 h3 v4 h4 v5 h5 v6 h6 v7 h7 v8 h8 v9 h9 v10 iU
  simp only [aU,eQ]
  have e1:decide (v7=0)=decide (v.bytes=[]):=by rw [h7,aN];simp
  have e2:decide (v9=0)=decide (v.kids=[]):=by rw [h9,aN];simp
  rw [e1] at h8
  rw [e2] at iU
  subst h1 h2 h3 h4 h5 h6 h8 iU
  simp only [Bool.cond_false_right]
 have J3:∀(x0:Bool) (x1:Int) (x2:Bool) (x3:Val),bq.j3 x0 x1 x2 x3=cond x2
  (bq.j2 x0 (Val.mk (Val.kind x3) (Val.bits x3) (Val.high x3) (Val.low x3) ([]:IY) (Val.more x3) (Val.sub x3) (Val.bytes x3) (Val.kids x3)))
  (cond (decide (x1=(11:Int)))
  (bq.j2 x0 (Val.mk (Val.kind x3) (Val.bits x3) (Val.high x3) (Val.low x3) ([]:IY) ([]:IY) (Val.sub x3) (Val.bytes x3) (Val.kids x3)))
  (cond (decide (x1=(5:Int)))
  (bq.j2 (decide (0≤x3.sub)&&decide (x3.sub≤255)) (Val.mk (Val.kind x3) (Val.bits x3) (Val.high x3) (Val.low x3) (Val.text x3) (Val.more x3) (0:Int) ([]:List UInt8) (Val.kids x3)))
  (cond (decide (x1=(7:Int)))
  (bq.j2 (decide (x3.bytes.length=12)) (Val.mk (Val.kind x3) (Val.bits x3) (Val.high x3) (Val.low x3) (Val.text x3) (Val.more x3) (Val.sub x3) ([]:List UInt8) (Val.kids x3)))
  (cond (decide (x1=(12:Int)))
  (bq.j2 (decide (x3.bytes.length=12)) (Val.mk (Val.kind x3) (Val.bits x3) (Val.high x3) (Val.low x3) ([]:IY) (Val.more x3) (Val.sub x3) ([]:List UInt8) (Val.kids x3)))
  (cond (decide (x1=(3:Int)))
  (bq.j4 x0 x1 (decide (x1=(3:Int))) x3)
  (bq.j4 x0 x1 (decide (x1=(4:Int))) x3)))))):=by
  intro x0 x1 x2 x3
  refine bq.j3_in x0 x1 x2 x3 ?_
  intro v1 h1 v2 h2
  have e:decide (v2=12)=decide (x3.bytes.length=12):=by rw [h2,aN];simp;omega
  simp only [aU,eQ,e,h1,Bool.cond_false_right]
 obtain ⟨k,b,hi,lo,t,m,s,y,ks⟩:=v
 simp only [bq.fh,bq.qz,J3,bq.Cw,J2,Tree.fieldsOK,Tree.fu]
 by_cases a1:k=1
 ·subst a1;simp;grind
 by_cases a2:k=2
 ·subst a2;simp;grind
 by_cases a3:k=3
 ·subst a3;simp;grind
 by_cases a4:k=4
 ·subst a4;simp;grind
 by_cases a5:k=5
 ·subst a5;simp;grind
 by_cases a7:k=7
 ·subst a7;simp;grind
 by_cases a8:k=8
 ·subst a8;simp;grind
 by_cases a9:k=9
 ·subst a9;simp;grind
 by_cases GN:k=11
 ·subst GN;simp;grind
 by_cases a12:k=12
 ·subst a12;simp;grind
 by_cases GM:k=13
 ·subst GM;simp;grind
 by_cases GK:k=14
 ·subst GK;simp;grind
 by_cases GJ:k=15
 ·subst GJ;simp;grind
 by_cases GI:k=16
 ·subst GI;simp;grind
 by_cases GH:k=17
 ·subst GH;simp;grind
 by_cases GG:k=18
 ·subst GG;simp;grind
 by_cases GF:k=19
 ·subst GF;simp;grind
 simp [a1,a2,a3,a4,a5,a7,a8,a9,GN,a12,GM,GK,GJ,GI,GH,GG,GF];grind
end Go.Eng
set_option maxRecDepth 20000
namespace Go.Eng
open Go.IntWalk
theorem Fm (a:Bool):(!a || a)=true:=by cases a <;> rfl
theorem nv {R:Type} {b p:Bool} {x y:Option R} (hp:p=true) (h:b=true→x=y):cond b (both x (ck p y)) (ck p y)=y:=by
 subst hp
 cases b with
 | false=>rfl
 | true=>rw [h rfl];exact uZ _
theorem bQ.goal (a:List UInt8) (hp:eO a.length 1=true):bQ.F a=some [.sl .bs a]:=by
 rw [bQ.fh]
 exact nv (by simpa using hp) fun h=>by rw [List.isEmpty_iff.1 h];rfl
theorem df.goal (l:List Int) (hp:eO l.length 8=true):df.F l=some [.sl .is l,.sl .is l]:=by
 rw [df.fh]
 exact nv (by simpa using hp) fun h=>by rw [List.isEmpty_iff.1 h];rfl
theorem cI.goal (n:Int):cI.F n=some [.b (decide (1≤n∧n≤8))]:=by
 refine cI.cR _ ?_
 intro v1 h1
 rw [bw (Fm _),bw (Fm _),h1,Bool.decide_and]
 cases decide (1≤n) <;> rfl
theorem eH.goal (b:List UInt8) (hp:decide (b.length≤1099511627776)=true):eH.F b=some [.ag (bA.cells ⟨b,0⟩)]:=by
 have hp:=au hp
 rw [eH.fh,bw (fQ (by omega) (by omega))];rfl
theorem dJ.goal (r:bA) (hp:decide (0≤r.at_∧r.at_≤r.b.length∧r.b.length≤1099511627776)=true):dJ.F r=some [.i .i64 ((r.b.length:Int) - r.at_),.ag (bA.cells r)]:=by
 obtain ⟨h1,h2,h3⟩:=au hp
 refine dJ.cR _ ?_
 intro v1 e1
 rw [e1,i64_in _ (by omega)]
theorem er.goal (r:bA) (n:Int) (hp:decide (1≤n∧n≤8∧0≤r.at_∧r.at_≤r.b.length∧r.b.length≤1099511627776)=true):er.F r n=some [.sl .bs (Bs.fH r n),.b (Bs.can r n),.ag (bA.cells (Bs.jA r n))]:=by
 obtain ⟨h1,h2,h3,h4,h5⟩:=au hp
 refine er.cR _ _ ?_
 intro v1 e1 v2 e2 v3 e3 v4 e4 v5 e5
 have f1:v1=false:=by rw [e1,ab (by omega),af,ab (by omega)]
 rw [f1,af] at e3
 rw [ab (by omega),f1,aa ⟨h3,h4,h5⟩,e3,e2]
 refine (show _=cond (decide ((r.b.length:Int) - r.at_<n)) _ _ from rfl).trans ?_
 unfold Bs.fH Bs.jA Bs.can
 by_cases c:(r.b.length:Int) - r.at_<n
 ·rw [aa c,ao,ab (by omega),al (by simp),al (by simp)]
 ·rw [ab c,af,aa ⟨h1,h2,by omega⟩,aq rfl,aq rfl]
  have q4:v4=r.at_+n:=by rw [e4,i64_in _ (by omega)]
  have q5:IntKind.i64.wrap (v4 - n)=r.at_:=by rw [q4,i64_in _ (by omega)];omega
  rw [q5] at e5 ⊢
  rw [bw (gj (by omega) (by omega) (by omega)),e5,q4,List.drop_take,show (r.at_+n).toNat - r.at_.toNat=n.toNat by omega];rfl
theorem et.goal (r:bA) (n:Int) (hp:decide (0≤n∧0≤r.at_∧r.at_≤r.b.length∧r.b.length≤1099511627776)=true):et.F r n=some [.sl .bs (Bs.pW r n),.b (Bs.qY r n),.ag (bA.cells (Bs.o0 r n))]:=by
 obtain ⟨h1,h3,h4,h5⟩:=au hp
 refine et.cR _ _ ?_
 intro v1 e1 v2 e2 v3 e3 v4 e4
 rw [ab (by omega),af,e1] at e2
 rw [ab (by omega),aa ⟨h3,h4,h5⟩,e2]
 refine (show _=cond (decide ((r.b.length:Int) - r.at_<n)) _ _ from rfl).trans ?_
 unfold Bs.pW Bs.o0 Bs.qY
 by_cases c:(r.b.length:Int) - r.at_<n
 ·rw [aa c,ao,ab (by omega),al (by simp),al (by simp)]
 ·rw [ab c,af,aa ⟨h1,by omega⟩,aq rfl,aq rfl]
  have q4:v3=r.at_+n:=by rw [e3,i64_in _ (by omega)]
  have q5:IntKind.i64.wrap (v3 - n)=r.at_:=by rw [q4,i64_in _ (by omega)];omega
  rw [q5] at e4 ⊢
  have q6:v4=(r.b.drop r.at_.toNat).take n.toNat:=by rw [e4,q4,List.drop_take,show (r.at_+n).toNat - r.at_.toNat=n.toNat by omega]
  have q7:v4.length≤1099511627776:=by rw [q6,ay,aL];omega
  rw [bw (gj (by omega) (by omega) (by omega)),bw (fQ (by omega) (by omega)),q6,q4];rfl
namespace Bs
theorem mV:∀a b:IY,gD (a++b)=gD a+256 ^ a.length * gD b
 | [],b=>by simp [gD]
 | c :: a,b=>by
  simp only [List.cons_append,gD,mV a b,aJ,Nat.pow_succ]
  rw [Nat.mul_add,Nat.mul_comm (256 ^ a.length) 256,Nat.mul_assoc];omega
theorem lu:∀a:IY,gD a<256 ^ a.length
 | []=>by simp [gD]
 | c :: a=>by
  have:=lu a
  have:=c.toNat_lt
  simp only [gD,aJ,Nat.pow_succ];omega
theorem lk {x c k:Nat} (h:x<2 ^ k):x ||| c * 2 ^ k=x+c * 2 ^ k:=by
 have:=Nat.two_pow_add_eq_or_of_lt h c
 rw [Nat.or_comm,Nat.mul_comm c,←this,Nat.add_comm]
theorem vR (i:Nat):2 ^ (8 * i)=256 ^ i:=by rw [Nat.pow_mul]
end Bs
theorem cT.fx (ok:Bool) (x:List UInt8) (b:List UInt8) (at_:Int) (hx:x.length≤8):∀(m i:Nat) (v:UInt64),i+m=x.length→v.toNat=Bs.gD (x.take i)→cT.l1 ok v x (x.length:Int) (i:Int) b at_=some [.u64 (UInt64.ofNat (Bs.gD x)),.b ok,.ag [.sl .bs b,.i .i64 at_]]
 | 0,i,v,hi,hv=>by
  refine cT.fo _ _ _ _ _ _ _ ?_
  intro v1 h1 v2 h2 v3 h3 v4 h4 v5 h5
  rw [ab (by omega),af]
  rw [List.take_of_length_le (by omega)] at hv
  rw [←hv,UInt64.ofNat_toNat]
 | m+1,i,v,hi,hv=>by
  refine cT.fo _ _ _ _ _ _ _ ?_
  intro v1 h1 v2 h2 v3 h3 v4 h4 v5 h5
  rw [ar] at h1
  have e3:v3=((8 * i:Nat):Int):=by rw [h3,i64_in _ (by omega)];omega
  have e5:v5=((i+1:Nat):Int):=by rw [h5,i64_in _ (by omega)];omega
  have hd:x.take (i+1)=x.take i++[v1]:=by rw [h1,List.take_add_one,ah (by omega),ai,ah (by omega)];rfl
  have hc:=v1.toNat_lt
  have eL:=Bs.lu (x.take i)
  have hl:(x.take i).length=i:=by rw [ay];omega
  have e4:v4.toNat=Bs.gD (x.take (i+1)):=by
   have e2:v2.toNat=v1.toNat:=by
    have:=k8 (v1.toNat:Int)
    rw [fv] at this
    rw [h2];omega
   have p1:(256:Nat) ^ i≤256 ^ 7:=Nat.pow_le_pow_right (by omega) (by omega)
   have p2:v1.toNat * 256 ^ i≤255 * 256 ^ 7:=Nat.mul_le_mul (by omega) p1
   have es:(nW v2 (8 * i)).toNat=v1.toNat * 256 ^ i:=by
    unfold nW
    rw [UInt64.toNat_ofNat',e2,Bs.vR]
    exact Nat.mod_eq_of_lt (Nat.lt_of_le_of_lt p2 (by decide))
   rw [h4,e3,ar,UInt64.toNat_or,es,←Bs.vR i,hv,Bs.lk (by rw [Bs.vR];rw [hl] at eL;exact eL),hd,Bs.mV,hl,Bs.vR]
   simp only [Bs.gD]
   rw [Nat.mul_comm];simp
  rw [aa (by omega),ao,bw (eT (by omega) (by omega)),bw (aa (by omega)),e5]
  exact cT.fx ok x b at_ hx m (i+1) v4 (by omega) e4
theorem Bs.ui (r:bA) (n:Int):(Bs.fH r n).length≤8:=by
 unfold Bs.fH
 split
 ·rename_i h
  have h:=au h
  rw [ay];omega
 ·simp
theorem cT.goal (r:bA) (n:Int) (hp:decide (1≤n∧n≤8∧0≤r.at_∧r.at_≤r.b.length∧r.b.length≤1099511627776)=true):cT.F r n=some [.u64 (UInt64.ofNat (Bs.gD (Bs.fH r n))),.b (Bs.can r n),.ag (bA.cells (Bs.jA r n))]:=by
 refine cT.cR _ _ ?_
 intro v1 h1
 rw [bw hp,h1]
 exact cT.fx _ _ _ _ (Bs.ui r n) (Bs.fH r n).length 0 0 (by omega) rfl
theorem eW.goal:eW.F=some [.ag [.pt],.sl .bs []]:=eW.fh
theorem dt.goal (v:Int) (b:List UInt8) (hp:decide (b.length≤1099511627776)=true):dt.F v b=some [.ag [.pt],.sl .bs (b++[UInt8.ofInt v])]:=by
 have hp:=au hp
 refine dt.cR _ _ ?_
 intro v1 h1
 rw [h1,bw (fQ (by simp;omega) (by simp;omega))]
theorem eF.goal (x b:List UInt8) (hp:decide (b.length+x.length≤2199023255552)=true):eF.F x b=some [.ag [.pt],.sl .bs (b++x)]:=by
 have hp:=au hp
 rw [eF.fh,bw (fQ (by omega) (by omega))]
theorem Bs.tE (v:UInt64) (i:Nat):UInt8.ofInt ((lK v (8 * i)).toNat:Int)=UInt8.ofNat (v.toNat / 256 ^ i % 256):=by
 have h1:(lK v (8 * i)).toNat=v.toNat / 256 ^ i:=by
  unfold lK
  rw [UInt64.toNat_ofNat',Bs.vR]
  exact Nat.mod_eq_of_lt (Nat.lt_of_le_of_lt (Nat.div_le_self _ _) v.toNat_lt)
 rw [h1]
 refine UInt8.toNat_inj.1 ?_
 have h2:=kA ((v.toNat / 256 ^ i:Nat):Int)
 rw [wrap_u8'] at h2
 rw [UInt8.toNat_ofNat']
 omega
theorem cK.fx (v:UInt64) (n:Nat) (hn:n≤8) (H8:1≤n):∀(m i:Nat) (b:List UInt8),i+m=n→b.length≤1099511627776+i→cK.l1 v (n:Int) (i:Int) b=some [.ag [.pt],.sl .bs (b++Bs.ff m (v.toNat / 256 ^ i))]
 | 0,i,b,hi,hb=>by
  refine cK.fo _ _ _ _ ?_
  intro v1 h1 v2 h2 v3 h3 v4 h4
  rw [aa (show (1:Int)≤n∧(n:Int)≤8 by omega),ao,ab (by omega)] at h1
  rw [aa (show (1:Int)≤n∧(n:Int)≤8 by omega),h1,Bs.ff,bm];rfl
 | m+1,i,b,hi,hb=>by
  refine cK.fo _ _ _ _ ?_
  intro v1 h1 v2 h2 v3 h3 v4 h4
  rw [aa (show (1:Int)≤n∧(n:Int)≤8 by omega),ao,aa (by omega)] at h1
  have e2:v2=((8 * i:Nat):Int):=by rw [h2,i64_in _ (by omega)];omega
  have e4:v4=((i+1:Nat):Int):=by rw [h4,i64_in _ (by omega)];omega
  rw [e2,ar,Bs.tE] at h3
  rw [aa (show (1:Int)≤n∧(n:Int)≤8 by omega),h1]
  refine Eq.trans (b:=ck (decide (0≤v2)) (ck (eO (b.length + [v3].length) 1) (cK.l1 v n v4 (b++[v3])))) rfl ?_
  rw [bw (aa (by omega)),bw (fQ (by simp;omega) (by simp;omega)),e4,cK.fx v n hn H8 m (i+1) _ (by omega) (by simp;omega),h3,Bs.ff,aB,Nat.div_div_eq_div_mul,←Nat.pow_succ];rfl
theorem cK.goal (v:UInt64) (n:Int) (b:List UInt8) (hp:decide (1≤n∧n≤8∧b.length≤1099511627776)=true):cK.F v n b=some [.ag [.pt],.sl .bs (b++Bs.ff n.toNat v.toNat)]:=by
 obtain ⟨h1,h2,h3⟩:=au hp
 obtain ⟨k,rfl⟩:∃k:Nat,n=(k:Int):=⟨n.toNat,by omega⟩
 have:=cK.fx v k (by omega) (by omega) k 0 b (by omega) (by omega)
 rw [cK.fh,ar]
 simpa using this
theorem Bs.bU:∀n v,(Bs.ff n v).length=n
 | 0,_=>rfl
 | n+1,v=>by rw [Bs.ff,aJ,Bs.bU n]
theorem Bs.s6:∀(n v i:Nat),i<n→(Bs.ff n v)[i]?=some (UInt8.ofNat (v / 256 ^ i % 256))
 | n+1,v,0,_=>by simp [Bs.ff]
 | n+1,v,i+1,h=>by
  rw [Bs.ff,List.getElem?_cons_succ,Bs.s6 n (v / 256) i (by omega),Nat.div_div_eq_div_mul,Nat.pow_succ']
theorem Bs.vJ {b x:IY} {a:Nat} (h:a+x.length≤b.length):(Bs.jr b a x).length=b.length:=by
 unfold Bs.jr
 simp only [ak,ay,aL];omega
theorem cQ.fx (v:UInt64) (n a:Nat) (hn:n≤8) (b:List UInt8) (hb:a+n≤b.length) (hl:b.length≤2199023255552):∀(m i:Nat),i+m=n→cQ.l1 (a:Int) v (n:Int) (i:Int) (Bs.jr b a ((Bs.ff n v.toNat).take i))=some [.b true,.ag [.pt],.sl .bs (Bs.jr b a (Bs.ff n v.toNat))]
 | 0,i,hi=>by
  refine cQ.fo _ _ _ _ _ ?_
  intro v1 h1 v2 h2 v3 h3 v4 h4
  rw [ab (by omega),af,List.take_of_length_le (by rw [Bs.bU];omega)]
 | m+1,i,hi=>by
  refine cQ.fo _ _ _ _ _ ?_
  intro v1 h1 v2 h2 v3 h3 v4 h4
  have e1:v1=((8 * i:Nat):Int):=by rw [h1,i64_in _ (by omega)];omega
  have e3:IntKind.i64.wrap ((a:Int)+i)=((a+i:Nat):Int):=by rw [i64_in _ (by omega)];omega
  have e4:v4=((i+1:Nat):Int):=by rw [h4,i64_in _ (by omega)];omega
  rw [e1,ar,Bs.tE] at h2
  rw [e3,ar] at h3
  have AN:((Bs.ff n v.toNat).take i).length=i:=by rw [ay,Bs.bU];omega
  have hs:(Bs.jr b a ((Bs.ff n v.toNat).take i)).length=b.length:=Bs.vJ (by rw [AN];omega)
  have step:(Bs.jr b a ((Bs.ff n v.toNat).take i)).set v3 v2=Bs.jr b a ((Bs.ff n v.toNat).take (i+1)):=by
   rw [h3,h2,List.take_add_one,Bs.s6 n _ i (by omega)]
   unfold Bs.jr
   have ht:(b.take a).length=a:=by rw [ay];omega
   rw [List.set_append_right _ _ (by rw [ht];omega),ht,Nat.add_sub_cancel_left,List.set_append_right _ _ (by rw [AN];omega),AN,Nat.sub_self]
   obtain ⟨c,r,hd⟩:∃c r,b.drop (a+i)=c :: r:=by
    cases h:b.drop (a+i) with
    | nil=>have:=congrArg List.length h;rw [aL] at this;simp at this;omega
    | cons c r=>exact ⟨c,r,rfl⟩
   have hd2:b.drop (a+(i+1))=r:=by
    have:=congrArg (List.drop 1) hd
    rw [List.drop_drop] at this
    simpa [Nat.add_assoc] using this
   rw [hd,List.set_cons_zero,ak,AN,Option.toList_some,aD,hd2,aB];rfl
  rw [aa (by omega),ao,bw (aa (by omega)),e3,hs,bw (eT (by omega) (by omega)),bw (aa (by omega)),step,e4]
  exact cQ.fx v n a hn b hb hl m (i+1) (by omega)
theorem cQ.goal (at_:Int) (v:UInt64) (n:Int) (b:List UInt8) (hp:decide (1≤n∧n≤8∧0≤at_∧at_+n≤(b.length:Int)∧b.length≤2199023255552)=true):cQ.F at_ v n b=some [.b true,.ag [.pt],.sl .bs (Bs.jr b at_.toNat (Bs.ff n.toNat v.toNat))]:=by
 obtain ⟨h1,h2,h3,h4,h5⟩:=au hp
 obtain ⟨k,rfl⟩:∃k:Nat,n=(k:Int):=⟨n.toNat,by omega⟩
 obtain ⟨a,rfl⟩:∃k:Nat,at_=(k:Int):=⟨at_.toNat,by omega⟩
 refine cQ.cR _ _ _ _ ?_
 intro v1 e1 v2 e2 v3 e3 v4 e4
 have q:decide ((1:Int)≤k∧(k:Int)≤8)=true:=aa ⟨h1,h2⟩
 rw [q] at e1 e2 ⊢
 have e1:v1=true:=e1
 rw [aK,af,ab (by omega)] at e2
 rw [i64_in _ (by omega)] at e3
 rw [e2,af,ab (by omega)] at e4
 rw [e1,e2,e4]
 refine Eq.trans (b:=cQ.l1 (a:Int) v (k:Int) (0:Int) b) rfl ?_
 have:=cQ.fx v k a (by omega) b (by omega) (by omega) k 0 (by omega)
 rw [List.take_zero,show Bs.jr b a []=b by unfold Bs.jr;simp] at this
 exact this
theorem eG.goal (b:List UInt8):eG.F b=some [.i .i64 (b.length:Int),.ag [.pt],.sl .bs b]:=eG.fh b
theorem dF.goal (w:rI) (hp:decide (w.b.length≤2199023255552)=true):dF.F w=some [.sl .bs w.b,.ag (rI.cells w)]:=by
 have hp:=au hp
 rw [dF.fh,bw (fQ (by omega) (by omega))]
end Go.Eng
