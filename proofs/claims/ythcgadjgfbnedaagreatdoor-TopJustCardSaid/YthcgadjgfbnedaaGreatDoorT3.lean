/- Texts of my own, one behind the other: YK, TpUtfPure, TpTreePure, TpBinPure, TpSpPure, VC, TpC, TpG0, TpG1, TpG2, TpG, TpUtfP, TpTreeP1, TpTreeP2, TpCur, TpTreeP3, TpTreeP4, TpSize, TpBout, TpBin1, TpBin2, TpBin3. -/
import Derived.Test.YthcgadjgfbnedaaGreatDoorT2
import Derived.ChangeArms
import Derived.ChangeShapes
import Derived.DataReads
import Derived.Lib.Bytealg
import Derived.Lib.TrailingZeros
import Derived.Lib.ItoaNum
import Derived.Test.YthcgadjgfbnedaaGreatDoorProg
import Derived.Lib.IndexLaws
set_option linter.unusedVariables false
set_option linter.unusedSimpArgs false
namespace Go.Eng
open Go.RowKit
def iw (P:Program) (n:Nat) (t:TypeId) (A:Type) (g:A→List TV):Prop :=
 ∀(H:Type) (enc:TypeId × Value→H) (w:World) (base:Nat) (spare:Nat→Bool) (held:Bool) (cs:List Value) (x:DataW H × List MemPlace),DataW.trod enc P w base spare held n t cs=some x→∃a:A,bX (Old w) w (g a) cs
theorem zp {n:Int} (h:(Lit.int .u8 n).wf=true):((UInt8.ofInt n).toNat:Int)=n:=by
 have hx:0≤n∧n≤255:=by simpa [Lit.wf,IntKind.min,IntKind.max,IntKind.signed,IntKind.bits] using h
 rw [ku,wrap_u8'];omega
theorem rep_row {w:World} {a:Option Addr} {len cap:Nat} {zs:List Int}
  (h:(a=none∧len=0∧cap=0∧zs=[])∨∃x,a=some x∧len≤cap∧cap≤maxLen∧zs.length=cap∧(∀i,i<zs.length→w.cell? (x.add i)=some (.int .u8 (zs.getD i 0)))∧∀n∈zs,(Lit.int .u8 n).wf=true) :
  Rep (Old w) w (.sl .bs ((zs.take len).map UInt8.ofInt)) (.slice a len cap):=by
 rcases h with ⟨rfl,rfl,rfl,rfl⟩ | ⟨x,rfl,h1,h2,h3,h4,h5⟩
 ·exact .sn _
 ·by_cases h0:len=0
  ·subst h0;exact .em _ h2
  ·have GN:=h4 0 (by omega)
   obtain ⟨xb,xo,spot⟩:=x
   have tg:spot=none:=by simpa [Addr.add] using World.cell?_spot GN
   subst tg
   have hb:xb<w.heap.size:=by
    by_cases eJ:xb<w.heap.size
    ·exact eJ
    ·have:w.heap[xb]?=none:=Array.getElem?_eq_none (by omega)
     simp [Addr.add,World.cell?,this] at GN
   refine .sl (by simp;omega) h1 h2 ?_
   refine fA.write (ys:=(zs.take len).map (.int .u8)) ?_ ?_ (fun j _=>hb) ?_
   ·intro e he;simp only [aU] at he;obtain ⟨q,_,rfl⟩:=he;rfl
   ·have key:∀l:List Int,(∀n∈l,(Lit.int .u8 n).wf=true)→bX (Old w) w (((l.map UInt8.ofInt).map (dS.tv .bs)).flatMap TV.cells) (l.map (.int .u8)):=by
     intro l hl
     induction l with
     | nil=>exact .nil
     | cons n l ih =>
      have:=zp (hl n (List.mem_cons_self ..))
      exact .cons rfl (.sc (by show some _=some _;rw [this])) (ih fun m hm=>hl m (List.mem_cons_of_mem _ hm))
    exact key _ fun n hn=>h5 n (List.mem_of_mem_take hn)
   ·intro j y hy
    simp only [ba] at hy
    cases e:(zs.take len)[j]? with
    | none=>rw [e] at hy;cases hy
    | some n =>
     rw [e] at hy
     cases hy
     rw [aF] at e
     split at e
     ·have hj:j<zs.length:=(av.1 e).1
      have:=h4 j hj
      rw [addr_add] at this
      rw [this,ai,e];rfl
     ·cases e
section
variable {P:Program} {n:Nat} {t:TypeId}
theorem iF (ht:P.underlying t=some (.int .i64)):iw P n t Int fun m=>[.i .i64 m]:=by
 intro H enc w base spare held cs x h
 obtain ⟨m,rfl,_,_⟩:=DataW.trod_int ht h
 exact ⟨m,.cons rfl (.sc rfl) .nil⟩
theorem Ad {n:Int} (h:(Lit.int .u64 n).wf=true):((UInt64.ofInt n).toNat:Int)=n:=by
 have hx:0≤n∧n≤18446744073709551615:=by simpa [Lit.wf,IntKind.min,IntKind.max,IntKind.signed,IntKind.bits] using h
 have e:IntKind.u64.wrap n=n % (18446744073709551616:Nat):=by simp [IntKind.wrap,IntKind.bits,IntKind.signed]
 rw [jG,e];omega
theorem yj {R:Reach} {w:World} {n:Int} (h:(Lit.int .u64 n).wf=true):Rep R w (.u64 (UInt64.ofInt n)) (.int .u64 n) := .sc (by show some _=some _;rw [Ad h])
theorem la (ht:P.underlying t=some (.int .u64)):iw P n t UInt64 fun m=>[.u64 m]:=by
 intro H enc w base spare held cs x h
 obtain ⟨m,rfl,_,hw⟩:=DataW.trod_int ht h
 exact ⟨UInt64.ofInt m,.cons rfl (yj hw) .nil⟩
theorem vR (ht:P.underlying t=some (.int .u8)):iw P n t UInt8 fun m=>[.u8 m]:=by
 intro H enc w base spare held cs x h
 obtain ⟨m,rfl,_,hw⟩:=DataW.trod_int ht h
 exact ⟨UInt8.ofInt m,.cons rfl (.sc (by show some _=some _;rw [zp hw])) .nil⟩
theorem lb (ht:P.underlying t=some .string):iw P n t bG fun m=>[.s m]:=by
 intro H enc w base spare held cs x h
 obtain ⟨m,rfl,_,_⟩:=DataW.trod_string ht h
 exact ⟨m.data.toList,.cons rfl (.sc rfl) .nil⟩
theorem lJ {e:TypeId} {st:dS} (ht:P.underlying t=some (.slice e)) (hs:P.cellsOf e=st.size) (yE:0<st.size) (he:∀m,m<n→iw P m e st.El fun a=>(st.tv a).cells):iw P n t (List st.El) fun l=>[.sl st l]:=by
 intro H enc w base spare held cs x h
 rcases DataW.trod_slice ht h with ⟨rfl,_⟩ | ⟨a,len,cap,elems,rest,m,rfl,rfl,_,_,h2,h3,h4,h5,_,_⟩
 ·exact ⟨[],.cons rfl (.sn _) .nil⟩
 ·by_cases h0:len=0
  ·subst h0;exact ⟨[],.cons rfl (.em _ h3) .nil⟩
  ·have get:∀i,i<len→∃ys,w.cells? base (a.add (i * st.size)) st.size=some ys∧∃y:st.El,bX (Old w) w (st.tv y).cells ys:=fun i hi=>by
    have:=h5 i hi
    rw [hs] at this
    have eJ:i<elems.length:=by omega
    rw [ah eJ] at this
    obtain ⟨ys,h6,h7⟩:=aE.1 this
    exact ⟨ys,h6,he m (Nat.lt_succ_self m) H enc w base spare held ys _ h7⟩
   have tg:a.spot=none:=by
    obtain ⟨ys,h6,_⟩:=get 0 (by omega)
    obtain ⟨_,h7,h8⟩:=World.cells?_some h6
    have h9:=h8 0 yE
    cases hy:ys[0]? with
    | none=>rw [List.getElem?_eq_none_iff] at hy;omega
    | some y=>rw [hy] at h9;simpa [Addr.add] using World.cell?_spot h9
   obtain ⟨b,off,spot⟩:=a
   simp only at tg
   subst tg
   have key:∀k i,i+k=len→∃l:List st.El,l.length=k∧fA (Old w) w st.size (l.map st.tv) b (off+i * st.size):=by
    intro k
    induction k with
    | zero=>exact fun i _=>⟨[],rfl,.nil _ _ _⟩
    | succ k ih =>
     intro i hi
     obtain ⟨l,hl,hE⟩:=ih (i+1) (by omega)
     obtain ⟨ys,h6,y,h7⟩:=get i (by omega)
     obtain ⟨_,h8,h9⟩:=World.cells?_some h6
     refine ⟨y :: l,by simp [hl],.cons (gH.write (dS.fT st y) h7 (fun j hj=>?_) (fun j z hz=>?_)) ?_⟩
     ·have kL:=h9 j hj
      have HT:j<ys.length:=by omega
      rw [ah HT] at kL
      by_cases eJ:b<w.heap.size
      ·exact eJ
      ·have:w.heap[b]?=none:=Array.getElem?_eq_none (by omega)
       rw [addr_add,addr_add] at kL
       simp only [World.cell?,this] at kL
       cases kL
     ·have hj:j<st.size:=by have:=(av.1 hz).1;omega
      have kL:=h9 j hj
      rw [hz,addr_add,addr_add] at kL
      exact kL
     ·rw [show off+i * st.size+st.size=off+(i+1) * st.size by rw [Nat.succ_mul];omega];exact hE
   obtain ⟨l,hl,hE⟩:=key len 0 (by omega)
   refine ⟨l,.cons rfl (.sl hl.symm h2 h3 ?_) .nil⟩
   simpa using hE
def ia (P:Program) (n:Nat) (fs:List (TypeId × Nat)) (off:Nat) (A:Type) (g:A→List TV):Prop :=
 ∀(H:Type) (enc:TypeId × Value→H) (w:World) (base:Nat) (spare:Nat→Bool) (held:Bool) (cs:List Value),(∀f∈fs,∃x:DataW H × List MemPlace,DataW.trod enc P w base spare held n f.1 ((cs.drop f.2).take (P.cellsOf f.1))=some x)→cs.length=off+(fs.map fun f=>P.cellsOf f.1).sum→∃a:A,bX (Old w) w (g a) (cs.drop off)
theorem oY {off:Nat}:ia P n [] off Unit fun _=>[]:=by
 intro H enc w base spare held cs _ hl
 refine ⟨(),?_⟩
 rw [aL (by simp at hl;omega)];exact .nil
theorem eL {t:TypeId} {fs:List (TypeId × Nat)} {off c:Nat} {A B:Type} {g:A→List TV} {g':B→List TV} (hc:P.cellsOf t=c) (h:iw P n t A g) (hr:ia P n fs (off+c) B g'):ia P n ((t,off) :: fs) off (A × B) fun p=>g p.1++g' p.2:=by
 subst hc
 intro H enc w base spare held cs hx hl
 obtain ⟨x,h1⟩:=hx (t,off) (List.mem_cons_self ..)
 obtain ⟨a,ha⟩:=h H enc w base spare held _ x h1
 obtain ⟨b,hb⟩:=hr H enc w base spare held cs (fun f' A5=>hx f' (List.mem_cons_of_mem _ A5)) (by simp only [aQ,List.sum_cons] at hl;omega)
 refine ⟨(a,b),?_⟩
 have e:cs.drop off=(cs.drop off).take (P.cellsOf t)++cs.drop (off+P.cellsOf t):=by
  rw [←List.drop_drop];exact (List.take_append_drop _ _).symm
 rw [e];exact ha.append hb
theorem iU {fs:Array Field} {l:List (TypeId × Nat)} {A B:Type} {g:A→List TV} {g':B→List TV} (ht:P.underlying t=some (.struct fs)) (hl:(fs.toList.map fun f=>(f.type,f.offset))=l) (hc:P.cellsOf t=(l.map fun f=>P.cellsOf f.1).sum) (hr:∀m,m<n→ia P m l 0 A g) (f:A→B) (hf:∀a,g a=g' (f a)):iw P n t B g':=by
 intro H enc w base spare held cs x h
 obtain ⟨xs,m,rfl,_,h1,h2,h3⟩:=DataW.trod_struct ht h
 obtain ⟨a,ha⟩:=hr m (Nat.lt_succ_self m) H enc w base spare held cs (fun p hp=>by
  rw [←hl] at hp
  obtain ⟨f,hf,rfl⟩:=aU.1 hp
  obtain ⟨i,hi⟩:=List.getElem?_of_mem hf
  have eJ:=(av.1 hi).1
  have:=h3 i f (by simpa using hi)
  have AY:i<xs.length:=by rw [h2];simpa using eJ
  rw [ah AY] at this
  exact ⟨_,this⟩) (by rw [h1,hc];simp)
 exact ⟨f a,by rw [←hf];simpa using ha⟩
def fieldsOf (P:Program) (t:TypeId):Option (List (TypeId × Nat)):=match P.underlying t with
 | some (.struct fs)=>some (fs.toList.map fun f=>(f.type,f.offset))
 | _=>none
theorem iA {l:List (TypeId × Nat)} (h:fieldsOf P t=some l):∃fs,P.underlying t=some (.struct fs)∧(fs.toList.map fun f=>(f.type,f.offset))=l:=by
 unfold fieldsOf at h
 split at h
 ·rename_i fs e;cases h;exact ⟨fs,e,rfl⟩
 ·cases h
structure ValTys (P:Program) (tv tf tk ti tu ts tb ty:TypeId):Prop where
 v:fieldsOf P tv=some [(ti,0),(tu,1),(tu,2),(tu,3),(ts,4),(ts,5),(ti,6),(tb,7),(tk,8)]
 f:fieldsOf P tf=some [(ts,0),(tv,1)]
 k:P.underlying tk=some (.slice tf)
 i:P.underlying ti=some (.int .i64)
 u:P.underlying tu=some (.int .u64)
 s:P.underlying ts=some .string
 b:P.underlying tb=some (.slice ty)
 y:P.underlying ty=some (.int .u8)
 cv:P.cellsOf tv=9
 cf:P.cellsOf tf=10
 ck:P.cellsOf tk=1
 ci:P.cellsOf ti=1
 cu:P.cellsOf tu=1
 cs:P.cellsOf ts=1
 cb:P.cellsOf tb=1
 cy:P.cellsOf ty=1
theorem qu {y:TypeId} (ht:P.underlying t=some (.slice y)) (hy:P.underlying y=some (.int .u8)) (hc:P.cellsOf y=1):iw P n t bG fun l=>[.sl .bs l] :=
 lJ (st := .bs) ht hc (by decide) fun _ _=>vR hy
theorem ValTys.val {tv tf tk ti tu ts tb ty:TypeId} (T:ValTys P tv tf tk ti tu ts tb ty):∀n,iw P n tv Val Val.cells∧iw P n tf bq bq.cells:=by
 intro n
 induction n using Nat.strongRecOn with
 | _ n ih =>
  have hv:∀m,m≤n→(∀k,k<m→iw P k tf bq bq.cells)→iw P m tv Val Val.cells:=fun m hm Hs=>by
   obtain ⟨fs,h1,h2⟩:=iA T.v
   have R:=fun (k:Nat) (hk:k<m)=>(eL (off:=0) T.ci (iF T.i) (eL T.cu (la T.u) (eL T.cu (la T.u) (eL T.cu (la T.u) (eL T.cs (lb T.s) (eL T.cs (lb T.s) (eL T.ci (iF T.i) (eL T.cb (qu T.b T.y T.cy)
     (eL T.ck (lJ (st := .fl) T.k T.cf (by decide) fun j hj=>Hs j (by omega)) oY)))))))):ia P k _ 0 _ _)
   exact iU h1 h2 (by simp [T.cv,T.ci,T.cu,T.cs,T.cb,T.ck]) R (fun a=>(⟨a.1,a.2.1,a.2.2.1,a.2.2.2.1,a.2.2.2.2.1,a.2.2.2.2.2.1,a.2.2.2.2.2.2.1,a.2.2.2.2.2.2.2.1,a.2.2.2.2.2.2.2.2.1⟩:Val)) (fun a=>rfl)
  refine ⟨hv n (Nat.le_refl n) fun k hk=>(ih k hk).2,?_⟩
  obtain ⟨fs,h1,h2⟩:=iA T.f
  have R:=fun (k:Nat) (hk:k<n)=>(eL (off:=0) T.cs (lb T.s) (eL T.cv (hv k (by omega) fun j hj=>(ih j (by omega)).2) oY):ia P k _ 0 _ _)
  exact iU h1 h2 (by simp [T.cf,T.cv,T.cs]) R (fun a=>bq.of a.1 a.2.1) (fun a=>by simp [bq.of,bq.cells,Val.cells,bq.name,bq.kind,bq.bits,bq.high,bq.low,bq.text,bq.more,bq.sub,bq.bytes,bq.kids])
theorem ValTys.rep {tv tf tk ti tu ts tb ty:TypeId} (T:ValTys P tv tf tk ti tu ts tb ty) {H:Type} {enc:TypeId × Value→H} {w:World} {base:Nat} {spare:Nat→Bool} {held:Bool} {cs:Array Value} {d:DataW H} {p:List MemPlace} (h:DataW.Trod enc P w base spare held tv (.agg cs) d p) :
  ∃v:Val,Rep (Old w) w (.ag (Val.cells v)) (.agg cs):=by
 obtain ⟨n,h⟩:=h
 obtain ⟨v,hv⟩:=(T.val n).1 H enc w base spare held _ _ h
 exact ⟨v,.ag (by simpa [Value.cells] using hv)⟩
end
end Go.Eng
set_option maxRecDepth 20000
namespace Go.Eng
namespace dt
def iY (r:Int):Bool:=decide (0≤r∧r≤1114111∧(r<55296∨57343<r))
def cont:Nat→Nat→bG→Option Nat
 | r,0,_=>some r
 | _,_+1,[]=>none
 | r,k+1,c :: l=>if 128≤c.toNat∧c.toNat<192 then cont (r * 64+(c.toNat - 128)) k l else none
def js (r more least:Nat) (l:bG):Int × Int :=
 match cont r more l with
 | some r=>if r<least∨iY r=false then (0,0) else ((r:Int),(more+1:Int))
 | none=>(0,0)
def rune:bG→Int × Int
 | []=>(0,0)
 | c :: l =>
  if c.toNat<128 then ((c.toNat:Int),1)
  else if 192≤c.toNat∧c.toNat<224 then js (c.toNat - 192) 1 128 l
  else if 224≤c.toNat∧c.toNat<240 then js (c.toNat - 224) 2 2048 l
  else if 240≤c.toNat∧c.toNat<248 then js (c.toNat - 240) 3 65536 l
  else (0,0)
def iP (b:bG) (i:Int):Int × Int:=if i<0∨(b.length:Int)≤i then (0,0) else rune (b.drop i.toNat)
def kF:Nat→bG→Nat × Nat
 | 0,_=>(0,0)
 | n+1,l=>if (rune l).2=0 then (0,0) else let q:=kF n (l.drop (rune l).2.toNat);(q.1+(rune l).2.toNat,q.2+1)
def look (l:bG):Nat × Nat:=kF l.length l
def whole (l:bG):Bool:=decide ((look l).1=l.length)
def zero (l:bG):Bool:=l.contains 0
end dt
end Go.Eng
set_option maxRecDepth 20000
namespace Go.Eng
mutual
def bq.bS:bq→Nat
 | .mk n _ _ _ _ t m _ y ks=>1+n.length+t.length+m.length+y.length+bq.bU ks
def bq.bU:List bq→Nat
 | []=>0
 | f :: r=>bq.bS f+bq.bU r
end
namespace Tree
def uv:List bG:=[[],[100,111,117,98,108,101],[115,116,114,105,110,103],[100,111,99,117,109,101,110,116],[97,114,114,97,121],[98,105,110,97,114,121],[117,110,100,101,102,105,110,101,100],[111,98,106,101,99,116,105,100],[98,111,111,108],[100,97,116,101],[110,117,108,108],[114,101,103,101,120],[112,111,105,110,116,101,114],[99,111,100,101],[115,121,109,98,111,108],[115,99,111,112,101,100],[105,110,116,51,50],[116,105,109,101,115,116,97,109,112],[105,110,116,54,52],[100,101,99,105,109,97,108]]
def name (k:Int):bG :=
 if k=127 then [109,97,120,107,101,121]
 else if k=255 then [109,105,110,107,101,121]
 else if k<0∨20≤k then []
 else uv.getD k.toNat []
def kinds:List Int:=[1,2,3,4,5,6,7,8,9,10,11,12,13,14,15,16,17,18,19,127,255]
def ff (i:Nat) (k:Int):Bool :=
 match i with
 | 0=>decide (k∈[1,9,17,18,16,8])
 | 1=>decide (k=19)
 | 2=>decide (k∈[2,13,14,11,12,15])
 | 3=>decide (k=11)
 | 4=>decide (k=5)
 | 5=>decide (k∈[5,7,12])
 | _=>decide (k∈[3,4,15])
def cw (v:Val):Bool :=
 (ff 0 v.kind || decide (v.bits=0))&&(ff 1 v.kind || (decide (v.high=0)&&decide (v.low=0)))&&(ff 2 v.kind || decide (v.text=[]))&&(ff 3 v.kind || decide (v.more=[])) &&
 (ff 4 v.kind || decide (v.sub=0))&&(ff 5 v.kind || decide (v.bytes=[]))&&(ff 6 v.kind || decide (v.kids=[])) &&
 (!decide (v.kind=16) || decide (v.bits<4294967296))&&(!decide (v.kind=8) || decide (v.bits<2))&&(decide (0≤v.sub)&&decide (v.sub≤255))&&(!(decide (v.kind=7) || decide (v.kind=12)) || decide (v.bytes.length=12))
def dw (s:bG) (plain:Bool):Bool:=dt.whole s&&!(plain&&dt.zero s)
def own (v:Val):Int :=
 if name v.kind=[] then 5
 else if cw v=false then 1
 else if dw v.text (decide (v.kind=11))=false∨dw v.more (decide (v.kind=11))=false then 4
 else 0
def nM (v:Val) (n:bG):Int:=if own v≠0 then own v else if dw n true=false then 4 else 0
mutual
def fC:bq→List Int→List Int × Int
 | .mk n k b h l t m s y ks,p=>if nM ⟨k,b,h,l,t,m,s,y,ks⟩ n≠0 then (p,nM ⟨k,b,h,l,t,m,s,y,ks⟩ n) else pJ ks 0 p
def pJ:List bq→Nat→List Int→List Int × Int
 | [],_,_=>([],0)
 | f :: r,i,p=>if (fC f (p++[(i:Int)])).2≠0 then fC f (p++[(i:Int)]) else pJ r (i+1) p
end
mutual
def depth:bq→Nat
 | .mk _ k _ _ _ _ _ _ _ ks=>if k=3∨k=4∨k=15 then eK ks+1 else 0
def eK:List bq→Nat
 | []=>0
 | f :: r=>max (depth f) (eK r)
end
noncomputable def same (a b:Val):Bool:=@decide (a=b) (Classical.propDecidable _)
def jJ (a b:Val):Bool:=decide (a.kind=b.kind)&&decide (a.bits=b.bits)&&decide (a.high=b.high)&&decide (a.low=b.low)&&decide (a.text=b.text)&&decide (a.more=b.more)&&decide (a.sub=b.sub)&&decide (a.bytes=b.bytes)
end Tree
namespace dr
def room (left:Int):List Int→Int
 | []=>left
 | s :: r=>if left<0∨left<s then -1 else room (left - s) r
mutual
def value (left:Int):bq→Int
 | .mk _ _ _ _ _ t m _ y ks=>values (room left [2,t.length,m.length,y.length]) ks
def values (left:Int):List bq→Int
 | []=>left
 | f :: r=>if left<0 then left else values (value (room left [(f.name.length:Int)]) f) r
end
end dr
end Go.Eng
set_option maxRecDepth 20000
namespace Go.Eng
namespace Bs
def eU:Nat→Nat→bG
 | 0,_=>[]
 | n+1,v=>UInt8.ofNat (v % 256) :: eU n (v / 256)
def gk:bG→Nat
 | []=>0
 | c :: r=>c.toNat+256 * gk r
def yk (b:bG) (p:Nat):Nat:=gk ((b.drop p).take 4)
def dy (b:bG) (p:Nat):Int:=if yk b p<2147483648 then (yk b p:Int) else (yk b p:Int) - 4294967296
def gK (k:Int):Bool:=decide (k=1∨k=9∨k=17∨k=18)
def gn (k:Int):Bool:=decide (k=2∨k=13∨k=14)
mutual
def size:bq→Nat
 | .mk _ k _ _ _ t m s y ks =>
  if gK k then 8 else if k=16 then 4 else if k=8 then 1 else if k=19 then 16 else if gn k then t.length+5 else if k=11 then t.length+m.length+2
  else if k=5 then (if s=2 then y.length+9 else y.length+5) else if k=7 then 12 else if k=12 then t.length+17 else if k=3∨k=4 then bY ks+5 else if k=15 then t.length+9+(bY ks+5) else 0
def bY:List bq→Nat
 | []=>0
 | f :: r=>f.name.length+2+size f+bY r
end
def fv (t:bG):bG:=eU 4 (t.length+1)++(t++[0])
def ic (s:bG):bG:=eU 4 (s.length+5)++(s++[0])
def nQ (s:Int) (y:bG):bG:=if s=2 then eU 4 (y.length+4)++(UInt8.ofInt s :: (eU 4 y.length++y)) else eU 4 y.length++(UInt8.ofInt s :: y)
def nR (s:bG):bG:=eU 4 (s.length+4)++s
mutual
def enc:bq→bG
 | .mk _ k b h l t m s y ks =>
  if gK k then eU 8 b.toNat else if k=16 then eU 4 b.toNat else if k=8 then eU 1 b.toNat else if k=19 then eU 8 l.toNat++eU 8 h.toNat else if gn k then fv t else if k=11 then (t++[0])++(m++[0])
  else if k=5 then nQ s y else if k=7 then y else if k=12 then fv t++y else if k=3∨k=4 then ic (dT ks) else if k=15 then nR (fv t++ic (dT ks)) else []
def dT:List bq→bG
 | []=>[]
 | f :: r=>UInt8.ofInt f.kind :: ((f.name++[0])++enc f++dT r)
end
def fw (l:List bq):bG:=ic (dT l)
def encode (v:Val):bG × Int × List Int :=
 if (Tree.fC (bq.of [] v) []).2≠0 then ([],(Tree.fC (bq.of [] v) []).2,(Tree.fC (bq.of [] v) []).1)
 else if v.kind≠3 then ([],5,[]) else if 16777216<size (bq.of [] v) then ([],9,[]) else (fw v.kids,0,[])
def may (l:Lim):Bool:=decide (1≤l.depth∧l.depth≤200∧5≤l.size∧l.size≤16777216∧0≤l.out∧l.out≤67108864)
def fits (v:Val) (l:Lim):Int:=if may l=false then 1 else if v.kind≠3 then 5 else if l.depth<(Tree.depth (bq.of [] v):Int) then 8 else if l.size<(size (bq.of [] v):Int) then 9 else 0
abbrev E:=Int × Nat
def can (r:bz) (n:Int):Bool:=decide (1≤n∧n≤8∧n≤(r.b.length:Int) - r.at_)
def fB (r:bz) (n:Int):bG:=if can r n=true then (r.b.drop r.at_.toNat).take n.toNat else []
def jt (r:bz) (n:Int):bz:=if can r n=true then ⟨r.b,r.at_+n⟩ else r
def re (r:bz) (n:Int):Bool:=decide (0≤n∧n≤(r.b.length:Int) - r.at_)
def p8 (r:bz) (n:Int):bG:=if re r n=true then (r.b.drop r.at_.toNat).take n.toNat else []
def pa (r:bz) (n:Int):bz:=if re r n=true then ⟨r.b,r.at_+n⟩ else r
def ji (b:bG) (at_:Nat) (x:bG):bG:=b.take at_++(x++b.drop (at_+x.length))
def ctext (b:bG) (a:Int):bG × Int × Int :=
 if a<0∨(b.length:Int)<a then ([],0,1) else if Lib.indexByte (b.drop a.toNat) 0<0 then ([],0,2)
 else if dt.whole ((b.drop a.toNat).take (Lib.indexByte (b.drop a.toNat) 0).toNat)=false then ([],0,4) else ((b.drop a.toNat).take (Lib.indexByte (b.drop a.toNat) 0).toNat,a+Lib.indexByte (b.drop a.toNat) 0+1,0)
def fixed (k:Int):Nat:=if gK k then 8 else if k=16∨gn k∨k=12∨k=15 then 4 else if k=8 then 1 else if k=19 then 16 else if k=7 then 12 else if k=5 then 5 else 0
def ended (b:bG) (q z:Nat):Except E (bG × Nat) :=
 let r:=ctext (b.take z) q
 if r.2.2≠0 then .error (r.2.2,q) else .ok (r.1,r.2.1.toNat)
def pZ (n:Int) (b:bG) (q z:Nat):Except E (bG × Nat) :=
 if n<1∨(z:Int) - q - 4<n then .error (6,q) else
 if b.getD (q+4+n.toNat - 1) 0≠0 then .error (3,q+4+n.toNat - 1) else
 if dt.whole ((b.drop (q+4)).take (n.toNat - 1))=false then .error (4,q+4) else .ok ((b.drop (q+4)).take (n.toNat - 1),q+4+n.toNat)
def text (b:bG) (q z:Nat):Except E (bG × Nat):=if z - q<4 then .error (2,q) else pZ (dy b q) b q z
def y0 (n:Int) (b:bG) (q z:Nat):Except E (Int × bG × Nat) :=
 if n<0∨(z:Int) - q - 5<n then .error (6,q) else
 if ((b.getD (q+4) 0).toNat:Int)=2 then (if n<4∨dy b (q+5)≠n - 4 then .error (6,q+5) else .ok (((b.getD (q+4) 0).toNat:Int),(b.drop (q+9)).take (n.toNat - 4),q+5+n.toNat))
 else .ok (((b.getD (q+4) 0).toNat:Int),(b.drop (q+5)).take n.toNat,q+5+n.toNat)
def binary (b:bG) (q z:Nat):Except E (Int × bG × Nat):=y0 (dy b q) b q z
def mH (dc:bG→Nat→Nat→Int→Except E (List bq × Nat)) (n:Int) (b:bG) (q z:Nat):bG × Except E (List bq × Nat) :=
 if n<14∨(z:Int) - q<n then ([],.error (6,q)) else
 match text b (q+4) (q+n.toNat) with
 | .error e=>([],.error e)
 | .ok (s,x)=>(s,dc b x (q+n.toNat) 2)
def ei (dc:bG→Nat→Nat→Int→Except E (List bq × Nat)) (b:bG) (q z:Nat):bG × Except E (List bq × Nat):=mH dc (dy b q) b q z
def sub (b:bG) (q n:Nat):bG:=(b.drop q).take n
def cX (k:Int):Val:=⟨k,0,0,0,[],[],0,[],[]⟩
def xU (dc:bG→Nat→Nat→Int→Except E (List bq × Nat)) (b:bG) (k:Int) (q z:Nat):Except E (Val × Nat) :=
 if k=3∨k=4 then (match dc b q z 0 with
  | .error e => .error e
  | .ok (l,x) => .ok ({ cX k with kids:=l },x))
 else if k=15 then (match (ei dc b q z).2 with
  | .error e => .error e
  | .ok (l,x) => .ok ({ cX k with text:=(ei dc b q z).1,kids:=l },x))
 else .ok (cX k,q)
def xS (dc:bG→Nat→Nat→Int→Except E (List bq × Nat)) (b:bG) (k:Int) (q z:Nat):Except E (Val × Nat) :=
 if gn k then (match text b q z with
  | .error e => .error e
  | .ok (s,x) => .ok ({ cX k with text:=s },x))
 else if k=12 then (match text b q z with
  | .error e => .error e
  | .ok (s,x)=>if z - x<12 then .error (2,x) else .ok ({ cX k with text:=s,bytes:=sub b x 12 },x+12))
 else if k=11 then (match ended b q z with
  | .error e => .error e
  | .ok (s,x)=>match ended b x z with
   | .error e => .error e
   | .ok (m,y) => .ok ({ cX k with text:=s,more:=m },y))
 else if k=5 then (match binary b q z with
  | .error e => .error e
  | .ok (s,y,x) => .ok ({ cX k with sub:=s,bytes:=y },x))
 else xU dc b k q z
def eI (dc:bG→Nat→Nat→Int→Except E (List bq × Nat)) (b:bG) (k:Int) (q z:Nat):Except E (Val × Nat) :=
 if z - q<fixed k then .error (2,q)
 else if gK k∨k=16∨k=8 then (if k=8∧1<gk (sub b q 1) then .error (3,q) else .ok ({ cX k with bits:=UInt64.ofNat (gk (sub b q (fixed k))) },q+fixed k))
 else if k=19 then .ok ({ cX k with low:=UInt64.ofNat (gk (sub b q 8)),high:=UInt64.ofNat (gk (sub b (q+8) 8)) },q+16)
 else if k=7 then .ok ({ cX k with bytes:=sub b q 12 },q+12)
 else xS dc b k q z
def rJ (vl:Int→Nat→Nat→Except E (Val × Nat)) (b:bG) (z:Nat):Nat→Nat→List bq→Except E (List bq × Nat)
 | 0,at_,_ => .error (3,at_)
 | n+1,at_,acc =>
  if at_=z then (if b.getD z 0≠0 then .error (3,z) else .ok (acc,z+1)) else
  if b.getD at_ 0=0 then .error (3,at_) else
  if Tree.name ((b.getD at_ 0).toNat:Int)=[] then .error (5,at_) else
  let r:=ctext (b.take z) ((at_:Int)+1)
  if r.2.2≠0 then .error (r.2.2,at_+1) else
  match vl ((b.getD at_ 0).toNat:Int) r.2.1.toNat z with
  | .error e => .error e
  | .ok (v,x)=>rJ vl b z n x (acc++[bq.of r.1 v])
def wU (vl:Int→Nat→Nat→Except E (Val × Nat)) (n:Int) (b:bG) (p z:Nat) (fO:Int):Except E (List bq × Nat) :=
 if n<5∨(z:Int) - p<n∨(fO=2∧(p:Int)+n≠z) then .error (6,p) else
 if fO=1∧(p:Int)+n<z then .error (7,p+n.toNat) else
 rJ vl b (p+n.toNat - 1) n.toNat (p+4) []
def doc:Nat→bG→Nat→Nat→Int→Except E (List bq × Nat)
 | 0,_,p,_,_ => .error (8,p)
 | d+1,b,p,z,fO=>if z - p<4 then .error (2,p) else wU (eI (doc d) b) (dy b p) b p z fO
def decode (b:bG) (l:Lim):Except E (List bq) :=
 if may l=false then .error (1,0) else if l.size<(b.length:Int) then .error (9,0) else
 match doc l.depth.toNat b 0 b.length 1 with
 | .error e => .error e
 | .ok (ks,_) => .ok ks
def jM {A:Type}:Except E A→cD
 | .ok _=>⟨0,0,[]⟩
 | .error (e,a)=>⟨e,a,[]⟩
def fR {A:Type} (z:A):Except E A→A
 | .ok x=>x
 | .error _=>z
def jA:Except E (List bq)→Val
 | .ok ks=>⟨3,0,0,0,[],[],0,[],ks⟩
 | .error _=>cX 0
end Bs
end Go.Eng
namespace Go.Eng
section
variable (P:Program) (E:cI) (nt n:Nat) {R:Type}
noncomputable abbrev AI (o:Ev R):nT R:=dk fun h S K=>match h with
 | .l G a=>match eR nt G S with
  | some xs=>gY (BG (o a) G) (Af nt G) n xs K
  | none=>none
 | _=>none
noncomputable abbrev oU (f:Nat→Option (Ev R)) (ls:List (Nat × GL)) (a:Hint) (K:dj R):dj R:=fun e S =>
 match tS nt ls e S with
 | none=>K e S
 | some none=>none
 | some (some j)=>gY (vb f ls a) (tS nt ls) n j K
noncomputable abbrev yf (f:nT R):nT R:=dk fun h S K=>match h with
 | .sc ls a=>f.1 a S (oU nt n f.2 ls a K)
 | _=>none
noncomputable abbrev Bv (x:Operand) (fa fb:nT R):nT R:=dk fun h S K=>match dQ E nt S 0 x with
 | some (.b t,.no)=>cond t (fa.1 h.s1 S K) (fb.1 h.s2 S K)
 | some (.ub e,.no)=>cond e none (fb.1 h.s2 S K)
 | _=>none
noncomputable def rI (c:Code):nT R :=
 Code.rec (motive:=fun _=>nT R)
  (dk fun _ S K=>K .normal S)
  (fun _ ops draw=>dk fun _ S K=>oX P E nt ops draw S (K .normal))
  (fun _ _ fa fb=>vK nt fa fb fb.1)
  (fun x _ _ fa fb=>Bv E nt x fa fb)
  (fun id _ f=>dk fun h S K=>f.1 h.s1 S (gq id K))
  (fun _ f=>AI nt n f.1)
  (fun _ _ _ _ _ _=>dk fun _ _ _=>none)
  (fun id=>dk fun _ S K=>K (.exit id) S)
  (fun _ f=>yf nt n f)
  r8
  (fun l=>dk fun _ S K=>K (.goto l) S)
  (dk fun _ S K=>K .ret S)
  (fun _=>dk fun _ _ _=>none) c
end
section
variable {R:Type}
def F7 (K K':dj R):Prop:=∀e S r,K e S=some r→K' e S=some r
def Le (g g':Ev R):Prop:=∀h S K K' r,F7 K K'→g h S K=some r→g' h S K'=some r
def Er:Option (Ev R)→Option (Ev R)→Prop
 | none,none=>True
 | some g,some g'=>Le g g'
 | _,_=>False
theorem py {ι:Type} {f f':ι→dj R→Option R} {tr:MX→St→Option (Option ι)} (hf:∀i K K' r,F7 K K'→f i K=some r→f' i K'=some r):∀(m:Nat) (i:ι) (K K':dj R) (r:R),F7 K K'→gY f tr m i K=some r→gY f' tr m i K'=some r
 | 0,_,_,_,_,_,h=>by cases h
 | m+1,i,K,K',r,hk,h=>by
  rw [gY] at h ⊢
  refine hf i _ _ r (fun e S r he=>?_) h
  cases ht:tr e S with
  | none=>simp only [ht] at he ⊢;exact hk _ _ _ he
  | some j=>cases j with
   | none=>simp only [ht] at he;cases he
   | some j=>simp only [ht] at he ⊢;exact py hf m _ K K' r hk he
theorem Le.seq {nt:Nat} {g g' b b':Ev R} (h1:Le g g') (h2:Le b b'):Le (vL nt g b b) (vL nt g' b' b'):=by
 intro h S K K' r hk he
 have plain:∀{a c:Hint},g a S (tX (b c) K)=some r→g' a S (tX (b' c) K')=some r:=fun {a c} he=>by
  refine h1 _ _ _ _ _ (fun e S' r' hr=>?_) he
  cases e <;> first | exact h2 _ _ _ _ _ hk hr | exact hk _ _ _ hr
 cases h <;> first | exact plain he | skip
 rename_i G a c
 refine h1 _ _ _ _ _ (fun e S' r' hr=>?_) he
 cases e <;> first | exact hk _ _ _ hr | skip
 simp only [lL] at hr ⊢
 split at hr
 ·rename_i xs e;exact h2 _ _ _ _ _ hk hr
 ·cases hr
theorem Bl (P:Program) (E:cI) (nt n:Nat) (c:Code):Le (R:=R) (rI P E nt n c).1 (ib P E nt c)∧∀l,Er ((rI (R:=R) P E nt n c).2 l) (lY P E nt c l):=by
  have mg:∀{f g:Ev R} (l:Nat),Er ((dk f).2 l) ((dk g).2 l):=fun l=>trivial
  induction c with
  | skip=>exact ⟨fun h S K K' r hk he=>hk _ _ _ he,fun _=>trivial⟩
  | label l =>
    refine ⟨fun h S K K' r hk he=>hk _ _ _ he,fun l'=>?_⟩
    show Er (iy (R:=R) l l') (iy l l')
    unfold iy
    cases Nat.beq l l' with
    | true=>exact fun h S K K' r hk he=>hk _ _ _ he
    | false=>trivial
  | exit id=>exact ⟨fun h S K K' r hk he=>hk _ _ _ he,fun _=>trivial⟩
  | goto l=>exact ⟨fun h S K K' r hk he=>hk _ _ _ he,fun _=>trivial⟩
  | ret=>exact ⟨fun h S K K' r hk he=>hk _ _ _ he,fun _=>trivial⟩
  | region id ops draw =>
    refine ⟨fun h S K K' r hk he=>?_,fun _=>trivial⟩
    obtain ⟨p,hp⟩:=qk (R:=R) P E (nt:=nt) ops draw S
    have he:oX P E nt ops draw S (K .normal)=some r:=he
    show oX P E nt ops draw S (K' .normal)=some r
    rw [hp] at he ⊢
    cases p with
    | none=>cases he
    | some S'=>exact hk _ _ _ he
  | seq a b r9 pR =>
    refine ⟨r9.1.seq pR.1,fun l=>?_⟩
    have e1:=r9.2 l
    have e2:=pR.2 l
    show Er (nJ nt (rI P E nt n a).2 (rI P E nt n b).2 (rI P E nt n b).1 (rI P E nt n b).1 l) (nJ nt (lY P E nt a) (lY P E nt b) (ib P E nt b) (ib P E nt b) l)
    unfold nJ
    cases h1:(rI (R:=R) P E nt n a).2 l <;> cases h2:lY (R:=R) P E nt a l <;> rw [h1,h2] at e1 <;> first | exact e1.elim | skip
    · simp only
      cases h1:(rI (R:=R) P E nt n b).2 l <;> cases h2:lY (R:=R) P E nt b l <;> rw [h1,h2] at e2 <;> first | exact e2.elim | skip
      · trivial
      · exact fun h S K K' r hk he=>e2 _ _ _ _ _ hk he
    · exact Le.seq e1 pR.1
  | cond x a b r9 pR =>
    refine ⟨fun h S K K' r hk he=>?_,fun _=>trivial⟩
    have he:(match dQ E nt S 0 x with | some (.b t,.no)=>cond t ((rI P E nt n a).1 h.s1 S K) ((rI P E nt n b).1 h.s2 S K) | some (.ub e,.no)=>cond e none ((rI P E nt n b).1 h.s2 S K) | _=>none)=some r:=he
    show (match dQ E nt S 0 x with | some (.b t,.no)=>cond t (ib P E nt a h.s1 S K') (ib P E nt b h.s2 S K') | some (.ub e,.no)=>cond e (both (ib P E nt a h.s1 S K') (ib P E nt b h.s2 S K')) (ib P E nt b h.s2 S K') | _=>none)=some r
    split at he
    · rename_i t ho
      try simp only [ho]
      cases t with
      | true=>exact r9.1 _ _ _ _ _ hk he
      | false=>exact pR.1 _ _ _ _ _ hk he
    · rename_i e ho
      try simp only [ho]
      cases e with
      | true=>cases he
      | false=>exact pR.1 _ _ _ _ _ hk he
    · cases he
  | block id a ih =>
    refine ⟨fun h S K K' r hk he=>ih.1 _ _ _ _ _ (fun e S' r' hr=>?_) he,fun _=>trivial⟩
    cases e <;> first | exact hk _ _ _ hr | skip
    rename_i j
    cases hb:Nat.beq j id <;> simp only [gq,hb] at hr ⊢ <;> exact hk _ _ _ hr
  | loop a ih =>
    refine ⟨fun h S K K' r hk he=>?_,fun _=>trivial⟩
    cases h <;> first | (cases he;done) | skip
    rename_i G a'
    have he:(match eR nt G S with | some xs=>gY (BG ((rI P E nt n a).1 a') G) (Af nt G) n xs K | none=>none)=some r:=he
    show mP nt (ib P E nt a a') G S K'=some r
    unfold mP
    split at he
    · rename_i xs hx
      try simp only [hx]
      exact (gS (mz ((jN P E a).1 a') G) xs K' r).2 ⟨n,py (f:=BG ((rI P E nt n a).1 a') G) (fun i K K' r hk hf=>ih.1 a' (dp G i) K K' r hk hf) n xs K K' r hk he⟩
    · cases he
  | rangeFunc _ _ _ _ _ _=>exact ⟨fun h S K K' r hk he=>(by cases he),fun _=>trivial⟩
  | scope a ih =>
    refine ⟨fun h S K K' r hk he=>?_,fun _=>trivial⟩
    cases h <;> first | (cases he;done) | skip
    rename_i ls a'
    refine ih.1 _ _ _ _ _ (fun e S' r' hr=>?_) he
    show fN nt (lY P E nt a) ls a' K' e S'=some r'
    have hr:oU nt n (rI P E nt n a).2 ls a' K e S'=some r':=hr
    unfold oU at hr
    unfold fN ni
    cases ht:tS nt ls e S' with
    | none=>simp only [ht] at hr ⊢;exact hk _ _ _ hr
    | some j =>
     cases j with
     | none=>simp only [ht] at hr;cases hr
     | some j =>
      simp only [ht] at hr ⊢
      refine (gS (mw (jN P E a).2 ls a') j K' r').2 ⟨n,py (fun i K K' r hk hf=>?_) n j K K' r' hk hr⟩
      unfold vb at hf ⊢
      have e1:=ih.2 i.1
      cases h1:(rI (R:=R) P E nt n a).2 i.1 <;> cases h2:lY (R:=R) P E nt a i.1 <;> rw [h1,h2] at e1 <;> first | exact e1.elim | skip
      · rw [h1] at hf;cases hf
      · rw [h1] at hf
        cases hG:mQ i.1 ls with
        | none=>simp only [hG] at hf;cases hf
        | some G=>simp only [hG] at hf ⊢;exact e1 _ _ _ _ _ hk hf
  | refuse _=>exact ⟨fun h S K K' r hk he=>(by cases he),fun _=>trivial⟩
end
noncomputable def runN (P:Program) (E:cI) (n f:Nat) (sg:cr) (h:Hint) (ins:List TV):OT :=
 match P.funcs[f]? with
 | some fn=>match fn.body with
  | some c=>da (pB fn sg&&uR fn sg ins) ((rI P E fn.ntmps n c).1 h (B3 fn.params.size sg ins) (sr P fn.ntmps fn sg))
  | none=>none
 | none=>none
theorem yg {P:Program} {E:cI} {n f:Nat} {sg:cr} {h:Hint} {ins outs:List TV} (he:runN P E n f sg h ins=some outs):dK P E f sg h ins=some outs:=by
 unfold runN at he
 unfold dK
 cases hf:P.funcs[f]? with
 | none=>rw [hf] at he;cases he
 | some fn =>
 cases hb:fn.body with
 | none=>simp only [hf,hb] at he;cases he
 | some c =>
 simp only [hf,hb] at he ⊢
 obtain ⟨h1,h2⟩:=bt.1 he
 refine bt.2 ⟨h1,?_⟩
 rw [←tA]
 exact (Bl P E _ n _).1 _ _ _ _ _ (fun _ _ _ h=>h) h2
abbrev IC:=cr × (Hint × List Nat)
abbrev zl:=List (Nat × IC)
def j8:List TV→List TV→Bool
 | [],[]=>true
 | .sl .is a :: r,.sl .is b :: t=>decide (a=b)&&j8 r t
 | .sl .bs a :: r,.sl .bs b :: t=>decide (a=b)&&j8 r t
 | _,_=>false
theorem kX:∀{a b:List TV},j8 a b=true→a=b
 | [],[],_=>rfl
 | [],_ :: _,h=>by cases h
 | x :: r,[],h=>by cases x <;> first | cases h | (rename_i t l;cases t <;> cases h)
 | x :: r,y :: t,h=>by
  unfold j8 at h
  split at h
  ·rename_i e;cases e
  ·rename_i e1 e2
   injection e1 with a1 a2;injection e2 with b1 b2
   subst a1 a2 b1 b2
   rw [ae] at h
   rw [au h.1,kX h.2]
  ·rename_i e1 e2
   injection e1 with a1 a2;injection e2 with b1 b2
   subst a1 a2 b1 b2
   rw [ae] at h
   rw [au h.1,kX h.2]
  ·cases h
noncomputable def told (l:List TV):OT→iM
 | some o=>cond (j8 (o.drop (o.length - l.length)) l) (.ok (o.take (o.length - l.length))) .err
 | none => .err
theorem tT {l:List TV} {r:OT} {outs:List TV} (h:(told l r).holds outs):r=some (outs++l):=by
 cases r with
 | none=>exact h.elim
 | some o =>
  have h:(cond (j8 (o.drop (o.length - l.length)) l) (iM.ok (o.take (o.length - l.length))) iM.err).holds outs:=h
  cases hs:j8 (o.drop (o.length - l.length)) l with
  | false=>rw [hs] at h;exact h.elim
  | true =>
   rw [hs] at h
   have h:outs=o.take (o.length - l.length):=h
   have hd:=kX hs
   have e:o=o.take (o.length - l.length)++o.drop (o.length - l.length):=(List.take_append_drop _ _).symm
   rw [hd,←h] at e
   exact congrArg some e
noncomputable def ua (P:Program) (n:Nat) (ty:zj) (z:Zs) (base:List (Nat × (eH × cr))) (rs:zl):Nat→cI
 | 0=>dO ty z base []
 | d+1=>⟨fun f=>match kE rs f with
  | some p=>(fun ins=>told (fD p.1.md ins) (runN P { ua P n ty z base rs d with ld:=p.2.2 } n f p.1 p.2.1 ins),p.1)
  | none=>look sW base f,kE ty,kE z,[]⟩
theorem sQ {P:Program} {gl:Nat→Option (List Value)} {n:Nat} {ty:zj} {z:Zs} {base:List (Nat × (eH × cr))} {rs:zl} (hm:P.follows .mixedOrders=true∧nW P ty=true∧tN P z=true) (hE:∀p∈base,bD P gl p.1 p.2):∀d,(∀ld,fc P { ua P n ty z base rs d with ld:=ld })∧∀f,bD P gl f ((ua P n ty z base rs d).fs f)
 | 0=>⟨fun ld=>so (ld:=ld) hm.1 hm.2.1 hm.2.2,sq hE⟩
 | d+1=>by
  obtain ⟨h1,h2⟩:=sQ (n:=n) (rs:=rs) hm hE d
  refine ⟨fun ld=>?_,fun f=>?_⟩
  ·have h0:=so (l:=base) (ld:=ld) hm.1 hm.2.1 hm.2.2
   exact ⟨h0.mixed,h0.ty,h0.z⟩
  show bD P gl f (match kE rs f with | some p=>_ | none=>_)
  split
  ·rename_i p hp
   refine sM (h1 p.2.2) h2 p.2.1 fun ins outs hc=>?_
   refine yg (n:=n) ?_
   have hc:(told (fD p.1.md ins) (runN P { ua P n ty z base rs d with ld:=p.2.2 } n f p.1 p.2.1 ins)).holds outs:=hc
   exact tT hc
  ·exact sq hE f
theorem runs {P:Program} {gl:Nat→Option (List Value)} {n d:Nat} {ty:zj} {z:Zs} {base:List (Nat × (eH × cr))} {rs:zl} (hm:P.follows .mixedOrders=true∧nW P ty=true∧tN P z=true) (hE:∀p∈base,bD P gl p.1 p.2) (f:Nat):bD P gl f ((ua P n ty z base rs d).fs f):=(sQ hm hE d).2 f
end Go.Eng
set_option maxRecDepth 100000
namespace Go.Eng
noncomputable abbrev PG:=Go.Proofs.Tryz.prog
open Go.Proofs
def sc (l:List Nat):GL:=l.map fun k=>(k,.no)
@[reducible] def fI:zj:=[(22,.bs,1),(26,.fl,136),(32,.is,8)]
@[reducible] def zs:Zs:=[(28,[(.i .i64 (0:Int)),(.u64 (0:UInt64)),(.u64 (0:UInt64)),(.u64 (0:UInt64)),(.s ([]:bG)),(.s ([]:bG)),(.i .i64 (0:Int)),(.nl .bs),(.nl .fl)]),(34,[(.i .i64 (0:Int)),(.i .i64 (0:Int)),(.nl .is)]),(67,[(.nl .bs),(.i .i64 (0:Int))]),(76,[(.s ([]:bG)),(.i .i64 (0:Int)),(.u64 (0:UInt64)),(.u64 (0:UInt64)),(.u64 (0:UInt64)),(.s ([]:bG)),(.s ([]:bG)),(.i .i64 (0:Int)),(.nl .bs),(.nl .fl)]),(99,[(.nl .bs)]),(118,[(.s ([]:bG)),(.s ([]:bG)),(.s ([]:bG)),(.s ([]:bG)),(.s ([]:bG)),(.s ([]:bG)),(.s ([]:bG)),(.s ([]:bG)),(.s ([]:bG)),(.s ([]:bG)),(.s ([]:bG)),(.s ([]:bG)),(.s ([]:bG)),(.s ([]:bG)),(.s ([]:bG)),(.s ([]:bG)),(.s ([]:bG)),(.s ([]:bG)),(.s ([]:bG)),(.s ([]:bG))]),(156,[(.nl .bs),(.i .i64 (0:Int))])]
theorem bW:PG.follows .mixedOrders=true∧nW PG fI=true∧tN PG zs=true:=⟨by kernel_rfl,by kernel_rfl,by kernel_rfl⟩
def Errs:Type:={p:Value × Value // (p.1 = .nilIface∨∃te pe,p.1 = .iface te pe)∧(p.2 = .nilIface∨∃te pe,p.2 = .iface te pe)}
noncomputable def cnGl (ee:Errs):Nat→Option (List Value):=yP [(5,p9 .u8 (Lib.deBruijn64tab.map Int.ofNat)),(3,p9 .u64 Lib.pow10Tab),(1,[ee.1.1]),(2,[ee.1.2])]
noncomputable section
def ca.sg:cr:={}
def ca.c:eH:=fun l=>match l with
 | [.s s,.u8 c] => .ok [(.i .i64 (Lib.indexByte s c))]
 | _ => .err
def dD.sg:cr:={}
def dD.c:eH:=fun l=>match l with
 | [.s s,.s t] => .ez (decide (t.length=1)) [(.i .i64 (Lib.indexByte s (t.getD 0 0)))]
 | _ => .err
def eM.sg:cr:={}
def eM.c:eH:=fun l=>match l with
 | [.i .i64 r] => .ok [(.b (dt.iY r))]
 | _ => .err
def bA.sg:cr:={ bE:=2 }
def bA.c:eH:=fun l=>match l with
 | [.sl .bs b,.i .i64 at_] => .ez (decide (b.length≤1099511627776)) [(.i .i64 ((dt.iP b at_).1)),(.i .i64 ((dt.iP b at_).2))]
 | _ => .err
def bM.sg:cr:={ bE:=2 }
def bM.c:eH:=fun l=>match l with
 | [.sl .bs b] => .ez (decide (b.length≤1099511627776)) [(.i .i64 (((dt.look b).1:Int))),(.i .i64 (((dt.look b).2:Int)))]
 | _ => .err
def cC.sg:cr:={ bE:=2 }
def cC.c:eH:=fun l=>match l with
 | [.sl .bs b] => .ez (decide (b.length≤1099511627776)) [(.i .i64 (((dt.look b).1:Int))),(.b (dt.whole b))]
 | _ => .err
def cM.sg:cr:={}
def cM.c:eH:=fun l=>match l with
 | [.i .i64 k] => .ok [(.s (Tree.name k))]
 | _ => .err
def br.sg:cr:={}
def br.c:eH:=fun l=>match l with
 | [.ag [.i .i64 gB,.u64 gE,.u64 gC,.u64 gA,.s gu,.s gz,.i .i64 gw,.sl .bs gr,.sl .fl gD]] => .ok [(.b (Tree.cw (Val.mk gB gE gC gA gu gz gw gr gD)))]
 | _ => .err
def dC.sg:cr:={}
def dC.c:eH:=fun l=>match l with
 | [.s s,.s t] => .ez (decide (t.length=1)) [(.i .i64 (Lib.indexByte s (t.getD 0 0)))]
 | _ => .err
def cB.sg:cr:={}
def cB.c:eH:=fun l=>match l with
 | [.s s,.s t] => .ez (decide (t.length=1)) [(.b (decide (0≤Lib.indexByte s (t.getD 0 0))))]
 | _ => .err
def di.sg:cr:={ md:=[.sm] }
def di.c:eH:=fun l=>match l with
 | [.sl .is l] => .ez (fg (l).length 8) [(.sl .is (l))]
 | _ => .err
def cJ.sg:cr:={}
def cJ.c:eH:=fun l=>match l with
 | [.s s,.b plain] => .ez (decide (s.length≤1099511627776)) [(.b (Tree.dw s plain))]
 | _ => .err
def bH.sg:cr:={ md:=[.pl,.pl,.sm],bE:=2 }
def bH.c:eH:=fun l=>match l with
 | [.ag [.i .i64 gB,.u64 gE,.u64 gC,.u64 gA,.s gu,.s gz,.i .i64 gw,.sl .bs gr,.sl .fl gD],.s name,.sl .is path] => .ez (decide (bq.bS (bq.of name (Val.mk gB gE gC gA gu gz gw gr gD))+path.length≤1099511627776)) [(.sl .is ((Tree.fC (bq.of name (Val.mk gB gE gC gA gu gz gw gr gD)) path).1)),(.i .i64 ((Tree.fC (bq.of name (Val.mk gB gE gC gA gu gz gw gr gD)) path).2))]
 | _ => .err
def bH.cn (n:Nat):eH:=fun l=>match l with
 | [.ag [.i .i64 gB,.u64 gE,.u64 gC,.u64 gA,.s gu,.s gz,.i .i64 gw,.sl .bs gr,.sl .fl gD],.s name,.sl .is path] => .ez ((decide (bq.bS (bq.of name (Val.mk gB gE gC gA gu gz gw gr gD))+path.length≤1099511627776))&&decide ((bq.bS (bq.of name (Val.mk gB gE gC gA gu gz gw gr gD)))<n)) [(.sl .is ((Tree.fC (bq.of name (Val.mk gB gE gC gA gu gz gw gr gD)) path).1)),(.i .i64 ((Tree.fC (bq.of name (Val.mk gB gE gC gA gu gz gw gr gD)) path).2))]
 | _ => .err
def cA.sg:cr:={ bE:=2 }
def cA.c:eH:=fun l=>match l with
 | [.ag [.i .i64 gB,.u64 gE,.u64 gC,.u64 gA,.s gu,.s gz,.i .i64 gw,.sl .bs gr,.sl .fl gD]] => .ez (decide (bq.bS (bq.of [] (Val.mk gB gE gC gA gu gz gw gr gD))≤1099511627776)) [(.sl .is ((Tree.fC (bq.of [] (Val.mk gB gE gC gA gu gz gw gr gD)) []).1)),(.i .i64 ((Tree.fC (bq.of [] (Val.mk gB gE gC gA gu gz gw gr gD)) []).2))]
 | _ => .err
def bK.sg:cr:={}
def bK.c:eH:=fun l=>match l with
 | [.ag [.i .i64 Cn,.u64 Cq,.u64 Co,.u64 Cm,.s Cj,.s Cl,.i .i64 Ck,.sl .bs Ci,.sl .fl Cp],.ag [.i .i64 FO,.u64 FR,.u64 FP,.u64 FN,.s FJ,.s FM,.i .i64 FL,.sl .bs FI,.sl .fl FQ]] => .ez (decide (bq.bS (bq.of [] (Val.mk Cn Cq Co Cm Cj Cl Ck Ci Cp))≤1099511627776)) [(.b (Tree.same (Val.mk Cn Cq Co Cm Cj Cl Ck Ci Cp) (Val.mk FO FR FP FN FJ FM FL FI FQ)))]
 | _ => .err
def bK.cn (n:Nat):eH:=fun l=>match l with
 | [.ag [.i .i64 Cn,.u64 Cq,.u64 Co,.u64 Cm,.s Cj,.s Cl,.i .i64 Ck,.sl .bs Ci,.sl .fl Cp],.ag [.i .i64 FO,.u64 FR,.u64 FP,.u64 FN,.s FJ,.s FM,.i .i64 FL,.sl .bs FI,.sl .fl FQ]] => .ez ((decide (bq.bS (bq.of [] (Val.mk Cn Cq Co Cm Cj Cl Ck Ci Cp))≤1099511627776))&&decide ((bq.bS (bq.of [] (Val.mk Cn Cq Co Cm Cj Cl Ck Ci Cp)))<n)) [(.b (Tree.same (Val.mk Cn Cq Co Cm Cj Cl Ck Ci Cp) (Val.mk FO FR FP FN FJ FM FL FI FQ)))]
 | _ => .err
def bI.sg:cr:={}
def bI.c:eH:=fun l=>match l with
 | [.ag [.i .i64 gB,.u64 gE,.u64 gC,.u64 gA,.s gu,.s gz,.i .i64 gw,.sl .bs gr,.sl .fl gD]] => .ez (decide (bq.bS (bq.of [] (Val.mk gB gE gC gA gu gz gw gr gD))≤1099511627776)) [(.i .i64 ((Tree.depth (bq.of [] (Val.mk gB gE gC gA gu gz gw gr gD)):Int)))]
 | _ => .err
def bI.cn (n:Nat):eH:=fun l=>match l with
 | [.ag [.i .i64 gB,.u64 gE,.u64 gC,.u64 gA,.s gu,.s gz,.i .i64 gw,.sl .bs gr,.sl .fl gD]] => .ez ((decide (bq.bS (bq.of [] (Val.mk gB gE gC gA gu gz gw gr gD))≤1099511627776))&&decide ((bq.bS (bq.of [] (Val.mk gB gE gC gA gu gz gw gr gD)))<n)) [(.i .i64 ((Tree.depth (bq.of [] (Val.mk gB gE gC gA gu gz gw gr gD)):Int)))]
 | _ => .err
def dG.sg:cr:={}
def dG.c:eH:=fun l=>match l with
 | [.sl .bs a,.sl .bs b] => .ok [(.b (decide (a=b)))]
 | _ => .err
def bR.sg:cr:={}
def bR.c:eH:=fun l=>match l with
 | [.i .i64 left,.sl .is bY] => .ez (decide (left≤1200∧bY.length≤10)&&bY.all (fun s=>decide (0≤s))) [(.i .i64 (dr.room left bY))]
 | _ => .err
def bJ.sg:cr:={}
def bJ.c:eH:=fun l=>match l with
 | [.i .i64 left,.ag [.i .i64 gB,.u64 gE,.u64 gC,.u64 gA,.s gu,.s gz,.i .i64 gw,.sl .bs gr,.sl .fl gD]] => .ez (decide (left≤1200)) [(.i .i64 (dr.value left (bq.of [] (Val.mk gB gE gC gA gu gz gw gr gD))))]
 | _ => .err
def bJ.cn (n:Nat):eH:=fun l=>match l with
 | [.i .i64 left,.ag [.i .i64 gB,.u64 gE,.u64 gC,.u64 gA,.s gu,.s gz,.i .i64 gw,.sl .bs gr,.sl .fl gD]] => .ez ((decide (left≤1200))&&decide ((bq.bS (bq.of [] (Val.mk gB gE gC gA gu gz gw gr gD)))<n)) [(.i .i64 (dr.value left (bq.of [] (Val.mk gB gE gC gA gu gz gw gr gD))))]
 | _ => .err
def cK.sg:cr:={}
def cK.c:eH:=fun l=>match l with
 | [.ag [.i .i64 gB,.u64 gE,.u64 gC,.u64 gA,.s gu,.s gz,.i .i64 gw,.sl .bs gr,.sl .fl gD]] => .ok [(.b (decide (0≤dr.value 1200 (bq.of [] (Val.mk gB gE gC gA gu gz gw gr gD)))))]
 | _ => .err
def BA.c:eH:=fun l=>match l with
 | [.i .i64 k,.i .i64 n] => .ez (decide (1≤n∧n≤1099511627776)) [(.i .i64 (k % n))]
 | _ => .err
def cN.sg:cr:={}
def cN.c:eH:=fun l=>match l with
 | [.i .i64 n] => .ok [(.b (decide (1≤n∧n≤8)))]
 | _ => .err
def bZ.sg:cr:={ own:=[0] }
def bZ.c:eH:=fun l=>match l with
 | [.sl .bs a] => .ez (fg (a).length 1) [(.sl .bs (a))]
 | _ => .err
def eE.sg:cr:={ kd := .nw none }
def eE.c:eH:=fun l=>match l with
 | [.sl .bs b] => .ez (decide ((b).length≤1099511627776)) [(.ag (bz.cells ((bz.mk b 0))))]
 | _ => .err
def dI.sg:cr:={ md:=[.rf] }
def dI.c:eH:=fun l=>match l with
 | [.ag [.sl .bs dz,.i .i64 bO]] => .ez (decide (0≤((bz.mk dz bO)).at_∧((bz.mk dz bO)).at_≤(((bz.mk dz bO)).b).length∧(((bz.mk dz bO)).b).length≤1099511627776)) [(.i .i64 (((((bz.mk dz bO)).b).length:Int) - ((bz.mk dz bO)).at_)),(.ag (bz.cells ((bz.mk dz bO))))]
 | _ => .err
def dZ.sg:cr:={ md:=[.rf],bE:=2 }
def dZ.c:eH:=fun l=>match l with
 | [.ag [.sl .bs dz,.i .i64 bO],.i .i64 n] => .ez (decide (1≤n∧n≤8∧0≤((bz.mk dz bO)).at_∧((bz.mk dz bO)).at_≤(((bz.mk dz bO)).b).length∧(((bz.mk dz bO)).b).length≤1099511627776)) [(.sl .bs ((Bs.fB (bz.mk dz bO) n))),(.b ((Bs.can (bz.mk dz bO) n))),(.ag (bz.cells ((Bs.jt (bz.mk dz bO) n))))]
 | _ => .err
def cY.sg:cr:={ md:=[.rf],bE:=2 }
def cY.c:eH:=fun l=>match l with
 | [.ag [.sl .bs dz,.i .i64 bO],.i .i64 n] => .ez (decide (1≤n∧n≤8∧0≤((bz.mk dz bO)).at_∧((bz.mk dz bO)).at_≤(((bz.mk dz bO)).b).length∧(((bz.mk dz bO)).b).length≤1099511627776)) [(.u64 ((UInt64.ofNat (Bs.gk (Bs.fB (bz.mk dz bO) n))))),(.b ((Bs.can (bz.mk dz bO) n))),(.ag (bz.cells ((Bs.jt (bz.mk dz bO) n))))]
 | _ => .err
def eg.sg:cr:={ md:=[.rf],bE:=2 }
def eg.c:eH:=fun l=>match l with
 | [.ag [.sl .bs dz,.i .i64 bO],.i .i64 n] => .ez (decide (0≤n∧0≤((bz.mk dz bO)).at_∧((bz.mk dz bO)).at_≤(((bz.mk dz bO)).b).length∧(((bz.mk dz bO)).b).length≤1099511627776)) [(.sl .bs ((Bs.p8 (bz.mk dz bO) n))),(.b ((Bs.re (bz.mk dz bO) n))),(.ag (bz.cells ((Bs.pa (bz.mk dz bO) n))))]
 | _ => .err
def eO.sg:cr:={ kd := .nw (some 0) }
def eO.c:eH:=fun l=>match l with
 | [] => .ok [(.ag [.pt]),(.sl .bs (([]:List UInt8)))]
 | _ => .err
def dx.sg:cr:={ bE:=0,kd := .wr 0 0 true }
def dx.c:eH:=fun l=>match l with
 | [.ag [.pt],.i .i64 v,.sl .bs b] => .ez (decide ((b).length≤1099511627776)) [(.ag [.pt]),(.sl .bs ((b++[UInt8.ofInt v])))]
 | _ => .err
def eC.sg:cr:={ bE:=0,kd := .wr 0 0 true }
def eC.c:eH:=fun l=>match l with
 | [.ag [.pt],.sl .bs x,.sl .bs b] => .ez (decide ((b).length+(x).length≤2199023255552)) [(.ag [.pt]),(.sl .bs ((b++x)))]
 | _ => .err
def cP.sg:cr:={ bE:=0,kd := .wr 0 0 true }
def cP.c:eH:=fun l=>match l with
 | [.ag [.pt],.u64 v,.i .i64 n,.sl .bs b] => .ez (decide (1≤n∧n≤8∧(b).length≤1099511627776)) [(.ag [.pt]),(.sl .bs ((b++Bs.eU (n).toNat (v).toNat)))]
 | _ => .err
def cW.sg:cr:={ kd := .wr 0 0 true }
def cW.c:eH:=fun l=>match l with
 | [.ag [.pt],.i .i64 at_,.u64 v,.i .i64 n,.sl .bs b] => .ez (decide (1≤n∧n≤8∧0≤at_∧at_+n≤((b).length:Int)∧(b).length≤2199023255552)) [(.b (true)),(.ag [.pt]),(.sl .bs ((Bs.ji b (at_).toNat (Bs.eU (n).toNat (v).toNat))))]
 | _ => .err
def eD.sg:cr:={ kd := .wr 0 0 true }
def eD.c:eH:=fun l=>match l with
 | [.ag [.pt],.sl .bs b] => .ok [(.i .i64 (((b).length:Int))),(.ag [.pt]),(.sl .bs (b))]
 | _ => .err
def dF.sg:cr:={ md:=[.rf] }
def dF.c:eH:=fun l=>match l with
 | [.ag [.sl .bs Ew]] => .ez (decide ((((rK.mk Ew)).b).length≤2199023255552)) [(.sl .bs ((((rK.mk Ew)).b))),(.ag (rK.cells ((rK.mk Ew))))]
 | _ => .err
def cd.sg:cr:={}
def cd.c:eH:=fun l=>match l with
 | [.sl .bs b,.u8 c] => .ok [(.i .i64 (Lib.indexByte b c))]
 | _ => .err
def cL.sg:cr:={ bE:=3 }
def cL.c:eH:=fun l=>match l with
 | [.sl .bs b,.i .i64 at_] => .ez (decide ((b).length≤1099511627776)) [(.s ((Bs.ctext b at_).1)),(.i .i64 ((Bs.ctext b at_).2.1)),(.i .i64 ((Bs.ctext b at_).2.2))]
 | _ => .err
def cF.sg:cr:={}
def cF.c:eH:=fun l=>match l with
 | [.sl .fl l] => .ez (decide (bq.bU l≤1000000000000)) [(.i .i64 (((Bs.bY l+5:Nat):Int)))]
 | _ => .err
def cF.cn (n:Nat):eH:=fun l=>match l with
 | [.sl .fl l] => .ez ((decide (bq.bU l≤1000000000000))&&decide ((2 * bq.bU l+1)<n)) [(.i .i64 (((Bs.bY l+5:Nat):Int)))]
 | _ => .err
def ct.sg:cr:={}
def ct.c:eH:=fun l=>match l with
 | [.ag [.i .i64 gB,.u64 gE,.u64 gC,.u64 gA,.s gu,.s gz,.i .i64 gw,.sl .bs gr,.sl .fl gD]] => .ez (decide (bq.bS (bq.of [] (Val.mk gB gE gC gA gu gz gw gr gD))≤1000000000000)) [(.i .i64 (((Bs.size (bq.of [] (Val.mk gB gE gC gA gu gz gw gr gD)):Nat):Int)))]
 | _ => .err
def ct.cn (n:Nat):eH:=fun l=>match l with
 | [.ag [.i .i64 gB,.u64 gE,.u64 gC,.u64 gA,.s gu,.s gz,.i .i64 gw,.sl .bs gr,.sl .fl gD]] => .ez ((decide (bq.bS (bq.of [] (Val.mk gB gE gC gA gu gz gw gr gD))≤1000000000000))&&decide ((2 * bq.bS (bq.of [] (Val.mk gB gE gC gA gu gz gw gr gD)))<n)) [(.i .i64 (((Bs.size (bq.of [] (Val.mk gB gE gC gA gu gz gw gr gD)):Nat):Int)))]
 | _ => .err
def eB.sg:cr:={}
def eB.c:eH:=fun l=>match l with
 | [.ag [.i .i64 iX,.i .i64 kg,.i .i64 mX]] => .ok [(.b (Bs.may (Lim.mk iX kg mX)))]
 | _ => .err
def dX.sg:cr:={}
def dX.c:eH:=fun l=>match l with
 | [.ag [.i .i64 gB,.u64 gE,.u64 gC,.u64 gA,.s gu,.s gz,.i .i64 gw,.sl .bs gr,.sl .fl gD],.ag [.i .i64 iX,.i .i64 kg,.i .i64 mX]] => .ez (decide (bq.bS (bq.of [] (Val.mk gB gE gC gA gu gz gw gr gD))≤1000000000000)) [(.i .i64 (Bs.fits (Val.mk gB gE gC gA gu gz gw gr gD) (Lim.mk iX kg mX)))]
 | _ => .err
def cS.sg:cr:={ bE:=0,kd := .wr 0 0 true }
def cS.c:eH:=fun l=>match l with
 | [.ag [.pt],.s s,.sl .bs b] => .ez (decide ((b).length+(s).length≤1099511627776)) [(.ag [.pt]),(.sl .bs ((b++(s++[0]))))]
 | _ => .err
def eh.sg:cr:={ bE:=0,kd := .wr 0 0 true }
def eh.c:eH:=fun l=>match l with
 | [.ag [.pt],.s s,.sl .bs b] => .ez (decide ((b).length+(s).length+10≤1099511627776)) [(.ag [.pt]),(.sl .bs ((b++Bs.fv s)))]
 | _ => .err
def bC.sg:cr:={ bE:=0,kd := .wr 0 0 true }
def bC.c:eH:=fun l=>match l with
 | [.ag [.pt],.sl .fl l,.sl .bs b] => .ez (decide ((b).length+30 * bq.bU l+50≤1000000000000)) [(.ag [.pt]),(.sl .bs ((b++Bs.fw l)))]
 | _ => .err
def bC.cn (n:Nat):eH:=fun l=>match l with
 | [.ag [.pt],.sl .fl l,.sl .bs b] => .ez ((decide ((b).length+30 * bq.bU l+50≤1000000000000))&&decide ((2 * bq.bU l+1)<n)) [(.ag [.pt]),(.sl .bs ((b++Bs.fw l)))]
 | _ => .err
def bB.sg:cr:={ bE:=0,kd := .wr 0 0 true }
def bB.c:eH:=fun l=>match l with
 | [.ag [.pt],.ag [.i .i64 gB,.u64 gE,.u64 gC,.u64 gA,.s gu,.s gz,.i .i64 gw,.sl .bs gr,.sl .fl gD],.sl .bs b] => .ez (decide ((b).length+30 * bq.bS (bq.of [] (Val.mk gB gE gC gA gu gz gw gr gD))+30≤1000000000000)) [(.ag [.pt]),(.sl .bs ((b++Bs.enc (bq.of [] (Val.mk gB gE gC gA gu gz gw gr gD)))))]
 | _ => .err
def bB.cn (n:Nat):eH:=fun l=>match l with
 | [.ag [.pt],.ag [.i .i64 gB,.u64 gE,.u64 gC,.u64 gA,.s gu,.s gz,.i .i64 gw,.sl .bs gr,.sl .fl gD],.sl .bs b] => .ez ((decide ((b).length+30 * bq.bS (bq.of [] (Val.mk gB gE gC gA gu gz gw gr gD))+30≤1000000000000))&&decide ((2 * bq.bS (bq.of [] (Val.mk gB gE gC gA gu gz gw gr gD)))<n)) [(.ag [.pt]),(.sl .bs ((b++Bs.enc (bq.of [] (Val.mk gB gE gC gA gu gz gw gr gD)))))]
 | _ => .err
def db.sg:cr:={ bE:=2 }
def db.c:eH:=fun l=>match l with
 | [.ag [.i .i64 gB,.u64 gE,.u64 gC,.u64 gA,.s gu,.s gz,.i .i64 gw,.sl .bs gr,.sl .fl gD]] => .ez (decide (bq.bS (bq.of [] (Val.mk gB gE gC gA gu gz gw gr gD))≤10000000000)) [(.sl .bs ((Bs.encode (Val.mk gB gE gC gA gu gz gw gr gD)).1)),(.ag (cD.cells ((cD.mk (Bs.encode (Val.mk gB gE gC gA gu gz gw gr gD)).2.1 0 (Bs.encode (Val.mk gB gE gC gA gu gz gw gr gD)).2.2))))]
 | _ => .err
def b9.sg:cr:={}
def b9.c:eH:=fun l=>match l with
 | [.i .i64 e,.i .i64 at_] => .ok [(.ag (cD.cells ((cD.mk e at_ []))))]
 | _ => .err
def cj.sg:cr:={ md:=[.rf] }
def cj.c:eH:=fun l=>match l with
 | [.ag [.sl .bs dz,.i .i64 bO],.i .i64 at_] => .ez (decide (0≤at_∧at_+4≤((((bz.mk dz bO)).b).length:Int)∧(((bz.mk dz bO)).b).length≤1000000000)) [(.i .i64 ((Bs.dy (((bz.mk dz bO)).b) (at_).toNat))),(.ag (bz.cells ((bz.mk dz bO))))]
 | _ => .err
def bL.sg:cr:={}
def bL.c:eH:=fun l=>match l with
 | [.i .i64 k] => .ok [(.i .i64 (((Bs.fixed k:Nat):Int)))]
 | _ => .err
def dH.sg:cr:={ md:=[.rf],bE:=3 }
def dH.c:eH:=fun l=>match l with
 | [.ag [.sl .bs dz,.i .i64 bO],.i .i64 q,.i .i64 z] => .ez (decide (0≤q∧q≤z∧z≤((((bz.mk dz bO)).b).length:Int)∧(((bz.mk dz bO)).b).length≤1000000000)) [(.s ((Bs.fR ([],0) (Bs.ended (((bz.mk dz bO)).b) (q).toNat (z).toNat)).1)),(.i .i64 (((Bs.fR ([],0) (Bs.ended (((bz.mk dz bO)).b) (q).toNat (z).toNat)).2:Int))),(.ag (cD.cells ((Bs.jM (Bs.ended (((bz.mk dz bO)).b) (q).toNat (z).toNat))))),(.ag (bz.cells ((bz.mk dz bO))))]
 | _ => .err
def dJ.sg:cr:={ md:=[.rf],bE:=3 }
def dJ.c:eH:=fun l=>match l with
 | [.ag [.sl .bs dz,.i .i64 bO],.i .i64 q,.i .i64 z] => .ez (decide (0≤q∧q≤z∧z≤((((bz.mk dz bO)).b).length:Int)∧(((bz.mk dz bO)).b).length≤1000000000)) [(.s ((Bs.fR ([],0) (Bs.text (((bz.mk dz bO)).b) (q).toNat (z).toNat)).1)),(.i .i64 (((Bs.fR ([],0) (Bs.text (((bz.mk dz bO)).b) (q).toNat (z).toNat)).2:Int))),(.ag (cD.cells ((Bs.jM (Bs.text (((bz.mk dz bO)).b) (q).toNat (z).toNat))))),(.ag (bz.cells ((bz.mk dz bO))))]
 | _ => .err
def bT.sg:cr:={ md:=[.rf],bE:=4 }
def bT.c:eH:=fun l=>match l with
 | [.ag [.sl .bs dz,.i .i64 bO],.i .i64 q,.i .i64 z] => .ez (decide (0≤q∧q+5≤z∧z≤((((bz.mk dz bO)).b).length:Int)∧(((bz.mk dz bO)).b).length≤1000000000)) [(.i .i64 ((Bs.fR (0,[],0) (Bs.binary (((bz.mk dz bO)).b) (q).toNat (z).toNat)).1)),(.sl .bs ((Bs.fR (0,[],0) (Bs.binary (((bz.mk dz bO)).b) (q).toNat (z).toNat)).2.1)),(.i .i64 (((Bs.fR (0,[],0) (Bs.binary (((bz.mk dz bO)).b) (q).toNat (z).toNat)).2.2:Int))),(.ag (cD.cells ((Bs.jM (Bs.binary (((bz.mk dz bO)).b) (q).toNat (z).toNat))))),(.ag (bz.cells ((bz.mk dz bO))))]
 | _ => .err
def de.sg:cr:={ md:=[.rf],bE:=4 }
def de.c:eH:=fun l=>match l with
 | [.ag [.sl .bs dz,.i .i64 bO],.i .i64 q,.i .i64 z,.i .i64 d] => .ez (decide (0≤q∧q+4≤z∧z≤((((bz.mk dz bO)).b).length:Int)∧(((bz.mk dz bO)).b).length≤1000000000∧0≤d∧d≤1000∧((bz.mk dz bO)).at_≤1000∧d<((bz.mk dz bO)).at_)) [(.s ((Bs.ei (Bs.doc (((bz.mk dz bO)).at_ - (d+1)).toNat) (((bz.mk dz bO)).b) (q).toNat (z).toNat).1)),(.sl .fl ((Bs.fR ([],0) (Bs.ei (Bs.doc (((bz.mk dz bO)).at_ - (d+1)).toNat) (((bz.mk dz bO)).b) (q).toNat (z).toNat).2).1)),(.i .i64 (((Bs.fR ([],0) (Bs.ei (Bs.doc (((bz.mk dz bO)).at_ - (d+1)).toNat) (((bz.mk dz bO)).b) (q).toNat (z).toNat).2).2:Int))),(.ag (cD.cells ((Bs.jM (Bs.ei (Bs.doc (((bz.mk dz bO)).at_ - (d+1)).toNat) (((bz.mk dz bO)).b) (q).toNat (z).toNat).2)))),(.ag (bz.cells ((bz.mk dz bO))))]
 | _ => .err
def de.cn (n:Nat):eH:=fun l=>match l with
 | [.ag [.sl .bs dz,.i .i64 bO],.i .i64 q,.i .i64 z,.i .i64 d] => .ez ((decide (0≤q∧q+4≤z∧z≤((((bz.mk dz bO)).b).length:Int)∧(((bz.mk dz bO)).b).length≤1000000000∧0≤d∧d≤1000∧((bz.mk dz bO)).at_≤1000∧d<((bz.mk dz bO)).at_))&&decide ((3 * (((bz.mk dz bO)).at_ - d).toNat)<n)) [(.s ((Bs.ei (Bs.doc (((bz.mk dz bO)).at_ - (d+1)).toNat) (((bz.mk dz bO)).b) (q).toNat (z).toNat).1)),(.sl .fl ((Bs.fR ([],0) (Bs.ei (Bs.doc (((bz.mk dz bO)).at_ - (d+1)).toNat) (((bz.mk dz bO)).b) (q).toNat (z).toNat).2).1)),(.i .i64 (((Bs.fR ([],0) (Bs.ei (Bs.doc (((bz.mk dz bO)).at_ - (d+1)).toNat) (((bz.mk dz bO)).b) (q).toNat (z).toNat).2).2:Int))),(.ag (cD.cells ((Bs.jM (Bs.ei (Bs.doc (((bz.mk dz bO)).at_ - (d+1)).toNat) (((bz.mk dz bO)).b) (q).toNat (z).toNat).2)))),(.ag (bz.cells ((bz.mk dz bO))))]
 | _ => .err
def bu.sg:cr:={ md:=[.rf],bE:=3 }
def bu.c:eH:=fun l=>match l with
 | [.ag [.sl .bs dz,.i .i64 bO],.i .i64 k,.i .i64 q,.i .i64 z,.i .i64 d] => .ez (decide (0≤q∧q≤z∧z≤((((bz.mk dz bO)).b).length:Int)∧(((bz.mk dz bO)).b).length≤1000000000∧0≤d∧d≤1000∧((bz.mk dz bO)).at_≤1000∧d<((bz.mk dz bO)).at_)) [(.ag (Val.cells ((Bs.fR (Bs.cX 0,0) (Bs.eI (Bs.doc (((bz.mk dz bO)).at_ - (d+1)).toNat) (((bz.mk dz bO)).b) k (q).toNat (z).toNat)).1))),(.i .i64 (((Bs.fR (Bs.cX 0,0) (Bs.eI (Bs.doc (((bz.mk dz bO)).at_ - (d+1)).toNat) (((bz.mk dz bO)).b) k (q).toNat (z).toNat)).2:Int))),(.ag (cD.cells ((Bs.jM (Bs.eI (Bs.doc (((bz.mk dz bO)).at_ - (d+1)).toNat) (((bz.mk dz bO)).b) k (q).toNat (z).toNat))))),(.ag (bz.cells ((bz.mk dz bO))))]
 | _ => .err
def bu.cn (n:Nat):eH:=fun l=>match l with
 | [.ag [.sl .bs dz,.i .i64 bO],.i .i64 k,.i .i64 q,.i .i64 z,.i .i64 d] => .ez ((decide (0≤q∧q≤z∧z≤((((bz.mk dz bO)).b).length:Int)∧(((bz.mk dz bO)).b).length≤1000000000∧0≤d∧d≤1000∧((bz.mk dz bO)).at_≤1000∧d<((bz.mk dz bO)).at_))&&decide ((3 * (((bz.mk dz bO)).at_ - d).toNat+1)<n)) [(.ag (Val.cells ((Bs.fR (Bs.cX 0,0) (Bs.eI (Bs.doc (((bz.mk dz bO)).at_ - (d+1)).toNat) (((bz.mk dz bO)).b) k (q).toNat (z).toNat)).1))),(.i .i64 (((Bs.fR (Bs.cX 0,0) (Bs.eI (Bs.doc (((bz.mk dz bO)).at_ - (d+1)).toNat) (((bz.mk dz bO)).b) k (q).toNat (z).toNat)).2:Int))),(.ag (cD.cells ((Bs.jM (Bs.eI (Bs.doc (((bz.mk dz bO)).at_ - (d+1)).toNat) (((bz.mk dz bO)).b) k (q).toNat (z).toNat))))),(.ag (bz.cells ((bz.mk dz bO))))]
 | _ => .err
def bx.sg:cr:={ md:=[.rf],bE:=3 }
def bx.c:eH:=fun l=>match l with
 | [.ag [.sl .bs dz,.i .i64 bO],.i .i64 p,.i .i64 z,.i .i64 d,.i .i64 fO] => .ez (decide (0≤p∧p≤z∧z≤((((bz.mk dz bO)).b).length:Int)∧(((bz.mk dz bO)).b).length≤1000000000∧0≤d∧d≤1000∧((bz.mk dz bO)).at_≤1000)) [(.sl .fl ((Bs.fR ([],0) (Bs.doc (((bz.mk dz bO)).at_ - d).toNat (((bz.mk dz bO)).b) (p).toNat (z).toNat fO)).1)),(.i .i64 (((Bs.fR ([],0) (Bs.doc (((bz.mk dz bO)).at_ - d).toNat (((bz.mk dz bO)).b) (p).toNat (z).toNat fO)).2:Int))),(.ag (cD.cells ((Bs.jM (Bs.doc (((bz.mk dz bO)).at_ - d).toNat (((bz.mk dz bO)).b) (p).toNat (z).toNat fO))))),(.ag (bz.cells ((bz.mk dz bO))))]
 | _ => .err
def bx.cn (n:Nat):eH:=fun l=>match l with
 | [.ag [.sl .bs dz,.i .i64 bO],.i .i64 p,.i .i64 z,.i .i64 d,.i .i64 fO] => .ez ((decide (0≤p∧p≤z∧z≤((((bz.mk dz bO)).b).length:Int)∧(((bz.mk dz bO)).b).length≤1000000000∧0≤d∧d≤1000∧((bz.mk dz bO)).at_≤1000))&&decide ((3 * (((bz.mk dz bO)).at_ - d).toNat+2)<n)) [(.sl .fl ((Bs.fR ([],0) (Bs.doc (((bz.mk dz bO)).at_ - d).toNat (((bz.mk dz bO)).b) (p).toNat (z).toNat fO)).1)),(.i .i64 (((Bs.fR ([],0) (Bs.doc (((bz.mk dz bO)).at_ - d).toNat (((bz.mk dz bO)).b) (p).toNat (z).toNat fO)).2:Int))),(.ag (cD.cells ((Bs.jM (Bs.doc (((bz.mk dz bO)).at_ - d).toNat (((bz.mk dz bO)).b) (p).toNat (z).toNat fO))))),(.ag (bz.cells ((bz.mk dz bO))))]
 | _ => .err
def df.sg:cr:={ bE:=2 }
def df.c:eH:=fun l=>match l with
 | [.sl .bs b,.ag [.i .i64 iX,.i .i64 kg,.i .i64 mX]] => .ez (decide ((b).length≤1000000000)) [(.ag (Val.cells ((Bs.jA (Bs.decode b (Lim.mk iX kg mX)))))),(.ag (cD.cells ((Bs.jM (Bs.decode b (Lim.mk iX kg mX))))))]
 | _ => .err
end
end Go.Eng
set_option maxRecDepth 100000
namespace Go.Eng
open Go.Proofs
noncomputable section
def ca.E:cI:=dO fI zs []
def ca.h:Hint := .o
def ca.F (s:bG) (c:UInt8):OT:=dK PG ca.E 177 ca.sg ca.h [(.s s),(.u8 c)]
theorem ca.eY (s:bG) (c:UInt8):ca.F s c=some [(.i .i64 (Lib.indexByte s c))]:=by kernel_rfl
def dD.E:cI:=dO fI zs [(177,(ca.c,ca.sg))]
def dD.h:Hint := .o
def dD.F (s:bG) (t:bG):OT:=dK PG dD.E 133 dD.sg dD.h [(.s s),(.s t)]
theorem dD.dq (s:bG) (t:bG) {ρ:OT} (K:∀(v1:Bool) (h1:v1=(cond (decide (((t).length:Int)=(0:Int))) true (decide (t=s)))) (v2:UInt8) (h2:v2=(List.getD t ((0:Int)).toNat (0:UInt8))),ck (!(!(decide (((t).length:Int)=(0:Int)))) || ((!(decide (((t).length:Int)=(0:Int))))&&(!(decide (((t).length:Int)=(0:Int)))))) (ck ((decide (((t).length:Int)=(0:Int))) || (!(decide (((t).length:Int)=(0:Int))))) (cond v1
  (some [(.i .i64 0)])
  (cond (decide (((t).length:Int)=(1:Int)))
  (ck (cU (0:Int) (t).length) (some [(.i .i64 (Lib.indexByte s v2))]))
  (cond (decide (((s).length:Int)≤((t).length:Int)))
  (some [(.i .i64 (-1))])
  (none)))))=ρ):dD.F s t=ρ:=Eq.trans (by kernel_rfl) (K _ rfl _ rfl)
def eM.E:cI:=dO fI zs []
def eM.h:Hint := .o
def eM.F (r:Int):OT:=dK PG eM.E 176 eM.sg eM.h [(.i .i64 r)]
theorem eM.dq (r:Int) {ρ:OT} (K:∀(v1:Bool) (h1:v1=(cond (decide ((0:Int)≤r)) (decide (r≤(1114111:Int))) false)) (v2:Bool) (h2:v2=(v1&&(!(decide (r<(55296:Int)))))) (v3:Bool) (h3:v3=(cond (decide (r<(55296:Int))) true (decide ((57343:Int)<r)))),ck (!(decide ((0:Int)≤r)) || (decide ((0:Int)≤r))) (ck (!(decide ((0:Int)≤r)) || (decide ((0:Int)≤r))) (ck (!v1 || v1) (ck (!v1 || v1) (ck (!v2 || v2) (ck (!v1 || (v1&&((decide (r<(55296:Int))) || v2))) (ck (!v1 || v1) (some [(.b (cond v1 v3 false))])))))))=ρ):eM.F r=ρ:=Eq.trans (by kernel_rfl) (K _ rfl _ rfl _ rfl)
def bA.E:cI:=dO fI zs [(176,(eM.c,eM.sg))]
def bA.h:Hint := .s .o (.sc [(0,(sc [])),(1,(sc [0,1,4,7,8,9]))] (.s .o (.s .o (.s .o (.j (sc [0,1,4,7,8]) .o .o)))))
def bA.F (b:List UInt8) (at_:Int):OT:=dK PG bA.E 132 bA.sg bA.h [(.sl .bs b),(.i .i64 at_)]
def bA.g1:OT:=ll PG bA.E 132 bA.sg bA.h 3 0 []
def bA.j2 (x0:List UInt8) (x1:Int) (x2:Int) (x3:Int) (x4:Int):OT:=fm PG bA.E 132 bA.sg bA.h 61 [(.sl .bs x0),(.i .i64 x1),(.i .i64 x2),(.i .i64 x3),(.i .i64 x4)]
def bA.g3 (x0:List UInt8) (x1:Int) (x2:Int) (x3:Int) (x4:Int) (x5:Int):OT:=ll PG bA.E 132 bA.sg bA.h 3 1 [(.sl .bs x0),(.i .i64 x1),(.i .i64 x2),(.i .i64 x3),(.i .i64 x4),(.i .i64 x5)]
theorem bA.oz:bA.g1=some [(.i .i64 (0:Int)),(.i .i64 (0:Int))]:=((jK _ _ _ _ _ _ _ _).trans (by kernel_rfl))
theorem bA.lM (x0:List UInt8) (x1:Int) (x2:Int) (x3:Int) (x4:Int) {ρ:OT} (K:∀(v1:Int) (h1:v1=(IntKind.i64.wrap (((x0).length:Int) - x1))) (v2:Int) (h2:v2=(IntKind.i64.wrap (v1 - (1:Int)))) (v3:Int) (h3:v3=(IntKind.i64.wrap (x1+(1:Int)))) (v4:UInt8) (h4:v4=(List.getD x0 (v3).toNat (0:UInt8))) (v5:Bool) (h5:v5=(!decide ((v4 &&& (192:UInt8))=(128:UInt8)))) (v6:Int) (h6:v6=(IntKind.i64.wrap (x2 * 2 ^ (min (((6:UInt64)).toNat) (IntKind.i64.bits))))) (v7:Int) (h7:v7=(IntKind.i64.wrap (((v4 &&& (63:UInt8))).toNat:Int))) (v8:Int) (h8:v8=(IntKind.i64.wrap ((1:Int)+(1:Int)))) (v9:Bool) (h9:v9=(cond (decide (x2<x4)) true (!(dt.iY x2)))) (v10:Int) (kL:v10=(IntKind.i64.wrap (x3+(1:Int)))),cond (decide (v2<x3))
  (bA.g1)
  (cond (decide ((1:Int)≤x3))
  (ck (cU v3 (x0).length) (cond v5
  (bA.g1)
  (ck (cU v3 (x0).length) (bA.g3 x0 x1 (cp .or .i64 v6 v7) x3 x4 v8))))
  (ck (!(!(decide (x2<x4))) || (!(decide (x2<x4)))) (ck (!(!(decide (x2<x4))) || (!(decide (x2<x4)))) (ck ((decide (x2<x4)) || (!(decide (x2<x4)))) (cond v9
  (bA.g1)
  (some [(.i .i64 x2),(.i .i64 v10)]))))))=ρ):bA.j2 x0 x1 x2 x3 x4=ρ:=((dE _ _ _ _ _ _ _).trans (by kernel_rfl)).trans (K _ rfl _ rfl _ rfl _ rfl _ rfl _ rfl _ rfl _ rfl _ rfl _ rfl)
theorem bA.wG (x0:List UInt8) (x1:Int) (x2:Int) (x3:Int) (x4:Int) (x5:Int) {ρ:OT} (K:∀(v1:UInt8) (h1:v1=(List.getD x0 ((IntKind.i64.wrap (x1+x5))).toNat (0:UInt8))) (v2:Bool) (h2:v2=(!decide ((v1 &&& (192:UInt8))=(128:UInt8)))) (v3:Int) (h3:v3=(IntKind.i64.wrap (x2 * 2 ^ (min (((6:UInt64)).toNat) (IntKind.i64.bits))))) (v4:Int) (h4:v4=(IntKind.i64.wrap (((v1 &&& (63:UInt8))).toNat:Int))) (v5:Int) (h5:v5=(IntKind.i64.wrap (x5+(1:Int)))) (v6:Bool) (h6:v6=(cond (decide (x2<x4)) true (!(dt.iY x2)))) (v7:Int) (h7:v7=(IntKind.i64.wrap (x3+(1:Int)))),cond (decide (x5≤x3))
  (ck (cU (IntKind.i64.wrap (x1+x5)) (x0).length) (cond v2
  (bA.g1)
  (ck (cU (IntKind.i64.wrap (x1+x5)) (x0).length) (bA.g3 x0 x1 (cp .or .i64 v3 v4) x3 x4 v5))))
  (ck (!(!(decide (x2<x4))) || (!(decide (x2<x4)))) (ck (!(!(decide (x2<x4))) || (!(decide (x2<x4)))) (ck ((decide (x2<x4)) || (!(decide (x2<x4)))) (cond v6
  (bA.g1)
  (some [(.i .i64 x2),(.i .i64 v7)])))))=ρ):bA.g3 x0 x1 x2 x3 x4 x5=ρ:=((jK _ _ _ _ _ _ _ _).trans (by kernel_rfl)).trans (K _ rfl _ rfl _ rfl _ rfl _ rfl _ rfl _ rfl)
theorem bA.dq (b:List UInt8) (at_:Int) {ρ:OT} (K:∀(v1:Bool) (h1:v1=(cond (decide (at_<(0:Int))) true (decide (((b).length:Int)≤at_)))) (v2:UInt8) (h2:v2=(List.getD b (at_).toNat (0:UInt8))) (v3:Int) (h3:v3=(IntKind.i64.wrap ((v2).toNat:Int))) (v4:Bool) (h4:v4=(cond (decide ((192:Int)≤v3)) (decide (v3<(224:Int))) false)) (v5:Int) (h5:v5=(cp .and .i64 v3 (31:Int))) (v6:Bool) (h6:v6=(cond (decide ((224:Int)≤v3)) (decide (v3<(240:Int))) false)) (v7:Int) (h7:v7=(cp .and .i64 v3 (15:Int))) (v8:Bool) (h8:v8=(cond (decide ((240:Int)≤v3)) (decide (v3<(248:Int))) false)) (v9:Int) (h9:v9=(cp .and .i64 v3 (7:Int))),ck (!(!(decide (at_<(0:Int)))) || (!(decide (at_<(0:Int))))) (ck (!(!(decide (at_<(0:Int)))) || ((!(decide (at_<(0:Int))))&&(!(decide (at_<(0:Int)))))) (ck ((decide (at_<(0:Int))) || (!(decide (at_<(0:Int))))) (cond v1
  (bA.g1)
  (ck (cU at_ (b).length) (cond (decide (v3<(128:Int)))
  (some [(.i .i64 v3),(.i .i64 1)])
  (ck (!(decide ((192:Int)≤v3)) || (decide ((192:Int)≤v3))) (ck (!(decide ((192:Int)≤v3)) || (decide ((192:Int)≤v3))) (cond v4
  (bA.j2 b at_ v5 (1:Int) (128:Int))
  (ck (!(decide ((224:Int)≤v3)) || (decide ((224:Int)≤v3))) (ck (!(decide ((224:Int)≤v3)) || (decide ((224:Int)≤v3))) (cond v6
  (bA.j2 b at_ v7 (2:Int) (2048:Int))
  (ck (!(decide ((240:Int)≤v3)) || (decide ((240:Int)≤v3))) (ck (!(decide ((240:Int)≤v3)) || (decide ((240:Int)≤v3))) (cond v8
  (bA.j2 b at_ v9 (3:Int) (65536:Int))
  (bA.g1)))))))))))))))=ρ):bA.F b at_=ρ:=Eq.trans (by kernel_rfl) (K _ rfl _ rfl _ rfl _ rfl _ rfl _ rfl _ rfl _ rfl _ rfl)
def bM.E:cI:=dO fI zs [(132,(bA.c,bA.sg))]
def bM.h:Hint := .s .o (.j (sc [2,3]) (.b (.l (sc [0,2,3]) .o)) .o)
def bM.F (b:List UInt8):OT:=dK PG bM.E 100 bM.sg bM.h [(.sl .bs b)]
def bM.l1 (x0:List UInt8) (x1:Int) (x2:Int):OT:=iI PG bM.E 100 bM.sg bM.h 9 [(.sl .bs x0),(.i .i64 x1),(.i .i64 x2)]
def bM.j2 (x0:Int) (x1:Int):OT:=fm PG bM.E 100 bM.sg bM.h 3 [(.i .i64 x0),(.i .i64 x1)]
theorem bM.et (x0:List UInt8) (x1:Int) (x2:Int) {ρ:OT} (K:∀(v1:Int) (h1:v1=(IntKind.i64.wrap (x1+((dt.iP x0 x1).2)))) (v2:Int) (h2:v2=(IntKind.i64.wrap (x2+(1:Int)))),cond (decide (x1<((x0).length:Int)))
  (ck (decide (x0.length≤1099511627776)) (cond (decide (((dt.iP x0 x1).2)=(0:Int)))
  (bM.j2 x1 x2)
  (bM.l1 x0 v1 v2)))
  (bM.j2 x1 x2)=ρ):bM.l1 x0 x1 x2=ρ:=((fk _ _ _ _ _ _ _).trans (by kernel_rfl)).trans (K _ rfl _ rfl)
theorem bM.kG (x0:Int) (x1:Int):bM.j2 x0 x1=some [(.i .i64 x0),(.i .i64 x1)]:=((dE _ _ _ _ _ _ _).trans (by kernel_rfl))
theorem bM.eY (b:List UInt8):bM.F b=bM.l1 b (0:Int) (0:Int):=by kernel_rfl
def cC.E:cI:=dO fI zs [(100,(bM.c,bM.sg))]
def cC.h:Hint := .o
def cC.F (b:List UInt8):OT:=dK PG cC.E 69 cC.sg cC.h [(.sl .bs b)]
theorem cC.eY (b:List UInt8):cC.F b=ck (decide (b.length≤1099511627776)) (some [(.i .i64 (((dt.look b).1:Int))),(.b (decide ((((dt.look b).1:Int))=((b).length:Int))))]):=by kernel_rfl
def cM.E:cI:=dO fI zs []
def cM.h:Hint := .o
def cM.F (k:Int):OT:=dK PG cM.E 46 cM.sg cM.h [(.i .i64 k)]
theorem cM.dq (k:Int) {ρ:OT} (K:∀(v1:Bool) (h1:v1=(cond (decide (k<(0:Int))) true (decide ((20:Int)≤k)))) (v2:bG) (h2:v2=(List.getD [([]:bG),([100,111,117,98,108,101]:bG),([115,116,114,105,110,103]:bG),([100,111,99,117,109,101,110,116]:bG),([97,114,114,97,121]:bG),([98,105,110,97,114,121]:bG),([117,110,100,101,102,105,110,101,100]:bG),([111,98,106,101,99,116,105,100]:bG),([98,111,111,108]:bG),([100,97,116,101]:bG),([110,117,108,108]:bG),([114,101,103,101,120]:bG),([112,111,105,110,116,101,114]:bG),([99,111,100,101]:bG),([115,121,109,98,111,108]:bG),([115,99,111,112,101,100]:bG),([105,110,116,51,50]:bG),([116,105,109,101,115,116,97,109,112]:bG),([105,110,116,54,52]:bG),([100,101,99,105,109,97,108]:bG)] ((k).toNat) ([]:bG))),cond (decide (k=(127:Int)))
  (some [(.s ([109,97,120,107,101,121]:bG))])
  (cond (decide (k=(255:Int)))
  (some [(.s ([109,105,110,107,101,121]:bG))])
  (ck (!(!(decide (k<(0:Int)))) || (!(decide (k<(0:Int))))) (ck ((decide (k<(0:Int))) || (!(decide (k<(0:Int))))) (cond v1
  (some [(.s [])])
  (ck (cU k 20) (ck (decide ((k).toNat<20)) (some [(.s v2)])))))))=ρ):cM.F k=ρ:=Eq.trans (by kernel_rfl) (K _ rfl _ rfl)
def br.E:cI:=dO fI zs []
def br.h:Hint := .s .o (.s .o (.j [(1,.ptr 116 0),(3,.no),(116,.cl [])] (.s .o (.b (.j [(1,.ptr 116 0),(3,.no),(5,.no),(6,.no),(116,.cl [])] .o (.s .o (.s .o (.s .o (.s .o (.s .o (.s .o (.s .o (.j [(1,.ptr 116 0),(3,.no),(5,.no),(28,.no),(116,.cl [])] .o (.s .o (.s .o (.s .o (.s .o (.s .o (.s .o (.s .o (.s .o (.s .o (.j [(1,.ptr 116 0),(3,.no),(5,.no),(64,.no),(116,.cl [])] .o .o))))))))))))))))))))) .o))
def br.F (v:Val):OT:=dK PG br.E 57 br.sg br.h [(.ag (Val.cells v))]
def br.j1 (x0:Bool) (x1:Int) (x2:Bool) (x3:Val):OT:=fm PG br.E 57 br.sg br.h 43 [.pt,(.b x0),(.i .i64 x1),(.b x2),(.ag (Val.cells x3))]
def br.j2 (x0:Bool) (x1:Val):OT:=fm PG br.E 57 br.sg br.h 7 [.pt,(.b x0),(.ag (Val.cells x1))]
def br.j3 (x0:Bool) (x1:Int) (x2:Bool) (x3:Val):OT:=fm PG br.E 57 br.sg br.h 16363 [.pt,(.b x0),(.i .i64 x1),(.b x2),(.ag (Val.cells x3))]
def br.j4 (x0:Bool) (x1:Int) (x2:Bool) (x3:Val):OT:=fm PG br.E 57 br.sg br.h 16777195 [.pt,(.b x0),(.i .i64 x1),(.b x2),(.ag (Val.cells x3))]
theorem br.qD (x0:Bool) (x1:Int) (x2:Bool) (x3:Val):br.j1 x0 x1 x2 x3=cond x2
  (br.j2 x0 (Val.mk (Val.kind x3) 0 (Val.high x3) (Val.low x3) (Val.text x3) (Val.more x3) (Val.sub x3) (Val.bytes x3) (Val.kids x3)))
  (cond (decide (x1=(16:Int)))
  (br.j2 (decide ((Val.bits x3)<(4294967296:UInt64))) (Val.mk (Val.kind x3) 0 (Val.high x3) (Val.low x3) (Val.text x3) (Val.more x3) (Val.sub x3) (Val.bytes x3) (Val.kids x3)))
  (cond (decide (x1=(8:Int)))
  (br.j2 (decide ((Val.bits x3)<(2:UInt64))) (Val.mk (Val.kind x3) 0 (Val.high x3) (Val.low x3) (Val.text x3) (Val.more x3) (Val.sub x3) (Val.bytes x3) (Val.kids x3)))
  (cond (decide (x1=(19:Int)))
  (br.j2 x0 (Val.mk (Val.kind x3) (Val.bits x3) 0 0 (Val.text x3) (Val.more x3) (Val.sub x3) (Val.bytes x3) (Val.kids x3)))
  (cond (decide (x1=(2:Int)))
  (br.j3 x0 x1 (decide (x1=(2:Int))) x3)
  (cond (decide (x1=(13:Int)))
  (br.j3 x0 x1 (decide (x1=(13:Int))) x3)
  (br.j3 x0 x1 (decide (x1=(14:Int))) x3)))))):=((dE _ _ _ _ _ _ _).trans (by kernel_rfl))
theorem br.lM (x0:Bool) (x1:Val) {ρ:OT} (K:∀(v1:Bool) (h1:v1=(cond x0 (decide ((Val.bits x1)=(0:UInt64))) false)) (v2:Bool) (h2:v2=(cond v1 (decide ((Val.high x1)=(0:UInt64))) false)) (v3:Bool) (h3:v3=(cond v2 (decide ((Val.low x1)=(0:UInt64))) false)) (v4:Bool) (h4:v4=(cond v3 (decide ((Val.text x1)=([]:bG))) false)) (v5:Bool) (h5:v5=(cond v4 (decide ((Val.more x1)=([]:bG))) false)) (v6:Bool) (h6:v6=(cond v5 (decide ((Val.sub x1)=(0:Int))) false)) (v7:Int) (h7:v7=(((Val.bytes x1)).length:Int)) (v8:Bool) (h8:v8=(cond v6 (decide (v7=(0:Int))) false)) (v9:Int) (h9:v9=(((Val.kids x1)).length:Int)) (v10:Bool) (kL:v10=(cond v8 (decide (v9=(0:Int))) false)),ck (!x0 || x0) (ck (!x0 || x0) (ck (!x0 || x0) (ck (!v1 || v1) (ck (!v1 || v1) (ck (!v1 || v1) (ck (!v2 || v2) (ck (!v2 || v2) (ck (!v2 || v2) (ck (!v3 || v3) (ck (!v3 || v3) (ck (!v3 || v3) (ck (!v4 || v4) (ck (!v4 || v4) (ck (!v4 || v4) (ck (!v5 || v5) (ck (!v5 || v5) (ck (!v5 || v5) (ck (!v6 || v6) (ck (!v6 || v6) (ck (!v6 || v6) (ck (!v6 || v6) (ck (!v8 || v8) (ck (!v8 || v8) (ck (!v8 || v8) (ck (!v8 || v8) (some [(.b v10)]))))))))))))))))))))))))))=ρ):br.j2 x0 x1=ρ:=((dE _ _ _ _ _ _ _).trans (by kernel_rfl)).trans (K _ rfl _ rfl _ rfl _ rfl _ rfl _ rfl _ rfl _ rfl _ rfl _ rfl)
theorem br.qB (x0:Bool) (x1:Int) (x2:Bool) (x3:Val) {ρ:OT} (K:∀(v1:Bool) (h1:v1=(cond (decide ((0:Int)≤(Val.sub x3))) (decide ((Val.sub x3)≤(255:Int))) false)) (v2:Int) (h2:v2=(((Val.bytes x3)).length:Int)),cond x2
  (br.j2 x0 (Val.mk (Val.kind x3) (Val.bits x3) (Val.high x3) (Val.low x3) [] (Val.more x3) (Val.sub x3) (Val.bytes x3) (Val.kids x3)))
  (cond (decide (x1=(11:Int)))
  (br.j2 x0 (Val.mk (Val.kind x3) (Val.bits x3) (Val.high x3) (Val.low x3) [] [] (Val.sub x3) (Val.bytes x3) (Val.kids x3)))
  (cond (decide (x1=(5:Int)))
  (ck (!(decide ((0:Int)≤(Val.sub x3))) || (decide ((0:Int)≤(Val.sub x3)))) (ck (!(decide ((0:Int)≤(Val.sub x3))) || (decide ((0:Int)≤(Val.sub x3)))) (ck (!(decide ((0:Int)≤(Val.sub x3))) || (decide ((0:Int)≤(Val.sub x3)))) (br.j2 v1 (Val.mk (Val.kind x3) (Val.bits x3) (Val.high x3) (Val.low x3) (Val.text x3) (Val.more x3) 0 [] (Val.kids x3))))))
  (cond (decide (x1=(7:Int)))
  (br.j2 (decide (v2=(12:Int))) (Val.mk (Val.kind x3) (Val.bits x3) (Val.high x3) (Val.low x3) (Val.text x3) (Val.more x3) (Val.sub x3) [] (Val.kids x3)))
  (cond (decide (x1=(12:Int)))
  (br.j2 (decide (v2=(12:Int))) (Val.mk (Val.kind x3) (Val.bits x3) (Val.high x3) (Val.low x3) [] (Val.more x3) (Val.sub x3) [] (Val.kids x3)))
  (cond (decide (x1=(3:Int)))
  (br.j4 x0 x1 (decide (x1=(3:Int))) x3)
  (br.j4 x0 x1 (decide (x1=(4:Int))) x3))))))=ρ):br.j3 x0 x1 x2 x3=ρ:=((dE _ _ _ _ _ _ _).trans (by kernel_rfl)).trans (K _ rfl _ rfl)
theorem br.CO (x0:Bool) (x1:Int) (x2:Bool) (x3:Val):br.j4 x0 x1 x2 x3=cond x2
  (br.j2 x0 (Val.mk (Val.kind x3) (Val.bits x3) (Val.high x3) (Val.low x3) (Val.text x3) (Val.more x3) (Val.sub x3) (Val.bytes x3) []))
  (cond (decide (x1=(15:Int)))
  (br.j2 x0 (Val.mk (Val.kind x3) (Val.bits x3) (Val.high x3) (Val.low x3) [] (Val.more x3) (Val.sub x3) (Val.bytes x3) []))
  (br.j2 x0 x3)):=((dE _ _ _ _ _ _ _).trans (by kernel_rfl))
theorem br.eY (v:Val):br.F v=cond (decide ((Val.kind v)=(1:Int)))
  (br.j1 true (Val.kind v) (decide ((Val.kind v)=(1:Int))) v)
  (cond (decide ((Val.kind v)=(9:Int)))
  (br.j1 true (Val.kind v) (decide ((Val.kind v)=(9:Int))) v)
  (cond (decide ((Val.kind v)=(17:Int)))
  (br.j1 true (Val.kind v) (decide ((Val.kind v)=(17:Int))) v)
  (br.j1 true (Val.kind v) (decide ((Val.kind v)=(18:Int))) v))):=by kernel_rfl
def dC.E:cI:=dO fI zs [(133,(dD.c,dD.sg))]
def dC.h:Hint := .o
def dC.F (s:bG) (t:bG):OT:=dK PG dC.E 102 dC.sg dC.h [(.s s),(.s t)]
theorem dC.dq (s:bG) (t:bG) {ρ:OT} (K:∀(v1:Int) (h1:v1=(Lib.indexByte s (t.getD 0 0))),ck (decide (t.length=1)) (some [(.i .i64 v1)])=ρ):dC.F s t=ρ:=Eq.trans (by kernel_rfl) (K _ rfl)
def cB.E:cI:=dO fI zs [(102,(dC.c,dC.sg))]
def cB.h:Hint := .o
def cB.F (s:bG) (t:bG):OT:=dK PG cB.E 79 cB.sg cB.h [(.s s),(.s t)]
theorem cB.dq (s:bG) (t:bG) {ρ:OT} (K:∀(v1:Int) (h1:v1=(Lib.indexByte s (t.getD 0 0))),ck (decide (t.length=1)) (some [(.b (decide ((0:Int)≤v1)))])=ρ):cB.F s t=ρ:=Eq.trans (by kernel_rfl) (K _ rfl)
def di.E:cI:=dO fI zs []
def di.h:Hint := .o
def di.F (l:List Int):OT:=dK PG di.E 56 di.sg di.h [(.sl .is l)]
theorem di.eY (l:List Int):di.F l=cond (List.isEmpty l)
  (both (some [(.sl .is ([]:List Int)),(.sl .is l)]) (ck (fg ((([]:List Int)).length+(l).length) 8) (some [(.sl .is (([]:List Int)++l)),(.sl .is l)])))
  (ck (fg ((([]:List Int)).length+(l).length) 8) (some [(.sl .is (([]:List Int)++l)),(.sl .is l)])):=by kernel_rfl
def cJ.E:cI:=dO fI zs [(69,(cC.c,cC.sg)),(79,(cB.c,cB.sg))]
def cJ.h:Hint := .o
def cJ.F (s:bG) (plain:Bool):OT:=dK PG cJ.E 58 cJ.sg cJ.h [(.s s),(.b plain)]
theorem cJ.dq (s:bG) (plain:Bool) {ρ:OT} (K:∀(v1:Bool) (h1:v1=(cond plain (decide (0≤Lib.indexByte s ((([0]:bG)).getD 0 0))) false)) (v2:Bool) (h2:v2=(cond (dt.whole s) (!v1) false)),ck (lK (s).length) (ck (decide (s.length≤1099511627776)) (ck (!(dt.whole s) || (dt.whole s)) (ck (!((dt.whole s)&&plain) || (((dt.whole s)&&plain)&&(decide ((([0]:bG)).length=1)))) (ck (!(dt.whole s) || ((dt.whole s)&&(!plain || ((dt.whole s)&&plain)))) (ck (!(dt.whole s) || (dt.whole s)) (ck (!(dt.whole s) || (dt.whole s)) (some [(.b v2)])))))))=ρ):cJ.F s plain=ρ:=Eq.trans (by kernel_rfl) (K _ rfl _ rfl)
def bH.E (n:Nat):cI:=dO fI zs [(32,(bH.cn n,bH.sg)),(46,(cM.c,cM.sg)),(56,(di.c,di.sg)),(57,(br.c,br.sg)),(58,(cJ.c,cJ.sg))] [139]
def bH.h:Hint := .s .o (.s .o (.s .o (.s (.s .o (.b (.l [(2,.cT 1000002),(50,.no),(51,.no),(52,.no),(1000002,.pv)] .o))) .o)))
def bH.F (n:Nat) (v:Val) (name:bG) (path:List Int):OT:=dK PG (bH.E n) 32 bH.sg bH.h [(.ag (Val.cells v)),(.s name),(.sl .is path)]
def bH.l1 (n:Nat) (x0:List bq) (x1:Int) (x2:Int) (x3:List Int):OT:=iI PG (bH.E n) 32 bH.sg bH.h 87 [.pt,(.sl .fl x0),(.i .i64 x1),(.i .i64 x2),(.sl .is x3)]
theorem bH.et (n:Nat) (x0:List bq) (x1:Int) (x2:Int) (x3:List Int) {ρ:OT} (K:∀(v1:bq) (h1:v1=(List.getD x0 (x2).toNat (dS.fi .fl))) (v2:List Int) (h2:v2=((Tree.fC (bq.of ((bq.name v1)) (bq.val v1)) ((x3++([x2]:List Int)))).1)) (v3:Int) (h3:v3=((Tree.fC (bq.of ((bq.name v1)) (bq.val v1)) ((x3++([x2]:List Int)))).2)) (v4:Int) (h4:v4=(IntKind.i64.wrap (x2+(1:Int)))),cond (decide (x2<x1))
  (ck (cU x2 (x0).length) (ck (fg ((x3).length+(([x2]:List Int)).length) 8) (ck ((decide (bq.bS (bq.of ((bq.name v1)) (bq.val v1))+((x3++([x2]:List Int))).length≤1099511627776))&&decide ((bq.bS (bq.of ((bq.name v1)) (bq.val v1)))<n)) (cond (!decide (v3=(0:Int)))
  (some [(.sl .is v2),(.i .i64 v3),(.sl .is x3)])
  (bH.l1 n x0 x1 v4 x3)))))
  (some [(.sl .is ([]:List Int)),(.i .i64 0),(.sl .is x3)])=ρ):bH.l1 n x0 x1 x2 x3=ρ:=((fk _ _ _ _ _ _ _).trans (by kernel_rfl)).trans (K _ rfl _ rfl _ rfl _ rfl)
theorem bH.dq (n:Nat) (v:Val) (name:bG) (path:List Int) {ρ:OT} (K:∀(v1:Bool) (h1:v1=(Tree.dw ((Val.text v)) ((decide ((Val.kind v)=(11:Int)))))) (v2:Bool) (h2:v2=(Tree.dw ((Val.more v)) ((decide ((Val.kind v)=(11:Int)))))) (v3:Bool) (h3:v3=(cond (cond (!v1) true (!v2)) true (!(Tree.dw name true)))) (v4:Int) (h4:v4=(((Val.kids v)).length:Int)),cond (decide ((Tree.name ((Val.kind v)))=([]:bG)))
  (ck (fg (path).length 8) (some [(.sl .is (path)),(.i .i64 5),(.sl .is path)]))
  (cond (!(Tree.cw v))
  (ck (fg (path).length 8) (some [(.sl .is (path)),(.i .i64 1),(.sl .is path)]))
  (ck (decide (((Val.text v)).length≤1099511627776)) (ck (!(!(!v1)) || (!(!v1))) (ck (!(!(!v1)) || (((!(!v1))&&(!(!v1)))&&(decide (((Val.more v)).length≤1099511627776)))) (ck (!(!(!v1)) || (!(!v1))) (ck ((!v1) || (!(!v1))) (ck (!(!(cond (!v1) true (!v2))) || ((!(cond (!v1) true (!v2)))&&(decide (name.length≤1099511627776)))) (ck (!(!(cond (!v1) true (!v2))) || (!(cond (!v1) true (!v2)))) (ck ((cond (!v1) true (!v2)) || (!(cond (!v1) true (!v2)))) (cond v3
  (ck (fg (path).length 8) (some [(.sl .is (path)),(.i .i64 4),(.sl .is path)]))
  (bH.l1 n (Val.kids v) v4 (0:Int) path)))))))))))=ρ):bH.F n v name path=ρ:=Eq.trans (by kernel_rfl) (K _ rfl _ rfl _ rfl _ rfl)
def cA.E:cI:=dO fI zs [(32,(bH.c,bH.sg))]
def cA.h:Hint := .o
def cA.F (v:Val):OT:=dK PG cA.E 12 cA.sg cA.h [(.ag (Val.cells v))]
theorem cA.dq (v:Val) {ρ:OT} (K:∀(v1:List Int) (h1:v1=((Tree.fC (bq.of (([]:bG)) v) (([]:List Int))).1)) (v2:Int) (h2:v2=((Tree.fC (bq.of (([]:bG)) v) (([]:List Int))).2)),ck (decide (bq.bS (bq.of (([]:bG)) v)+(([]:List Int)).length≤1099511627776)) (some [(.sl .is v1),(.i .i64 v2)])=ρ):cA.F v=ρ:=Eq.trans (by kernel_rfl) (K _ rfl _ rfl)
def bK.E (n:Nat):cI:=dO fI zs [(11,(bK.cn n,bK.sg)),(31,(dG.c,dG.sg))]
def bK.h:Hint := .s .o (.s .o (.s (.s .o (.b (.l [(3,.ptr 104 0),(72,.no),(73,.no),(74,.no),(104,.cl [])] .o))) .o))
def bK.F (n:Nat) (a:Val) (b:Val):OT:=dK PG (bK.E n) 11 bK.sg bK.h [(.ag (Val.cells a)),(.ag (Val.cells b))]
def bK.l1 (n:Nat) (x0:List bq) (x1:Int) (x2:Int) (x3:Val):OT:=iI PG (bK.E n) 11 bK.sg bK.h 43 [.pt,(.sl .fl x0),(.i .i64 x1),(.i .i64 x2),(.ag (Val.cells x3))]
theorem bK.et (n:Nat) (x0:List bq) (x1:Int) (x2:Int) (x3:Val) {ρ:OT} (K:∀(v1:bq) (h1:v1=(List.getD x0 (x2).toNat (dS.fi .fl))) (v2:bq) (h2:v2=(List.getD (Val.kids x3) (x2).toNat (dS.fi .fl))) (v3:Bool) (h3:v3=(!(!decide ((bq.name v1)=(bq.name v2))))) (v4:Bool) (h4:v4=(Tree.same (bq.val v1) (bq.val v2))) (v5:Bool) (h5:v5=(cond (!decide ((bq.name v1)=(bq.name v2))) true (!v4))) (v6:Int) (h6:v6=(IntKind.i64.wrap (x2+(1:Int)))),cond (decide (x2<x1))
  (ck (cU x2 (x0).length) (ck (cU x2 ((Val.kids x3)).length) (ck (!v3 || v3) (ck (!v3 || v3) (ck (!v3 || ((v3&&v3)&&(cU x2 ((Val.kids x3)).length))) (ck (!v3 || v3) (ck (!v3 || v3) (ck (!v3 || ((v3&&v3)&&((decide (bq.bS (bq.of [] (bq.val v1))≤1099511627776))&&decide ((bq.bS (bq.of [] (bq.val v1)))<n)))) (ck (!v3 || v3) (ck ((!decide ((bq.name v1)=(bq.name v2))) || v3) (cond v5
  (some [(.b false)])
  (bK.l1 n x0 x1 v6 x3))))))))))))
  (some [(.b true)])=ρ):bK.l1 n x0 x1 x2 x3=ρ:=((fk _ _ _ _ _ _ _).trans (by kernel_rfl)).trans (K _ rfl _ rfl _ rfl _ rfl _ rfl _ rfl)
theorem bK.dq (n:Nat) (a:Val) (b:Val) {ρ:OT} (K:∀(v1:Bool) (h1:v1=(!(!decide ((Val.kind a)=(Val.kind b))))) (v2:Bool) (h2:v2=(cond (!decide ((Val.kind a)=(Val.kind b))) true (!decide ((Val.bits a)=(Val.bits b))))) (v3:Bool) (h3:v3=(cond v2 true (!decide ((Val.high a)=(Val.high b))))) (v4:Bool) (h4:v4=(cond v3 true (!decide ((Val.low a)=(Val.low b))))) (v5:Bool) (h5:v5=(cond v4 true (!decide ((Val.text a)=(Val.text b))))) (v6:Bool) (h6:v6=(cond v5 true (!decide ((Val.more a)=(Val.more b))))) (v7:Bool) (h7:v7=(cond v6 true (!decide ((Val.sub a)=(Val.sub b))))) (v8:Bool) (h8:v8=(cond v7 true (!(decide (((Val.bytes a))=((Val.bytes b))))))) (v9:Int) (h9:v9=(((Val.kids a)).length:Int)) (v10:Int) (kL:v10=(((Val.kids b)).length:Int)) (v11:Bool) (uK:v11=(cond v8 true (!decide (v9=v10)))),ck (!v1 || v1) (ck (!v1 || v1) (ck (!v1 || (v1&&v1)) (ck ((!decide ((Val.kind a)=(Val.kind b))) || v1) (ck (!(!v2) || (!v2)) (ck (!(!v2) || (!v2)) (ck (!(!v2) || ((!v2)&&(!v2))) (ck (v2 || (!v2)) (ck (!(!v3) || (!v3)) (ck (!(!v3) || (!v3)) (ck (!(!v3) || ((!v3)&&(!v3))) (ck (v3 || (!v3)) (ck (!(!v4) || (!v4)) (ck (!(!v4) || (!v4)) (ck (!(!v4) || ((!v4)&&(!v4))) (ck (v4 || (!v4)) (ck (!(!v5) || (!v5)) (ck (!(!v5) || (!v5)) (ck (!(!v5) || ((!v5)&&(!v5))) (ck (v5 || (!v5)) (ck (!(!v6) || (!v6)) (ck (!(!v6) || (!v6)) (ck (!(!v6) || ((!v6)&&(!v6))) (ck (v6 || (!v6)) (ck (!(!v7) || (!v7)) (ck (!(!v7) || (!v7)) (ck (!(!v7) || ((!v7)&&(!v7))) (ck (!(!v7) || (!v7)) (ck (v7 || (!v7)) (ck (!(!v8) || (!v8)) (ck (!(!v8) || (!v8)) (ck (!(!v8) || (!v8)) (ck (!(!v8) || (!v8)) (ck (!(!v8) || ((!v8)&&(!v8))) (ck (v8 || (!v8)) (cond v11
  (some [(.b false)])
  (bK.l1 n (Val.kids a) v9 (0:Int) b))))))))))))))))))))))))))))))))))))=ρ):bK.F n a b=ρ:=Eq.trans (by kernel_rfl) (K _ rfl _ rfl _ rfl _ rfl _ rfl _ rfl _ rfl _ rfl _ rfl _ rfl _ rfl)
def bI.E (n:Nat):cI:=dO fI zs [(30,(bI.cn n,bI.sg))]
def bI.h:Hint := .s .o (.s .o (.s .o (.s (.s .o (.b (.l (sc [3,20,21,22]) .o))) .o)))
def bI.F (n:Nat) (v:Val):OT:=dK PG (bI.E n) 30 bI.sg bI.h [(.ag (Val.cells v))]
def bI.l1 (n:Nat) (x0:Int) (x1:List bq) (x2:Int) (x3:Int):OT:=iI PG (bI.E n) 30 bI.sg bI.h 87 [(.i .i64 x0),(.sl .fl x1),(.i .i64 x2),(.i .i64 x3)]
theorem bI.et (n:Nat) (x0:Int) (x1:List bq) (x2:Int) (x3:Int) {ρ:OT} (K:∀(v1:bq) (h1:v1=(List.getD x1 (x3).toNat (dS.fi .fl))) (v2:Int) (h2:v2=((Tree.depth (bq.of [] (bq.val v1)):Int))) (v3:Int) (h3:v3=(IntKind.i64.wrap (x3+(1:Int)))) (v4:Int) (h4:v4=(IntKind.i64.wrap (x0+(1:Int)))),cond (decide (x3<x2))
  (ck (cU x3 (x1).length) (ck ((decide (bq.bS (bq.of [] (bq.val v1))≤1099511627776))&&decide ((bq.bS (bq.of [] (bq.val v1)))<n)) (bI.l1 n (r7 x0 v2) x1 x2 v3)))
  (some [(.i .i64 v4)])=ρ):bI.l1 n x0 x1 x2 x3=ρ:=((fk _ _ _ _ _ _ _).trans (by kernel_rfl)).trans (K _ rfl _ rfl _ rfl _ rfl)
theorem bI.dq (n:Nat) (v:Val) {ρ:OT} (K:∀(v1:Bool) (h1:v1=(cond (!decide ((Val.kind v)=(3:Int))) (!decide ((Val.kind v)=(4:Int))) false)) (v2:Bool) (h2:v2=(cond v1 (!decide ((Val.kind v)=(15:Int))) false)) (v3:Int) (h3:v3=(((Val.kids v)).length:Int)),ck (!(!decide ((Val.kind v)=(3:Int))) || (!decide ((Val.kind v)=(3:Int)))) (ck (!(!decide ((Val.kind v)=(3:Int))) || (!decide ((Val.kind v)=(3:Int)))) (ck (!(!decide ((Val.kind v)=(3:Int))) || (!decide ((Val.kind v)=(3:Int)))) (ck (!v1 || v1) (ck (!v1 || v1) (ck (!v1 || v1) (cond v2
  (some [(.i .i64 0)])
  (bI.l1 n (0:Int) (Val.kids v) v3 (0:Int))))))))=ρ):bI.F n v=ρ:=Eq.trans (by kernel_rfl) (K _ rfl _ rfl _ rfl)
def dG.E:cI:=dO fI zs []
def dG.h:Hint := .o
def dG.F (a:List UInt8) (b:List UInt8):OT:=dK PG dG.E 31 dG.sg dG.h [(.sl .bs a),(.sl .bs b)]
theorem dG.eY (a:List UInt8) (b:List UInt8):dG.F a b=some [(.b (decide (a=b)))]:=by kernel_rfl
def bR.E:cI:=dO fI zs []
def bR.h:Hint := .s .o (.s (.s .o (.b (.l (sc [0,1,5]) .o))) .o)
def bR.F (left:Int) (bY:List Int):OT:=dK PG bR.E 43 bR.sg bR.h [(.i .i64 left),(.sl .is bY)]
def bR.l1 (x0:Int) (x1:List Int) (x2:Int):OT:=iI PG bR.E 43 bR.sg bR.h 21 [(.i .i64 x0),(.sl .is x1),(.i .i64 x2)]
theorem bR.et (x0:Int) (x1:List Int) (x2:Int) {ρ:OT} (K:∀(v1:Int) (h1:v1=(List.getD x1 (x2).toNat (0:Int))) (v2:Bool) (h2:v2=(cond (decide (x0<(0:Int))) true (decide (x0<v1)))) (v3:Int) (h3:v3=(IntKind.i64.wrap (x2+(1:Int)))),cond (decide (x2<((x1).length:Int)))
  (ck (!(!(decide (x0<(0:Int)))) || (((!(decide (x0<(0:Int))))&&(!(decide (x0<(0:Int)))))&&(cU x2 (x1).length))) (ck (!(!(decide (x0<(0:Int)))) || (!(decide (x0<(0:Int))))) (ck (!(!(decide (x0<(0:Int)))) || ((!(decide (x0<(0:Int))))&&(!(decide (x0<(0:Int)))))) (ck ((decide (x0<(0:Int))) || (!(decide (x0<(0:Int))))) (cond v2
  (some [(.i .i64 (-1))])
  (ck (cU x2 (x1).length) (bR.l1 (IntKind.i64.wrap (x0 - v1)) x1 v3)))))))
  (some [(.i .i64 x0)])=ρ):bR.l1 x0 x1 x2=ρ:=((fk _ _ _ _ _ _ _).trans (by kernel_rfl)).trans (K _ rfl _ rfl _ rfl)
theorem bR.eY (left:Int) (bY:List Int):bR.F left bY=bR.l1 left bY (0:Int):=by kernel_rfl
def bJ.E (n:Nat):cI:=dO fI zs [(23,(bJ.cn n,bJ.sg)),(43,(bR.c,bR.sg))]
def bJ.h:Hint := .s .o (.s .o (.s (.s .o (.b (.l [(0,.no),(3,.ptr 50 0),(5,.no),(50,.cl [])] .o))) .o))
def bJ.F (n:Nat) (left:Int) (v:Val):OT:=dK PG (bJ.E n) 23 bJ.sg bJ.h [(.i .i64 left),(.ag (Val.cells v))]
def bJ.l1 (n:Nat) (x0:Int) (x1:Int) (x2:Val):OT:=iI PG (bJ.E n) 23 bJ.sg bJ.h 43 [(.i .i64 x0),.pt,(.i .i64 x1),(.ag (Val.cells x2))]
theorem bJ.et (n:Nat) (x0:Int) (x1:Int) (x2:Val) {ρ:OT} (K:∀(v1:Int) (h1:v1=(((Val.kids x2)).length:Int)) (v2:Bool) (h2:v2=(cond (decide (x1<v1)) (decide ((0:Int)≤x0)) false)) (v3:bq) (h3:v3=(List.getD (Val.kids x2) (x1).toNat (dS.fi .fl))) (v4:Int) (h4:v4=(((bq.name v3)).length:Int)) (v5:Int) (h5:v5=(dr.room x0 (([v4]:List Int)))) (v6:Int) (h6:v6=(dr.value v5 (bq.of [] (bq.val v3)))) (v7:Int) (h7:v7=(IntKind.i64.wrap (x1+(1:Int)))),ck (!(decide (x1<v1)) || (decide (x1<v1))) (ck (!(decide (x1<v1)) || (decide (x1<v1))) (cond v2
  (ck (cU x1 ((Val.kids x2)).length) (ck (decide (x0≤1200∧(([v4]:List Int)).length≤10)&&(([v4]:List Int)).all (fun s=>decide (0≤s))) (ck (cU x1 ((Val.kids x2)).length) (ck ((decide (v5≤1200))&&decide ((bq.bS (bq.of [] (bq.val v3)))<n)) (bJ.l1 n v6 v7 x2)))))
  (some [(.i .i64 x0)])))=ρ):bJ.l1 n x0 x1 x2=ρ:=((fk _ _ _ _ _ _ _).trans (by kernel_rfl)).trans (K _ rfl _ rfl _ rfl _ rfl _ rfl _ rfl _ rfl)
theorem bJ.dq (n:Nat) (left:Int) (v:Val) {ρ:OT} (K:∀(v1:Int) (h1:v1=(((Val.text v)).length:Int)) (v2:Int) (h2:v2=(((Val.more v)).length:Int)) (v3:Int) (h3:v3=(((Val.bytes v)).length:Int)) (v4:List Int) (h4:v4=([(2:Int),v1,v2,v3]:List Int)),ck (decide (left≤1200∧v4.length≤10)&&v4.all (fun s=>decide (0≤s))) (bJ.l1 n (dr.room left v4) (0:Int) v)=ρ):bJ.F n left v=ρ:=Eq.trans (by kernel_rfl) (K _ rfl _ rfl _ rfl _ rfl)
def cK.E:cI:=dO fI zs [(23,(bJ.c,bJ.sg))]
def cK.h:Hint := .o
def cK.F (v:Val):OT:=dK PG cK.E 7 cK.sg cK.h [(.ag (Val.cells v))]
theorem cK.dq (v:Val) {ρ:OT} (K:∀(v1:Int) (h1:v1=(dr.value ((1200:Int)) (bq.of [] v))),ck (decide (((1200:Int))≤1200)) (some [(.b (decide ((0:Int)≤v1)))])=ρ):cK.F v=ρ:=Eq.trans (by kernel_rfl) (K _ rfl)
def cN.E:cI:=dO fI zs []
def cN.h:Hint := .o
def cN.F (n:Int):OT:=dK PG cN.E 76 cN.sg cN.h [(.i .i64 n)]
theorem cN.dq (n:Int) {ρ:OT} (K:∀(v1:Bool) (h1:v1=(cond (decide ((1:Int)≤n)) (decide (n≤(8:Int))) false)),ck (!(decide ((1:Int)≤n)) || (decide ((1:Int)≤n))) (ck (!(decide ((1:Int)≤n)) || (decide ((1:Int)≤n))) (some [(.b v1)]))=ρ):cN.F n=ρ:=Eq.trans (by kernel_rfl) (K _ rfl)
def bZ.E:cI:=dO fI zs []
def bZ.h:Hint := .o
def bZ.F (a:List UInt8):OT:=dK PG bZ.E 35 bZ.sg bZ.h [(.sl .bs a)]
theorem bZ.eY (a:List UInt8):bZ.F a=cond (List.isEmpty a)
  (both (some [(.sl .bs ([]:List UInt8))]) (ck (fg ((([]:List UInt8)).length+(a).length) 1) (some [(.sl .bs (([]:List UInt8)++a))])))
  (ck (fg ((([]:List UInt8)).length+(a).length) 1) (some [(.sl .bs (([]:List UInt8)++a))])):=by kernel_rfl
def eE.E:cI:=dO fI zs [(35,(bZ.c,bZ.sg))]
def eE.h:Hint := .o
def eE.F (b:List UInt8):OT:=dK PG eE.E 66 eE.sg eE.h [(.sl .bs b)]
theorem eE.eY (b:List UInt8):eE.F b=ck (fg (b).length 1) (some [(.ag [(.sl .bs (b)),(.i .i64 0)])]):=by kernel_rfl
def dI.E:cI:=dO fI zs []
def dI.h:Hint := .o
def dI.F (r:bz):OT:=dK PG dI.E 101 dI.sg dI.h [(.ag (bz.cells r))]
theorem dI.dq (r:bz) {ρ:OT} (K:∀(v1:Int) (h1:v1=(IntKind.i64.wrap ((((bz.b r)).length:Int) - (bz.at_ r)))),some [(.i .i64 v1),(.ag (bz.cells r))]=ρ):dI.F r=ρ:=Eq.trans (by kernel_rfl) (K _ rfl)
def dZ.E:cI:=dO fI zs [(101,(dI.c,dI.sg))] [97]
def dZ.h:Hint := .o
def dZ.F (r:bz) (n:Int):OT:=dK PG dZ.E 98 dZ.sg dZ.h [(.ag (bz.cells r)),(.i .i64 n)]
theorem dZ.dq (r:bz) (n:Int) {ρ:OT} (K:∀(v1:Bool) (h1:v1=(cond (decide (n<(1:Int))) true (decide ((8:Int)<n)))) (v2:Int) (h2:v2=((((r).b).length:Int) - (r).at_)) (v3:Bool) (h3:v3=(cond v1 true (decide (v2<n)))) (v4:Int) (h4:v4=(IntKind.i64.wrap ((bz.at_ (r))+n))) (v5:List UInt8) (h5:v5=(List.drop ((IntKind.i64.wrap (v4 - n))).toNat (List.take (v4).toNat (bz.b (r))))),ck (!(!(decide (n<(1:Int)))) || (!(decide (n<(1:Int))))) (ck ((decide (n<(1:Int))) || (!(decide (n<(1:Int))))) (ck ((!v1)&&((!v1)&&(decide (0≤(r).at_∧(r).at_≤((r).b).length∧((r).b).length≤1099511627776)))) (ck (!(!v1) || (!v1)) (ck (v1 || (!v1)) (cond v3
  (some [(.sl .bs ([]:List UInt8)),(.b false),(.ag (bz.cells (r)))])
  (ck (en (IntKind.i64.wrap (v4 - n)) v4 ((bz.b (r))).length) (some [(.sl .bs v5),(.b true),(.ag [(.sl .bs (bz.b (r))),(.i .i64 v4)])])))))))=ρ):dZ.F r n=ρ:=Eq.trans (by kernel_rfl) (K _ rfl _ rfl _ rfl _ rfl _ rfl)
def cY.E:cI:=dO fI zs [(98,(dZ.c,dZ.sg))]
def cY.h:Hint := .s .o (.s .o (.s .o (.s (.s .o (.b (.l [(7,.no),(8,.no),(17,.no),(18,.no),(19,.no),(1000000,.cl [])] .o))) .o)))
def cY.F (r:bz) (n:Int):OT:=dK PG cY.E 67 cY.sg cY.h [(.ag (bz.cells r)),(.i .i64 n)]
def cY.l1 (x0:Bool) (x1:UInt64) (x2:List UInt8) (x3:Int) (x4:Int) (x5:List UInt8) (x6:Int):OT:=iI PG cY.E 67 cY.sg cY.h 87 [(.b x0),(.u64 x1),(.sl .bs x2),(.i .i64 x3),(.i .i64 x4),(.ag [(.sl .bs x5),(.i .i64 x6)])]
theorem cY.et (x0:Bool) (x1:UInt64) (x2:List UInt8) (x3:Int) (x4:Int) (x5:List UInt8) (x6:Int) {ρ:OT} (K:∀(v1:UInt8) (h1:v1=(List.getD x2 (x4).toNat (0:UInt8))) (v2:UInt64) (h2:v2=(UInt64.ofInt ((v1).toNat:Int))) (v3:Int) (h3:v3=(IntKind.i64.wrap ((8:Int) * x4))) (v4:UInt64) (h4:v4=(x1 ||| (nZ v2 ((v3).toNat)))) (v5:Int) (h5:v5=(IntKind.i64.wrap (x4+(1:Int)))),cond (decide (x4<x3))
  (ck (cU x4 (x2).length) (ck (decide (0≤v3)) (cY.l1 x0 v4 x2 x3 v5 x5 x6)))
  (some [(.u64 x1),(.b x0),(.ag [(.sl .bs x5),(.i .i64 x6)])])=ρ):cY.l1 x0 x1 x2 x3 x4 x5 x6=ρ:=((fk _ _ _ _ _ _ _).trans (by kernel_rfl)).trans (K _ rfl _ rfl _ rfl _ rfl _ rfl)
theorem cY.dq (r:bz) (n:Int) {ρ:OT} (K:∀(v1:Int) (h1:v1=((((Bs.fB r n))).length:Int)),ck (decide (1≤n∧n≤8∧0≤(r).at_∧(r).at_≤((r).b).length∧((r).b).length≤1099511627776)) (cY.l1 ((Bs.can r n)) (0:UInt64) ((Bs.fB r n)) v1 (0:Int) (bz.b ((Bs.jt r n))) (bz.at_ ((Bs.jt r n))))=ρ):cY.F r n=ρ:=Eq.trans (by kernel_rfl) (K _ rfl)
def eg.E:cI:=dO fI zs [(35,(bZ.c,bZ.sg)),(101,(dI.c,dI.sg))] [87]
def eg.h:Hint := .o
def eg.F (r:bz) (n:Int):OT:=dK PG eg.E 71 eg.sg eg.h [(.ag (bz.cells r)),(.i .i64 n)]
theorem eg.dq (r:bz) (n:Int) {ρ:OT} (K:∀(v1:Int) (h1:v1=((((r).b).length:Int) - (r).at_)) (v2:Bool) (h2:v2=(cond (decide (n<(0:Int))) true (decide (v1<n)))) (v3:Int) (h3:v3=(IntKind.i64.wrap ((bz.at_ (r))+n))) (v4:List UInt8) (h4:v4=(List.drop ((IntKind.i64.wrap (v3 - n))).toNat (List.take (v3).toNat (bz.b (r))))),ck ((!(decide (n<(0:Int))))&&((!(decide (n<(0:Int))))&&(decide (0≤(r).at_∧(r).at_≤((r).b).length∧((r).b).length≤1099511627776)))) (ck (!(!(decide (n<(0:Int)))) || (!(decide (n<(0:Int))))) (ck ((decide (n<(0:Int))) || (!(decide (n<(0:Int))))) (cond v2
  (some [(.sl .bs ([]:List UInt8)),(.b false),(.ag (bz.cells (r)))])
  (ck (en (IntKind.i64.wrap (v3 - n)) v3 ((bz.b (r))).length) (ck (fg (v4).length 1) (some [(.sl .bs (v4)),(.b true),(.ag [(.sl .bs (bz.b (r))),(.i .i64 v3)])]))))))=ρ):eg.F r n=ρ:=Eq.trans (by kernel_rfl) (K _ rfl _ rfl _ rfl _ rfl)
def eO.E:cI:=dO fI zs []
def eO.h:Hint := .o
def eO.F  : OT:=dK PG eO.E 27 eO.sg eO.h []
theorem eO.eY  : eO.F  = some [(.ag [.pt]),(.sl .bs ([]:List UInt8))]:=by kernel_rfl
def dx.E:cI:=dO fI zs []
def dx.h:Hint := .o
def dx.F (v:Int) (b:List UInt8):OT:=dK PG dx.E 52 dx.sg dx.h [(.ag [.pt]),(.i .i64 v),(.sl .bs b)]
theorem dx.dq (v:Int) (b:List UInt8) {ρ:OT} (K:∀(v1:List UInt8) (h1:v1=([(UInt8.ofInt v)]:List UInt8)),ck (fg ((b).length+(v1).length) 1) (some [(.ag [.pt]),(.sl .bs (b++v1))])=ρ):dx.F v b=ρ:=Eq.trans (by kernel_rfl) (K _ rfl)
def eC.E:cI:=dO fI zs []
def eC.h:Hint := .o
def eC.F (x:List UInt8) (b:List UInt8):OT:=dK PG eC.E 77 eC.sg eC.h [(.ag [.pt]),(.sl .bs x),(.sl .bs b)]
theorem eC.eY (x:List UInt8) (b:List UInt8):eC.F x b=ck (fg ((b).length+(x).length) 1) (some [(.ag [.pt]),(.sl .bs (b++x))]):=by kernel_rfl
def cP.E:cI:=dO fI zs [(76,(cN.c,cN.sg))]
def cP.h:Hint := .s .o (.b (.l [(0,.ptr 1000000 0),(1,.no),(2,.no),(6,.no),(1000000,.cl [(0,800000)]),(800000,.pv)] .o))
def cP.F (v:UInt64) (n:Int) (b:List UInt8):OT:=dK PG cP.E 51 cP.sg cP.h [(.ag [.pt]),(.u64 v),(.i .i64 n),(.sl .bs b)]
def cP.l1 (x0:UInt64) (x1:Int) (x2:Int) (x3:List UInt8):OT:=iI PG cP.E 51 cP.sg cP.h 5 [.pt,(.u64 x0),(.i .i64 x1),(.i .i64 x2),(.ag [.pt]),(.sl .bs x3)]
theorem cP.et (x0:UInt64) (x1:Int) (x2:Int) (x3:List UInt8) {ρ:OT} (K:∀(v1:Bool) (h1:v1=(cond (decide (1≤x1∧x1≤8)) (decide (x2<x1)) false)) (v2:Int) (h2:v2=(IntKind.i64.wrap ((8:Int) * x2))) (v3:UInt8) (h3:v3=(UInt8.ofInt (((lI x0 ((v2).toNat))).toNat:Int))) (v4:Int) (h4:v4=(IntKind.i64.wrap (x2+(1:Int)))),ck (!(decide (1≤x1∧x1≤8)) || ((decide (1≤x1∧x1≤8))&&(decide (1≤x1∧x1≤8)))) (ck (!(decide (1≤x1∧x1≤8)) || (decide (1≤x1∧x1≤8))) (cond v1
  (ck (decide (0≤v2)) (ck (fg ((x3).length+(([v3]:List UInt8)).length) 1) (cP.l1 x0 x1 v4 (x3++([v3]:List UInt8)))))
  (some [(.ag [.pt]),(.sl .bs x3)])))=ρ):cP.l1 x0 x1 x2 x3=ρ:=((fk _ _ _ _ _ _ _).trans (by kernel_rfl)).trans (K _ rfl _ rfl _ rfl _ rfl)
theorem cP.eY (v:UInt64) (n:Int) (b:List UInt8):cP.F v n b=cP.l1 v n (0:Int) b:=by kernel_rfl
def cW.E:cI:=dO fI zs [(76,(cN.c,cN.sg))]
def cW.h:Hint := .s .o (.s .o (.s (.s .o (.b (.l [(0,.ptr 1000000 0),(1,.no),(2,.no),(28,.no),(29,.no),(1000000,.cl [(0,800000)]),(800000,.pv)] .o))) .o))
def cW.F (at_:Int) (v:UInt64) (n:Int) (b:List UInt8):OT:=dK PG cW.E 55 cW.sg cW.h [(.ag [.pt]),(.i .i64 at_),(.u64 v),(.i .i64 n),(.sl .bs b)]
def cW.l1 (x0:Int) (x1:UInt64) (x2:Int) (x3:Int) (x4:List UInt8):OT:=iI PG cW.E 55 cW.sg cW.h 43 [.pt,(.i .i64 x0),(.u64 x1),(.i .i64 x2),(.i .i64 x3),(.ag [.pt]),(.sl .bs x4)]
theorem cW.et (x0:Int) (x1:UInt64) (x2:Int) (x3:Int) (x4:List UInt8) {ρ:OT} (K:∀(v1:Int) (h1:v1=(IntKind.i64.wrap ((8:Int) * x3))) (v2:UInt8) (h2:v2=(UInt8.ofInt (((lI x1 ((v1).toNat))).toNat:Int))) (v3:Nat) (h3:v3=(((IntKind.i64.wrap (x0+x3))).toNat)) (v4:Int) (h4:v4=(IntKind.i64.wrap (x3+(1:Int)))),cond (decide (x3<x2))
  (ck (decide (0≤v1)) (ck (cU (IntKind.i64.wrap (x0+x3)) (x4).length) (ck (decide (v3<(x4).length)) (cW.l1 x0 x1 x2 v4 (List.set x4 (v3) v2)))))
  (some [(.b true),(.ag [.pt]),(.sl .bs x4)])=ρ):cW.l1 x0 x1 x2 x3 x4=ρ:=((fk _ _ _ _ _ _ _).trans (by kernel_rfl)).trans (K _ rfl _ rfl _ rfl _ rfl)
theorem cW.dq (at_:Int) (v:UInt64) (n:Int) (b:List UInt8) {ρ:OT} (K:∀(v1:Bool) (h1:v1=(!(!(decide (1≤n∧n≤8))))) (v2:Bool) (h2:v2=(cond (!(decide (1≤n∧n≤8))) true (decide (at_<(0:Int))))) (v3:Int) (h3:v3=(IntKind.i64.wrap (((b).length:Int) - n))) (v4:Bool) (h4:v4=(cond v2 true (decide (v3<at_)))),ck (!v1 || v1) (ck ((!(decide (1≤n∧n≤8))) || v1) (ck (!(!v2) || (!v2)) (ck (!(!v2) || (!v2)) (ck (!(!v2) || (!v2)) (ck (!(!v2) || (!v2)) (ck (!(!v2) || ((!v2)&&(!v2))) (ck (!(!v2) || ((!v2)&&(!v2))) (ck (v2 || (!v2)) (cond v4
  (some [(.b false),(.ag [.pt]),(.sl .bs b)])
  (cW.l1 at_ v n (0:Int) b))))))))))=ρ):cW.F at_ v n b=ρ:=Eq.trans (by kernel_rfl) (K _ rfl _ rfl _ rfl _ rfl)
def eD.E:cI:=dO fI zs []
def eD.h:Hint := .o
def eD.F (b:List UInt8):OT:=dK PG eD.E 50 eD.sg eD.h [(.ag [.pt]),(.sl .bs b)]
theorem eD.eY (b:List UInt8):eD.F b=some [(.i .i64 ((b).length:Int)),(.ag [.pt]),(.sl .bs b)]:=by kernel_rfl
def dF.E:cI:=dO fI zs [(35,(bZ.c,bZ.sg))]
def dF.h:Hint := .o
def dF.F (w:rK):OT:=dK PG dF.E 29 dF.sg dF.h [(.ag (rK.cells w))]
theorem dF.eY (w:rK):dF.F w=ck (fg (((rK.b w))).length 1) (some [(.sl .bs (((rK.b w)))),(.ag (rK.cells w))]):=by kernel_rfl
def cd.E:cI:=dO fI zs []
def cd.h:Hint := .o
def cd.F (b:List UInt8) (c:UInt8):OT:=dK PG cd.E 68 cd.sg cd.h [(.sl .bs b),(.u8 c)]
theorem cd.eY (b:List UInt8) (c:UInt8):cd.F b c=some [(.i .i64 (Lib.indexByte b c))]:=by kernel_rfl
def cL.E:cI:=dO fI zs [(68,(cd.c,cd.sg)),(69,(cC.c,cC.sg))]
def cL.h:Hint := .o
def cL.F (b:List UInt8) (at_:Int):OT:=dK PG cL.E 47 cL.sg cL.h [(.sl .bs b),(.i .i64 at_)]
theorem cL.dq (b:List UInt8) (at_:Int) {ρ:OT} (K:∀(v1:Bool) (h1:v1=(cond (decide (at_<(0:Int))) true (decide (((b).length:Int)<at_)))) (v2:Int) (h2:v2=(Lib.indexByte ((List.drop (at_).toNat b)) ((0:UInt8)))) (v3:Int) (h3:v3=(IntKind.i64.wrap (at_+v2))) (v4:List UInt8) (h4:v4=(List.drop (at_).toNat (List.take (v3).toNat b))) (v5:Int) (h5:v5=(IntKind.i64.wrap (v3+(1:Int)))),ck (!(!(decide (at_<(0:Int)))) || (!(decide (at_<(0:Int))))) (ck (!(!(decide (at_<(0:Int)))) || ((!(decide (at_<(0:Int))))&&(!(decide (at_<(0:Int)))))) (ck ((decide (at_<(0:Int))) || (!(decide (at_<(0:Int))))) (cond v1
  (some [(.s []),(.i .i64 0),(.i .i64 1)])
  (ck (en at_ (b).length (b).length) (cond (decide (v2<(0:Int)))
  (some [(.s []),(.i .i64 0),(.i .i64 2)])
  (ck (en at_ v3 (b).length) (ck (decide (v4.length≤1099511627776)) (cond (!(dt.whole v4))
  (some [(.s []),(.i .i64 0),(.i .i64 4)])
  (ck (en at_ v3 (b).length) (some [(.s v4),(.i .i64 v5),(.i .i64 0)]))))))))))=ρ):cL.F b at_=ρ:=Eq.trans (by kernel_rfl) (K _ rfl _ rfl _ rfl _ rfl _ rfl)
def cF.E (n:Nat):cI:=dO fI zs [(26,(ct.cn n,ct.sg))]
def cF.h:Hint := .s .o (.s .o (.s (.s .o (.b (.l (sc [3,6,7,8]) .o))) .o))
def cF.F (n:Nat) (l:List bq):OT:=dK PG (cF.E n) 49 cF.sg cF.h [(.sl .fl l)]
def cF.l1 (n:Nat) (x0:Int) (x1:List bq) (x2:Int) (x3:Int):OT:=iI PG (cF.E n) 49 cF.sg cF.h 43 [(.i .i64 x0),(.sl .fl x1),(.i .i64 x2),(.i .i64 x3)]
theorem cF.et (n:Nat) (x0:Int) (x1:List bq) (x2:Int) (x3:Int) {ρ:OT} (K:∀(v1:bq) (h1:v1=(List.getD x1 (x3).toNat (dS.fi .fl))) (v2:Int) (h2:v2=(((bq.name v1)).length:Int)) (v3:Int) (h3:v3=(IntKind.i64.wrap (v2+(2:Int)))) (v4:Int) (h4:v4=(((Bs.size (bq.of [] (bq.val v1)):Nat):Int))) (v5:Int) (h5:v5=(IntKind.i64.wrap (x0+(IntKind.i64.wrap (v3+v4))))) (v6:Int) (h6:v6=(IntKind.i64.wrap (x3+(1:Int)))),cond (decide (x3<x2))
  (ck (cU x3 (x1).length) (ck ((decide (bq.bS (bq.of [] (bq.val v1))≤1000000000000))&&decide ((2 * bq.bS (bq.of [] (bq.val v1)))<n)) (cF.l1 n v5 x1 x2 v6)))
  (some [(.i .i64 x0)])=ρ):cF.l1 n x0 x1 x2 x3=ρ:=((fk _ _ _ _ _ _ _).trans (by kernel_rfl)).trans (K _ rfl _ rfl _ rfl _ rfl _ rfl _ rfl)
theorem cF.eY (n:Nat) (l:List bq):cF.F n l=cF.l1 n (5:Int) l ((l).length:Int) (0:Int):=by kernel_rfl
def ct.E (n:Nat):cI:=dO fI zs [(49,(cF.cn n,cF.sg))]
def ct.h:Hint := .s .o (.s (.s .o (.b (.j [(1,.ptr 72 0),(4,.no),(5,.no),(72,.cl [])] .o (.s .o (.s .o (.s .o (.s .o (.s .o (.s .o (.s .o (.j [(1,.ptr 72 0),(4,.no),(16,.no),(72,.cl [])] .o (.s .o (.s .o (.s .o (.s .o (.s .o (.s .o (.s .o (.s .o (.s .o (.j [(1,.ptr 72 0),(4,.no),(55,.no),(72,.cl [])] .o .o))))))))))))))))))))) .o)
def ct.F (n:Nat) (v:Val):OT:=dK PG (ct.E n) 26 ct.sg ct.h [(.ag (Val.cells v))]
def ct.j1 (n:Nat) (x0:Int) (x1:Bool) (x2:Val):OT:=fm PG (ct.E n) 26 ct.sg ct.h 21 [.pt,(.i .i64 x0),(.b x1),(.ag (Val.cells x2))]
def ct.j2 (n:Nat) (x0:Int) (x1:Bool) (x2:Val):OT:=fm PG (ct.E n) 26 ct.sg ct.h 8181 [.pt,(.i .i64 x0),(.b x1),(.ag (Val.cells x2))]
def ct.j3 (n:Nat) (x0:Int) (x1:Bool) (x2:Val):OT:=fm PG (ct.E n) 26 ct.sg ct.h 8388597 [.pt,(.i .i64 x0),(.b x1),(.ag (Val.cells x2))]
theorem ct.qD (n:Nat) (x0:Int) (x1:Bool) (x2:Val):ct.j1 n x0 x1 x2=cond x1
  (some [(.i .i64 8)])
  (cond (decide (x0=(16:Int)))
  (some [(.i .i64 4)])
  (cond (decide (x0=(8:Int)))
  (some [(.i .i64 1)])
  (cond (decide (x0=(19:Int)))
  (some [(.i .i64 16)])
  (cond (decide (x0=(2:Int)))
  (ct.j2 n x0 (decide (x0=(2:Int))) x2)
  (cond (decide (x0=(13:Int)))
  (ct.j2 n x0 (decide (x0=(13:Int))) x2)
  (ct.j2 n x0 (decide (x0=(14:Int))) x2)))))):=((dE _ _ _ _ _ _ _).trans (by kernel_rfl))
theorem ct.lM (n:Nat) (x0:Int) (x1:Bool) (x2:Val) {ρ:OT} (K:∀(v1:Int) (h1:v1=(((Val.text x2)).length:Int)) (v2:Int) (h2:v2=(IntKind.i64.wrap (v1+(5:Int)))) (v3:Int) (h3:v3=(((Val.more x2)).length:Int)) (v4:Int) (h4:v4=(IntKind.i64.wrap ((IntKind.i64.wrap (v1+v3))+(2:Int)))) (v5:Int) (h5:v5=(((Val.bytes x2)).length:Int)) (v6:Int) (h6:v6=(IntKind.i64.wrap (v5+(9:Int)))) (v7:Int) (h7:v7=(IntKind.i64.wrap (v5+(5:Int)))) (v8:Int) (h8:v8=(IntKind.i64.wrap (v1+(17:Int)))),cond x1
  (some [(.i .i64 v2)])
  (cond (decide (x0=(11:Int)))
  (some [(.i .i64 v4)])
  (cond (decide (x0=(5:Int)))
  (cond (decide ((Val.sub x2)=(2:Int)))
  (some [(.i .i64 v6)])
  (some [(.i .i64 v7)]))
  (cond (decide (x0=(7:Int)))
  (some [(.i .i64 12)])
  (cond (decide (x0=(12:Int)))
  (some [(.i .i64 v8)])
  (cond (decide (x0=(3:Int)))
  (ct.j3 n x0 (decide (x0=(3:Int))) x2)
  (ct.j3 n x0 (decide (x0=(4:Int))) x2))))))=ρ):ct.j2 n x0 x1 x2=ρ:=((dE _ _ _ _ _ _ _).trans (by kernel_rfl)).trans (K _ rfl _ rfl _ rfl _ rfl _ rfl _ rfl _ rfl _ rfl)
theorem ct.qB (n:Nat) (x0:Int) (x1:Bool) (x2:Val) {ρ:OT} (K:∀(v1:Int) (h1:v1=(((Bs.bY ((Val.kids x2))+5:Nat):Int))) (v2:Int) (h2:v2=(((Val.text x2)).length:Int)) (v3:Int) (h3:v3=(IntKind.i64.wrap (v2+(9:Int)))),cond x1
  (ck ((decide (bq.bU ((Val.kids x2))≤1000000000000))&&decide ((2 * bq.bU ((Val.kids x2))+1)<n)) (some [(.i .i64 v1)]))
  (cond (decide (x0=(15:Int)))
  (ck ((decide (bq.bU ((Val.kids x2))≤1000000000000))&&decide ((2 * bq.bU ((Val.kids x2))+1)<n)) (some [(.i .i64 (IntKind.i64.wrap (v3+v1)))]))
  (some [(.i .i64 0)]))=ρ):ct.j3 n x0 x1 x2=ρ:=((dE _ _ _ _ _ _ _).trans (by kernel_rfl)).trans (K _ rfl _ rfl _ rfl)
theorem ct.eY (n:Nat) (v:Val):ct.F n v=cond (decide ((Val.kind v)=(1:Int)))
  (ct.j1 n (Val.kind v) (decide ((Val.kind v)=(1:Int))) v)
  (cond (decide ((Val.kind v)=(9:Int)))
  (ct.j1 n (Val.kind v) (decide ((Val.kind v)=(9:Int))) v)
  (cond (decide ((Val.kind v)=(17:Int)))
  (ct.j1 n (Val.kind v) (decide ((Val.kind v)=(17:Int))) v)
  (ct.j1 n (Val.kind v) (decide ((Val.kind v)=(18:Int))) v))):=by kernel_rfl
def eB.E:cI:=dO fI zs []
def eB.h:Hint := .o
def eB.F (l:Lim):OT:=dK PG eB.E 24 eB.sg eB.h [(.ag (Lim.cells l))]
theorem eB.dq (l:Lim) {ρ:OT} (K:∀(v1:Bool) (h1:v1=(cond (decide ((1:Int)≤(Lim.depth l))) (decide ((Lim.depth l)≤(200:Int))) false)) (v2:Bool) (h2:v2=(cond v1 (decide ((5:Int)≤(Lim.size l))) false)) (v3:Bool) (h3:v3=(cond v2 (decide ((Lim.size l)≤(16777216:Int))) false)) (v4:Bool) (h4:v4=(cond v3 (decide ((0:Int)≤(Lim.out l))) false)) (v5:Bool) (h5:v5=(cond v4 (decide ((Lim.out l)≤(67108864:Int))) false)),ck (!(decide ((1:Int)≤(Lim.depth l))) || (decide ((1:Int)≤(Lim.depth l)))) (ck (!(decide ((1:Int)≤(Lim.depth l))) || (decide ((1:Int)≤(Lim.depth l)))) (ck (!(decide ((1:Int)≤(Lim.depth l))) || (decide ((1:Int)≤(Lim.depth l)))) (ck (!v1 || v1) (ck (!v1 || v1) (ck (!v1 || v1) (ck (!v2 || v2) (ck (!v2 || v2) (ck (!v2 || v2) (ck (!v3 || v3) (ck (!v3 || v3) (ck (!v3 || v3) (ck (!v4 || v4) (ck (!v4 || v4) (ck (!v4 || v4) (some [(.b v5)])))))))))))))))=ρ):eB.F l=ρ:=Eq.trans (by kernel_rfl) (K _ rfl _ rfl _ rfl _ rfl _ rfl)
end
end Go.Eng
set_option maxRecDepth 100000
namespace Go.Eng
open Go.Proofs
noncomputable section
def dX.E:cI:=dO fI zs [(24,(eB.c,eB.sg)),(26,(ct.c,ct.sg)),(30,(bI.c,bI.sg))]
def dX.h:Hint := .o
def dX.F (v:Val) (l:Lim):OT:=dK PG dX.E 10 dX.sg dX.h [(.ag (Val.cells v)),(.ag (Lim.cells l))]
theorem dX.dq (v:Val) (l:Lim) {ρ:OT} (K:∀(v1:Int) (h1:v1=((Tree.depth (bq.of [] v):Int))) (v2:Int) (h2:v2=(((Bs.size (bq.of [] v):Nat):Int))),cond (!(Bs.may l))
  (some [(.i .i64 1)])
  (cond (!decide ((Val.kind v)=(3:Int)))
  (some [(.i .i64 5)])
  (ck (decide (bq.bS (bq.of [] v)≤1099511627776)) (cond (decide ((Lim.depth l)<v1))
  (some [(.i .i64 8)])
  (ck (decide (bq.bS (bq.of [] v)≤1000000000000)) (cond (decide ((Lim.size l)<v2))
  (some [(.i .i64 9)])
  (some [(.i .i64 0)]))))))=ρ):dX.F v l=ρ:=Eq.trans (by kernel_rfl) (K _ rfl _ rfl)
def cS.E:cI:=dO fI zs [(52,(dx.c,dx.sg)),(77,(eC.c,eC.sg))]
def cS.h:Hint := .o
def cS.F (s:bG) (b:List UInt8):OT:=dK PG cS.E 53 cS.sg cS.h [(.ag [.pt]),(.s s),(.sl .bs b)]
theorem cS.dq (s:bG) (b:List UInt8) {ρ:OT} (K:∀(v1:List UInt8) (h1:v1=(((((b++s)))++[UInt8.ofInt ((0:Int))]))),ck (lK (s).length) (ck (decide ((b).length+(s).length≤2199023255552)) (ck (decide (((((b++s)))).length≤1099511627776)) (some [(.ag [.pt]),(.sl .bs v1)])))=ρ):cS.F s b=ρ:=Eq.trans (by kernel_rfl) (K _ rfl)
def eh.E:cI:=dO fI zs [(51,(cP.c,cP.sg)),(53,(cS.c,cS.sg))]
def eh.h:Hint := .o
def eh.F (s:bG) (b:List UInt8):OT:=dK PG eh.E 78 eh.sg eh.h [(.ag [.pt]),(.s s),(.sl .bs b)]
theorem eh.dq (s:bG) (b:List UInt8) {ρ:OT} (K:∀(v1:Int) (h1:v1=(IntKind.i64.wrap (((s).length:Int)+(1:Int)))) (v2:List UInt8) (h2:v2=((b++Bs.eU (((4:Int))).toNat (((UInt64.ofInt v1))).toNat))),ck (decide (1≤((4:Int))∧((4:Int))≤8∧(b).length≤1099511627776)) (ck (decide ((v2).length+(s).length≤1099511627776)) (some [(.ag [.pt]),(.sl .bs ((v2++(s++[0]))))]))=ρ):eh.F s b=ρ:=Eq.trans (by kernel_rfl) (K _ rfl _ rfl)
def bC.E (n:Nat):cI:=dO fI zs [(50,(eD.c,eD.sg)),(51,(cP.c,cP.sg)),(52,(dx.c,dx.sg)),(53,(cS.c,cS.sg)),(54,(bB.cn n,bB.sg)),(55,(cW.c,cW.sg))]
def bC.h:Hint := .s .o (.s .o (.s (.s .o (.b (.l [(0,.ptr 1000000 0),(4,.no),(11,.no),(12,.no),(13,.no),(1000000,.cl [(0,800000)]),(800000,.pv)] .o))) .o))
def bC.F (n:Nat) (l:List bq) (b:List UInt8):OT:=dK PG (bC.E n) 28 bC.sg bC.h [(.ag [.pt]),(.sl .fl l),(.sl .bs b)]
def bC.l1 (n:Nat) (x0:Int) (x1:List bq) (x2:Int) (x3:Int) (x4:List UInt8):OT:=iI PG (bC.E n) 28 bC.sg bC.h 43 [.pt,(.i .i64 x0),(.sl .fl x1),(.i .i64 x2),(.i .i64 x3),(.ag [.pt]),(.sl .bs x4)]
theorem bC.et (n:Nat) (x0:Int) (x1:List bq) (x2:Int) (x3:Int) (x4:List UInt8) {ρ:OT} (K:∀(v1:bq) (h1:v1=(List.getD x1 (x3).toNat (dS.fi .fl))) (v2:List UInt8) (h2:v2=((x4++[UInt8.ofInt ((bq.kind v1))]))) (v3:List UInt8) (h3:v3=((v2++(((bq.name v1))++[0])))) (v4:List UInt8) (h4:v4=((v3++Bs.enc (bq.of [] (bq.val v1))))) (v5:Int) (h5:v5=(IntKind.i64.wrap (x3+(1:Int)))) (v6:List UInt8) (h6:v6=((x4++[UInt8.ofInt ((0:Int))]))) (v7:Int) (h7:v7=(IntKind.i64.wrap ((((v6).length:Int)) - x0))) (v8:List UInt8) (h8:v8=((Bs.ji ((v6)) (x0).toNat (Bs.eU (((4:Int))).toNat (((UInt64.ofInt v7))).toNat)))),cond (decide (x3<x2))
  (ck (cU x3 (x1).length) (ck (decide ((x4).length≤1099511627776)) (ck (decide ((v2).length+(((bq.name v1))).length≤1099511627776)) (ck ((decide ((v3).length+30 * bq.bS (bq.of [] (bq.val v1))+30≤1000000000000))&&decide ((2 * bq.bS (bq.of [] (bq.val v1)))<n)) (bC.l1 n x0 x1 x2 v5 v4)))))
  (ck (decide ((x4).length≤1099511627776)) (ck (decide (1≤((4:Int))∧((4:Int))≤8∧0≤x0∧x0+((4:Int))≤((((v6))).length:Int)∧(((v6))).length≤2199023255552)) (some [(.ag [.pt]),(.sl .bs v8)])))=ρ):bC.l1 n x0 x1 x2 x3 x4=ρ:=((fk _ _ _ _ _ _ _).trans (by kernel_rfl)).trans (K _ rfl _ rfl _ rfl _ rfl _ rfl _ rfl _ rfl _ rfl)
theorem bC.dq (n:Nat) (l:List bq) (b:List UInt8) {ρ:OT} (K:∀(v1:List UInt8) (h1:v1=((((b))++Bs.eU (((4:Int))).toNat (((0:UInt64))).toNat))),ck (decide (1≤((4:Int))∧((4:Int))≤8∧(((b))).length≤1099511627776)) (bC.l1 n (((b).length:Int)) l ((l).length:Int) (0:Int) v1)=ρ):bC.F n l b=ρ:=Eq.trans (by kernel_rfl) (K _ rfl)
def bB.E (n:Nat):cI:=dO fI zs [(28,(bC.cn n,bC.sg)),(50,(eD.c,eD.sg)),(51,(cP.c,cP.sg)),(52,(dx.c,dx.sg)),(53,(cS.c,cS.sg)),(55,(cW.c,cW.sg)),(77,(eC.c,eC.sg)),(78,(eh.c,eh.sg))]
def bB.h:Hint := .s .o (.s .o (.b (.j [(0,.ptr 1000000 0),(3,.ptr 136 0),(7,.no),(8,.no),(136,.cl []),(1000000,.cl [(0,800000)]),(800000,.pv)] .o (.s .o (.s .o (.s .o (.s .o (.s .o (.s .o (.s .o (.j [(0,.ptr 1000000 0),(3,.ptr 136 0),(7,.no),(39,.no),(136,.cl []),(1000000,.cl [(0,800000)]),(800000,.pv)] .o (.s .o (.s .o (.s .o (.s .o (.s (.s .o (.j [(0,.ptr 1000000 0),(3,.ptr 136 0),(136,.cl []),(1000000,.cl [(0,800000)]),(800000,.pv)] .o .o)) (.s .o (.s .o (.s .o (.s .o (.j [(0,.ptr 1000000 0),(3,.ptr 136 0),(7,.no),(104,.no),(136,.cl []),(1000000,.cl [(0,800000)]),(800000,.pv)] .o .o)))))))))))))))))))))
def bB.F (n:Nat) (v:Val) (b:List UInt8):OT:=dK PG (bB.E n) 54 bB.sg bB.h [(.ag [.pt]),(.ag (Val.cells v)),(.sl .bs b)]
def bB.j1 (n:Nat) (x0:Int) (x1:Bool) (x2:Val) (x3:List UInt8):OT:=fm PG (bB.E n) 54 bB.sg bB.h 11 [.pt,.pt,(.i .i64 x0),(.b x1),(.ag (Val.cells x2)),(.ag [.pt]),(.sl .bs x3)]
def bB.j2 (n:Nat) (x0:Int) (x1:Bool) (x2:Val) (x3:List UInt8):OT:=fm PG (bB.E n) 54 bB.sg bB.h 4091 [.pt,.pt,(.i .i64 x0),(.b x1),(.ag (Val.cells x2)),(.ag [.pt]),(.sl .bs x3)]
def bB.j3 (n:Nat) (x0:Val) (x1:List UInt8):OT:=fm PG (bB.E n) 54 bB.sg bB.h 458747 [.pt,.pt,(.ag (Val.cells x0)),(.ag [.pt]),(.sl .bs x1)]
def bB.j4 (n:Nat) (x0:Int) (x1:Bool) (x2:Val) (x3:List UInt8):OT:=fm PG (bB.E n) 54 bB.sg bB.h 4194299 [.pt,.pt,(.i .i64 x0),(.b x1),(.ag (Val.cells x2)),(.ag [.pt]),(.sl .bs x3)]
theorem bB.qC (n:Nat) (x0:Int) (x1:Bool) (x2:Val) (x3:List UInt8) {ρ:OT} (K:∀(v1:List UInt8) (h1:v1=((x3++Bs.eU (((8:Int))).toNat (((Val.bits x2))).toNat))) (v2:List UInt8) (h2:v2=((x3++Bs.eU (((4:Int))).toNat (((Val.bits x2))).toNat))) (v3:List UInt8) (h3:v3=((x3++Bs.eU (((1:Int))).toNat (((Val.bits x2))).toNat))) (v4:List UInt8) (h4:v4=((x3++Bs.eU (((8:Int))).toNat (((Val.low x2))).toNat))) (v5:List UInt8) (h5:v5=((v4++Bs.eU (((8:Int))).toNat (((Val.high x2))).toNat))),cond x1
  (ck (decide (1≤((8:Int))∧((8:Int))≤8∧(x3).length≤1099511627776)) (some [(.ag [.pt]),(.sl .bs v1)]))
  (cond (decide (x0=(16:Int)))
  (ck (decide (1≤((4:Int))∧((4:Int))≤8∧(x3).length≤1099511627776)) (some [(.ag [.pt]),(.sl .bs v2)]))
  (cond (decide (x0=(8:Int)))
  (ck (decide (1≤((1:Int))∧((1:Int))≤8∧(x3).length≤1099511627776)) (some [(.ag [.pt]),(.sl .bs v3)]))
  (cond (decide (x0=(19:Int)))
  (ck (decide (1≤((8:Int))∧((8:Int))≤8∧(x3).length≤1099511627776)) (ck (decide (1≤((8:Int))∧((8:Int))≤8∧(v4).length≤1099511627776)) (some [(.ag [.pt]),(.sl .bs v5)])))
  (cond (decide (x0=(2:Int)))
  (bB.j2 n x0 (decide (x0=(2:Int))) x2 x3)
  (cond (decide (x0=(13:Int)))
  (bB.j2 n x0 (decide (x0=(13:Int))) x2 x3)
  (bB.j2 n x0 (decide (x0=(14:Int))) x2 x3))))))=ρ):bB.j1 n x0 x1 x2 x3=ρ:=((dE _ _ _ _ _ _ _).trans (by kernel_rfl)).trans (K _ rfl _ rfl _ rfl _ rfl _ rfl)
theorem bB.lM (n:Nat) (x0:Int) (x1:Bool) (x2:Val) (x3:List UInt8) {ρ:OT} (K:∀(v1:List UInt8) (h1:v1=((x3++Bs.fv ((Val.text x2))))) (v2:List UInt8) (h2:v2=((x3++(((Val.text x2))++[0])))) (v3:List UInt8) (h3:v3=((v2++(((Val.more x2))++[0])))) (v4:Int) (h4:v4=(((Val.bytes x2)).length:Int)) (v5:UInt64) (h5:v5=((UInt64.ofInt v4)+(4:UInt64))) (v6:List UInt8) (h6:v6=((x3++Bs.eU (((4:Int))).toNat (v5).toNat))) (v7:List UInt8) (h7:v7=((v6++[UInt8.ofInt ((Val.sub x2))]))) (v8:List UInt8) (h8:v8=((v7++Bs.eU (((4:Int))).toNat (((UInt64.ofInt v4))).toNat))) (v9:List UInt8) (h9:v9=((x3++Bs.eU (((4:Int))).toNat (((UInt64.ofInt v4))).toNat))) (v10:List UInt8) (kL:v10=((v9++[UInt8.ofInt ((Val.sub x2))]))),cond x1
  (ck (decide ((x3).length+(((Val.text x2))).length+10≤1099511627776)) (some [(.ag [.pt]),(.sl .bs v1)]))
  (cond (decide (x0=(11:Int)))
  (ck (decide ((x3).length+(((Val.text x2))).length≤1099511627776)) (ck (decide ((v2).length+(((Val.more x2))).length≤1099511627776)) (some [(.ag [.pt]),(.sl .bs v3)])))
  (cond (decide (x0=(5:Int)))
  (cond (decide ((Val.sub x2)=(2:Int)))
  (ck (decide (1≤((4:Int))∧((4:Int))≤8∧(x3).length≤1099511627776)) (ck (decide ((v6).length≤1099511627776)) (ck (decide (1≤((4:Int))∧((4:Int))≤8∧(v7).length≤1099511627776)) (bB.j3 n x2 v8))))
  (ck (decide (1≤((4:Int))∧((4:Int))≤8∧(x3).length≤1099511627776)) (ck (decide ((v9).length≤1099511627776)) (bB.j3 n x2 v10))))
  (cond (decide (x0=(7:Int)))
  (ck (decide ((x3).length+(((Val.bytes x2))).length≤2199023255552)) (some [(.ag [.pt]),(.sl .bs ((x3++((Val.bytes x2)))))]))
  (cond (decide (x0=(12:Int)))
  (ck (decide ((x3).length+(((Val.text x2))).length+10≤1099511627776)) (ck (decide ((v1).length+(((Val.bytes x2))).length≤2199023255552)) (some [(.ag [.pt]),(.sl .bs ((v1++((Val.bytes x2)))))])))
  (cond (decide (x0=(3:Int)))
  (bB.j4 n x0 (decide (x0=(3:Int))) x2 x3)
  (bB.j4 n x0 (decide (x0=(4:Int))) x2 x3))))))=ρ):bB.j2 n x0 x1 x2 x3=ρ:=((dE _ _ _ _ _ _ _).trans (by kernel_rfl)).trans (K _ rfl _ rfl _ rfl _ rfl _ rfl _ rfl _ rfl _ rfl _ rfl _ rfl)
theorem bB.zC (n:Nat) (x0:Val) (x1:List UInt8):bB.j3 n x0 x1=ck (decide ((x1).length+(((Val.bytes x0))).length≤2199023255552)) (some [(.ag [.pt]),(.sl .bs ((x1++((Val.bytes x0)))))]):=((dE _ _ _ _ _ _ _).trans (by kernel_rfl))
theorem bB.s8 (n:Nat) (x0:Int) (x1:Bool) (x2:Val) (x3:List UInt8) {ρ:OT} (K:∀(v1:List UInt8) (h1:v1=((x3++Bs.fw ((Val.kids x2))))) (v2:List UInt8) (h2:v2=((((x3))++Bs.eU (((4:Int))).toNat (((0:UInt64))).toNat))) (v3:List UInt8) (h3:v3=((v2++Bs.fv ((Val.text x2))))) (v4:List UInt8) (h4:v4=((v3++Bs.fw ((Val.kids x2))))) (v5:Int) (h5:v5=(IntKind.i64.wrap ((((v4).length:Int)) - (((x3).length:Int))))) (v6:List UInt8) (h6:v6=((Bs.ji ((v4)) (((((x3).length:Int)))).toNat (Bs.eU (((4:Int))).toNat (((UInt64.ofInt v5))).toNat)))),cond x1
  (ck ((decide ((x3).length+30 * bq.bU ((Val.kids x2))+50≤1000000000000))&&decide ((2 * bq.bU ((Val.kids x2))+1)<n)) (some [(.ag [.pt]),(.sl .bs v1)]))
  (cond (decide (x0=(15:Int)))
  (ck (decide (1≤((4:Int))∧((4:Int))≤8∧(((x3))).length≤1099511627776)) (ck (decide ((v2).length+(((Val.text x2))).length+10≤1099511627776)) (ck ((decide ((v3).length+30 * bq.bU ((Val.kids x2))+50≤1000000000000))&&decide ((2 * bq.bU ((Val.kids x2))+1)<n)) (ck (decide (1≤((4:Int))∧((4:Int))≤8∧0≤((((x3).length:Int)))∧((((x3).length:Int)))+((4:Int))≤((((v4))).length:Int)∧(((v4))).length≤2199023255552)) (some [(.ag [.pt]),(.sl .bs v6)])))))
  (some [(.ag [.pt]),(.sl .bs x3)]))=ρ):bB.j4 n x0 x1 x2 x3=ρ:=((dE _ _ _ _ _ _ _).trans (by kernel_rfl)).trans (K _ rfl _ rfl _ rfl _ rfl _ rfl _ rfl)
theorem bB.eY (n:Nat) (v:Val) (b:List UInt8):bB.F n v b=cond (decide ((Val.kind v)=(1:Int)))
  (bB.j1 n (Val.kind v) (decide ((Val.kind v)=(1:Int))) v b)
  (cond (decide ((Val.kind v)=(9:Int)))
  (bB.j1 n (Val.kind v) (decide ((Val.kind v)=(9:Int))) v b)
  (cond (decide ((Val.kind v)=(17:Int)))
  (bB.j1 n (Val.kind v) (decide ((Val.kind v)=(17:Int))) v b)
  (bB.j1 n (Val.kind v) (decide ((Val.kind v)=(18:Int))) v b))):=by kernel_rfl
def db.E:cI:=dO fI zs [(12,(cA.c,cA.sg)),(26,(ct.c,ct.sg)),(27,(eO.c,eO.sg)),(28,(bC.c,bC.sg)),(29,(dF.c,dF.sg))]
def db.h:Hint := .o
def db.F (v:Val):OT:=dK PG db.E 9 db.sg db.h [(.ag (Val.cells v))]
theorem db.dq (v:Val) {ρ:OT} (K:∀(v1:List Int) (h1:v1=((Tree.fC (bq.of [] v) []).1)) (v2:Int) (h2:v2=((Tree.fC (bq.of [] v) []).2)) (v3:Int) (h3:v3=(((Bs.size (bq.of [] v):Nat):Int))) (v4:List UInt8) (h4:v4=((((([]:List UInt8)))++Bs.fw ((Val.kids v))))),ck (decide (bq.bS (bq.of [] v)≤1099511627776)) (cond (!decide (v2=(0:Int)))
  (some [(.sl .bs ([]:List UInt8)),(.ag [(.i .i64 v2),(.i .i64 0),(.sl .is v1)])])
  (cond (!decide ((Val.kind v)=(3:Int)))
  (some [(.sl .bs ([]:List UInt8)),(.ag [(.i .i64 5),(.i .i64 0),(.sl .is ([]:List Int))])])
  (ck (decide (bq.bS (bq.of [] v)≤1000000000000)) (cond (decide ((16777216:Int)<v3))
  (some [(.sl .bs ([]:List UInt8)),(.ag [(.i .i64 9),(.i .i64 0),(.sl .is ([]:List Int))])])
  (ck (decide ((((([]:List UInt8)))).length+30 * bq.bU ((Val.kids v))+50≤1000000000000)) (ck (decide ((((rK.mk v4)).b).length≤2199023255552)) (some [(.sl .bs ((((rK.mk v4)).b))),(.ag [(.i .i64 0),(.i .i64 0),(.sl .is ([]:List Int))])])))))))=ρ):db.F v=ρ:=Eq.trans (by kernel_rfl) (K _ rfl _ rfl _ rfl _ rfl)
def b9.E:cI:=dO fI zs []
def b9.h:Hint := .o
def b9.F (e:Int) (at_:Int):OT:=dK PG b9.E 44 b9.sg b9.h [(.i .i64 e),(.i .i64 at_)]
theorem b9.eY (e:Int) (at_:Int):b9.F e at_=some [(.ag [(.i .i64 e),(.i .i64 at_),(.sl .is ([]:List Int))])]:=by kernel_rfl
def cj.E:cI:=dO fI zs [(66,(eE.c,eE.sg)),(67,(cY.c,cY.sg))]
def cj.h:Hint := .o
def cj.F (r:bz) (at_:Int):OT:=dK PG cj.E 45 cj.sg cj.h [(.ag (bz.cells r)),(.i .i64 at_)]
theorem cj.dq (r:bz) (at_:Int) {ρ:OT} (K:∀(v1:Int) (h1:v1=(IntKind.i64.wrap (at_+(4:Int)))) (v2:List UInt8) (h2:v2=(List.drop (at_).toNat (List.take (v1).toNat (bz.b r)))) (v3:bz) (h3:v3=((Bs.jt ((bz.mk v2 0)) ((4:Int))))) (v4:UInt64) (h4:v4=((UInt64.ofNat (Bs.gk (Bs.fB ((bz.mk v2 0)) ((4:Int))))))) (v5:Bool) (h5:v5=((Bs.can ((bz.mk v2 0)) ((4:Int))))) (v6:Int) (h6:v6=(IntKind.i32.wrap ((v4).toNat:Int))),ck (en at_ v1 ((bz.b r)).length) (ck (decide ((v2).length≤1099511627776)) (ck (decide (1≤((4:Int))∧((4:Int))≤8∧0≤(((bz.mk v2 0))).at_∧(((bz.mk v2 0))).at_≤((((bz.mk v2 0))).b).length∧((((bz.mk v2 0))).b).length≤1099511627776)) (some [(.i .i64 (IntKind.i64.wrap v6)),(.ag (bz.cells r))])))=ρ):cj.F r at_=ρ:=Eq.trans (by kernel_rfl) (K _ rfl _ rfl _ rfl _ rfl _ rfl _ rfl)
def bL.E:cI:=dO fI zs []
def bL.h:Hint := .s .o (.s (.s .o (.b (.j (sc [3,4]) .o (.s .o (.j (sc [3,9]) .o .o))))) .o)
def bL.F (k:Int):OT:=dK PG bL.E 70 bL.sg bL.h [(.i .i64 k)]
def bL.j1 (x0:Int) (x1:Bool):OT:=fm PG bL.E 70 bL.sg bL.h 21 [(.i .i64 x0),(.b x1)]
def bL.j2 (x0:Int) (x1:Bool):OT:=fm PG bL.E 70 bL.sg bL.h 117 [(.i .i64 x0),(.b x1)]
theorem bL.qD (x0:Int) (x1:Bool):bL.j1 x0 x1=cond x1
  (some [(.i .i64 8)])
  (cond (decide (x0=(16:Int)))
  (bL.j2 x0 (decide (x0=(16:Int))))
  (cond (decide (x0=(2:Int)))
  (bL.j2 x0 (decide (x0=(2:Int))))
  (cond (decide (x0=(13:Int)))
  (bL.j2 x0 (decide (x0=(13:Int))))
  (cond (decide (x0=(14:Int)))
  (bL.j2 x0 (decide (x0=(14:Int))))
  (cond (decide (x0=(12:Int)))
  (bL.j2 x0 (decide (x0=(12:Int))))
  (bL.j2 x0 (decide (x0=(15:Int))))))))):=((dE _ _ _ _ _ _ _).trans (by kernel_rfl))
theorem bL.kG (x0:Int) (x1:Bool):bL.j2 x0 x1=cond x1
  (some [(.i .i64 4)])
  (cond (decide (x0=(8:Int)))
  (some [(.i .i64 1)])
  (cond (decide (x0=(19:Int)))
  (some [(.i .i64 16)])
  (cond (decide (x0=(7:Int)))
  (some [(.i .i64 12)])
  (cond (decide (x0=(5:Int)))
  (some [(.i .i64 5)])
  (some [(.i .i64 0)]))))):=((dE _ _ _ _ _ _ _).trans (by kernel_rfl))
theorem bL.eY (k:Int):bL.F k=cond (decide (k=(1:Int)))
  (bL.j1 k (decide (k=(1:Int))))
  (cond (decide (k=(9:Int)))
  (bL.j1 k (decide (k=(9:Int))))
  (cond (decide (k=(17:Int)))
  (bL.j1 k (decide (k=(17:Int))))
  (bL.j1 k (decide (k=(18:Int)))))):=by kernel_rfl
def dH.E:cI:=dO fI zs [(44,(b9.c,b9.sg)),(47,(cL.c,cL.sg))]
def dH.h:Hint := .o
def dH.F (r:bz) (q:Int) (z:Int):OT:=dK PG dH.E 73 dH.sg dH.h [(.ag (bz.cells r)),(.i .i64 q),(.i .i64 z)]
theorem dH.dq (r:bz) (q:Int) (z:Int) {ρ:OT} (K:∀(v1:List UInt8) (h1:v1=(List.take (z).toNat (bz.b r))) (v2:cD) (h2:v2=((cD.mk (((Bs.ctext v1 q).2.2)) q []))),ck (en 0 z ((bz.b r)).length) (ck (decide ((v1).length≤1099511627776)) (cond (!decide (((Bs.ctext v1 q).2.2)=(0:Int)))
  (some [(.s []),(.i .i64 0),(.ag (cD.cells v2)),(.ag (bz.cells r))])
  (some [(.s ((Bs.ctext v1 q).1)),(.i .i64 ((Bs.ctext v1 q).2.1)),(.ag [(.i .i64 0),(.i .i64 0),(.sl .is ([]:List Int))]),(.ag (bz.cells r))])))=ρ):dH.F r q z=ρ:=Eq.trans (by kernel_rfl) (K _ rfl _ rfl)
def dJ.E:cI:=dO fI zs [(44,(b9.c,b9.sg)),(45,(cj.c,cj.sg)),(69,(cC.c,cC.sg))]
def dJ.h:Hint := .o
def dJ.F (r:bz) (q:Int) (z:Int):OT:=dK PG dJ.E 72 dJ.sg dJ.h [(.ag (bz.cells r)),(.i .i64 q),(.i .i64 z)]
theorem dJ.dq (r:bz) (q:Int) (z:Int) {ρ:OT} (K:∀(v1:Int) (h1:v1=(IntKind.i64.wrap ((IntKind.i64.wrap (z - q)) - (4:Int)))) (v2:Bool) (h2:v2=(cond (decide (((Bs.dy ((r).b) (q).toNat))<(1:Int))) true (decide (v1<((Bs.dy ((r).b) (q).toNat)))))) (v3:Int) (h3:v3=(IntKind.i64.wrap (q+(4:Int)))) (v4:Int) (h4:v4=(IntKind.i64.wrap (v3+((Bs.dy ((r).b) (q).toNat))))) (v5:Int) (h5:v5=(IntKind.i64.wrap (v4 - (1:Int)))) (v6:UInt8) (h6:v6=(List.getD (bz.b (r)) (v5).toNat (0:UInt8))) (v7:List UInt8) (h7:v7=(List.drop (v3).toNat (List.take (v5).toNat (bz.b (r))))),cond (decide ((IntKind.i64.wrap (z - q))<(4:Int)))
  (some [(.s []),(.i .i64 0),(.ag (cD.cells ((cD.mk ((2:Int)) q [])))),(.ag (bz.cells r))])
  (ck (decide (0≤q∧q+4≤(((r).b).length:Int)∧((r).b).length≤1000000000)) (ck (!(!(decide (((Bs.dy ((r).b) (q).toNat))<(1:Int)))) || ((!(decide (((Bs.dy ((r).b) (q).toNat))<(1:Int))))&&(!(decide (((Bs.dy ((r).b) (q).toNat))<(1:Int)))))) (ck (!(!(decide (((Bs.dy ((r).b) (q).toNat))<(1:Int)))) || (!(decide (((Bs.dy ((r).b) (q).toNat))<(1:Int))))) (ck (!(!(decide (((Bs.dy ((r).b) (q).toNat))<(1:Int)))) || ((!(decide (((Bs.dy ((r).b) (q).toNat))<(1:Int))))&&(!(decide (((Bs.dy ((r).b) (q).toNat))<(1:Int)))))) (ck ((decide (((Bs.dy ((r).b) (q).toNat))<(1:Int))) || (!(decide (((Bs.dy ((r).b) (q).toNat))<(1:Int))))) (cond v2
  (some [(.s []),(.i .i64 0),(.ag (cD.cells ((cD.mk ((6:Int)) q [])))),(.ag (bz.cells (r)))])
  (ck (cU v5 ((bz.b (r))).length) (cond (!decide (v6=(0:UInt8)))
  (some [(.s []),(.i .i64 0),(.ag (cD.cells ((cD.mk ((3:Int)) v5 [])))),(.ag (bz.cells (r)))])
  (ck (en v3 v5 ((bz.b (r))).length) (ck (decide (v7.length≤1099511627776)) (cond (!(dt.whole v7))
  (some [(.s []),(.i .i64 0),(.ag (cD.cells ((cD.mk ((4:Int)) v3 [])))),(.ag (bz.cells (r)))])
  (ck (en v3 v5 ((bz.b (r))).length) (some [(.s v7),(.i .i64 v4),(.ag [(.i .i64 0),(.i .i64 0),(.sl .is ([]:List Int))]),(.ag (bz.cells (r)))])))))))))))))=ρ):dJ.F r q z=ρ:=Eq.trans (by kernel_rfl) (K _ rfl _ rfl _ rfl _ rfl _ rfl _ rfl _ rfl)
def bT.E:cI:=dO fI zs [(35,(bZ.c,bZ.sg)),(44,(b9.c,b9.sg)),(45,(cj.c,cj.sg))] [193,264]
def bT.h:Hint := .s .o (.s .o (.s .o (.s .o (.j [(0,.ptr 1000000 0),(9,.ptr 80 0),(11,.no),(12,.no),(13,.no),(80,.cl []),(1000000,.cl [])] .o .o))))
def bT.F (r:bz) (q:Int) (z:Int):OT:=dK PG bT.E 74 bT.sg bT.h [(.ag (bz.cells r)),(.i .i64 q),(.i .i64 z)]
def bT.j1 (x0:Int) (x1:Int) (x2:Int) (x3:cD) (x4:List UInt8) (x5:Int):OT:=fm PG bT.E 74 bT.sg bT.h 31 [.pt,.pt,(.i .i64 x0),(.i .i64 x1),(.i .i64 x2),(.ag (cD.cells x3)),(.ag [(.sl .bs x4),(.i .i64 x5)])]
theorem bT.qC (x0:Int) (x1:Int) (x2:Int) (x3:cD) (x4:List UInt8) (x5:Int) {ρ:OT} (K:∀(v1:List UInt8) (h1:v1=(List.drop (x1).toNat (List.take (x2).toNat x4))),ck (en x1 x2 (x4).length) (ck (fg (v1).length 1) (some [(.i .i64 x0),(.sl .bs (v1)),(.i .i64 x2),(.ag [(.i .i64 0),(.i .i64 0),(.sl .is ([]:List Int))]),(.ag [(.sl .bs x4),(.i .i64 x5)])]))=ρ):bT.j1 x0 x1 x2 x3 x4 x5=ρ:=((dE _ _ _ _ _ _ _).trans (by kernel_rfl)).trans (K _ rfl)
theorem bT.dq (r:bz) (q:Int) (z:Int) {ρ:OT} (K:∀(v1:Int) (h1:v1=(IntKind.i64.wrap ((IntKind.i64.wrap (z - q)) - (5:Int)))) (v2:Bool) (h2:v2=(cond (decide (((Bs.dy ((r).b) (q).toNat))<(0:Int))) true (decide (v1<((Bs.dy ((r).b) (q).toNat)))))) (v3:Int) (h3:v3=(IntKind.i64.wrap (q+(4:Int)))) (v4:UInt8) (h4:v4=(List.getD (bz.b (r)) (v3).toNat (0:UInt8))) (v5:Int) (h5:v5=(IntKind.i64.wrap ((v4).toNat:Int))) (v6:Int) (h6:v6=(IntKind.i64.wrap (q+(5:Int)))) (v7:Int) (h7:v7=(IntKind.i64.wrap (v6+((Bs.dy ((r).b) (q).toNat))))) (v8:Int) (h8:v8=((Bs.dy (((r)).b) (v6).toNat))) (v9:Int) (h9:v9=(IntKind.i64.wrap (((Bs.dy ((r).b) (q).toNat)) - (4:Int)))) (v10:Bool) (kL:v10=(cond (decide (((Bs.dy ((r).b) (q).toNat))<(4:Int))) true (!decide (v8=v9)))) (v11:Int) (uK:v11=(IntKind.i64.wrap (v6+(4:Int)))),ck (decide (0≤q∧q+4≤(((r).b).length:Int)∧((r).b).length≤1000000000)) (ck (!(!(decide (((Bs.dy ((r).b) (q).toNat))<(0:Int)))) || ((!(decide (((Bs.dy ((r).b) (q).toNat))<(0:Int))))&&(!(decide (((Bs.dy ((r).b) (q).toNat))<(0:Int)))))) (ck (!(!(decide (((Bs.dy ((r).b) (q).toNat))<(0:Int)))) || (!(decide (((Bs.dy ((r).b) (q).toNat))<(0:Int))))) (ck (!(!(decide (((Bs.dy ((r).b) (q).toNat))<(0:Int)))) || ((!(decide (((Bs.dy ((r).b) (q).toNat))<(0:Int))))&&(!(decide (((Bs.dy ((r).b) (q).toNat))<(0:Int)))))) (ck ((decide (((Bs.dy ((r).b) (q).toNat))<(0:Int))) || (!(decide (((Bs.dy ((r).b) (q).toNat))<(0:Int))))) (cond v2
  (some [(.i .i64 0),(.sl .bs ([]:List UInt8)),(.i .i64 0),(.ag (cD.cells ((cD.mk ((6:Int)) q [])))),(.ag (bz.cells (r)))])
  (ck (cU v3 ((bz.b (r))).length) (cond (decide (v5=(2:Int)))
  (cond (!(decide (((Bs.dy ((r).b) (q).toNat))<(4:Int))))
  (ck ((!(decide (((Bs.dy ((r).b) (q).toNat))<(4:Int))))&&(((!(decide (((Bs.dy ((r).b) (q).toNat))<(4:Int))))&&(!(decide (((Bs.dy ((r).b) (q).toNat))<(4:Int)))))&&(decide (0≤v6∧v6+4≤((((r)).b).length:Int)∧(((r)).b).length≤1000000000)))) (ck (!(!(decide (((Bs.dy ((r).b) (q).toNat))<(4:Int)))) || (!(decide (((Bs.dy ((r).b) (q).toNat))<(4:Int))))) (ck (!(!(decide (((Bs.dy ((r).b) (q).toNat))<(4:Int)))) || (!(decide (((Bs.dy ((r).b) (q).toNat))<(4:Int))))) (ck ((decide (((Bs.dy ((r).b) (q).toNat))<(4:Int))) || (!(decide (((Bs.dy ((r).b) (q).toNat))<(4:Int))))) (cond v10
  (some [(.i .i64 0),(.sl .bs ([]:List UInt8)),(.i .i64 0),(.ag (cD.cells ((cD.mk ((6:Int)) v6 [])))),(.ag (bz.cells ((r))))])
  (bT.j1 v5 v11 v7 (cD.mk 0 0 []) (bz.b ((r))) (bz.at_ ((r)))))))))
  (ck (!(!(decide (((Bs.dy ((r).b) (q).toNat))<(4:Int)))) || (!(decide (((Bs.dy ((r).b) (q).toNat))<(4:Int))))) (ck (!(!(decide (((Bs.dy ((r).b) (q).toNat))<(4:Int)))) || (false&&(!(decide (((Bs.dy ((r).b) (q).toNat))<(4:Int)))))) (ck ((decide (((Bs.dy ((r).b) (q).toNat))<(4:Int))) || (!(decide (((Bs.dy ((r).b) (q).toNat))<(4:Int))))) (cond v10
  (some [(.i .i64 0),(.sl .bs ([]:List UInt8)),(.i .i64 0),(.ag (cD.cells ((cD.mk ((6:Int)) v6 [])))),(.ag (bz.cells (r)))])
  (bT.j1 v5 v11 v7 (cD.mk 0 0 []) (bz.b (r)) (bz.at_ (r))))))))
  (bT.j1 v5 v6 v7 (cD.mk 0 0 []) (bz.b (r)) (bz.at_ (r))))))))))=ρ):bT.F r q z=ρ:=Eq.trans (by kernel_rfl) (K _ rfl _ rfl _ rfl _ rfl _ rfl _ rfl _ rfl _ rfl _ rfl _ rfl _ rfl)
def de.E (n:Nat):cI:=dO fI zs [(25,(bx.cn n,bx.sg)),(44,(b9.c,b9.sg)),(45,(cj.c,cj.sg)),(72,(dJ.c,dJ.sg))]
def de.h:Hint := .o
def de.F (n:Nat) (r:bz) (q:Int) (z:Int) (d:Int):OT:=dK PG (de.E n) 75 de.sg de.h [(.ag (bz.cells r)),(.i .i64 q),(.i .i64 z),(.i .i64 d)]
theorem de.dq (n:Nat) (r:bz) (q:Int) (z:Int) (d:Int) {ρ:OT} (K:∀(v1:Bool) (h1:v1=(cond (decide (((Bs.dy ((r).b) (q).toNat))<(14:Int))) true (decide ((IntKind.i64.wrap (z - q))<((Bs.dy ((r).b) (q).toNat)))))) (v2:Int) (h2:v2=(IntKind.i64.wrap (q+(4:Int)))) (v3:Int) (h3:v3=(IntKind.i64.wrap (q+((Bs.dy ((r).b) (q).toNat))))) (v4:bG) (h4:v4=((Bs.fR ([],0) (Bs.text (((r)).b) (v2).toNat (v3).toNat)).1)) (v5:Int) (h5:v5=(((Bs.fR ([],0) (Bs.text (((r)).b) (v2).toNat (v3).toNat)).2:Int))) (v6:cD) (h6:v6=((Bs.jM (Bs.text (((r)).b) (v2).toNat (v3).toNat)))) (v7:Int) (h7:v7=(IntKind.i64.wrap (d+(1:Int)))) (v8:List bq) (h8:v8=((Bs.fR ([],0) (Bs.doc ((((r))).at_ - v7).toNat ((((r))).b) (v5).toNat (v3).toNat ((2:Int)))).1)) (v9:Int) (h9:v9=(((Bs.fR ([],0) (Bs.doc ((((r))).at_ - v7).toNat ((((r))).b) (v5).toNat (v3).toNat ((2:Int)))).2:Int))) (v10:cD) (kL:v10=((Bs.jM (Bs.doc ((((r))).at_ - v7).toNat ((((r))).b) (v5).toNat (v3).toNat ((2:Int)))))),ck (decide (0≤q∧q+4≤(((r).b).length:Int)∧((r).b).length≤1000000000)) (ck (!(!(decide (((Bs.dy ((r).b) (q).toNat))<(14:Int)))) || ((!(decide (((Bs.dy ((r).b) (q).toNat))<(14:Int))))&&(!(decide (((Bs.dy ((r).b) (q).toNat))<(14:Int)))))) (ck (!(!(decide (((Bs.dy ((r).b) (q).toNat))<(14:Int)))) || ((!(decide (((Bs.dy ((r).b) (q).toNat))<(14:Int))))&&(!(decide (((Bs.dy ((r).b) (q).toNat))<(14:Int)))))) (ck ((decide (((Bs.dy ((r).b) (q).toNat))<(14:Int))) || (!(decide (((Bs.dy ((r).b) (q).toNat))<(14:Int))))) (cond v1
  (some [(.s []),(.sl .fl ([]:List bq)),(.i .i64 0),(.ag (cD.cells ((cD.mk ((6:Int)) q [])))),(.ag (bz.cells (r)))])
  (ck (decide (0≤v2∧v2≤v3∧v3≤((((r)).b).length:Int)∧(((r)).b).length≤1000000000)) (cond (!decide ((cD.err v6)=(0:Int)))
  (some [(.s []),(.sl .fl ([]:List bq)),(.i .i64 0),(.ag (cD.cells v6)),(.ag (bz.cells ((r))))])
  (ck ((decide (0≤v5∧v5≤v3∧v3≤(((((r))).b).length:Int)∧((((r))).b).length≤1000000000∧0≤v7∧v7≤1000∧(((r))).at_≤1000))&&decide ((3 * ((((r))).at_ - v7).toNat+2)<n)) (some [(.s v4),(.sl .fl v8),(.i .i64 v9),(.ag (cD.cells v10)),(.ag (bz.cells (((r)))))]))))))))=ρ):de.F n r q z d=ρ:=Eq.trans (by kernel_rfl) (K _ rfl _ rfl _ rfl _ rfl _ rfl _ rfl _ rfl _ rfl _ rfl _ rfl)
def bu.E (n:Nat):cI:=dO fI zs [(25,(bx.cn n,bx.sg)),(35,(bZ.c,bZ.sg)),(44,(b9.c,b9.sg)),(66,(eE.c,eE.sg)),(67,(cY.c,cY.sg)),(70,(bL.c,bL.sg)),(71,(eg.c,eg.sg)),(72,(dJ.c,dJ.sg)),(73,(dH.c,dH.sg)),(74,(bT.c,bT.sg)),(75,(de.cn n,de.sg))]
def bu.h:Hint := .s .o (.s .o (.s .o (.s .o (.s .o (.s .o (.j [(10,.ptr 219 0),(11,.no),(12,.ptr 221 0),(219,.cl []),(221,.cl []),(1000000,.cl [])] (.s .o (.b (.j [(0,.ptr 1000000 0),(1,.no),(2,.no),(3,.no),(4,.no),(10,.ptr 219 0),(11,.no),(12,.ptr 221 0),(13,.no),(14,.ptr 245 0),(40,.no),(41,.no),(219,.cl []),(221,.cl []),(245,.cl []),(1000000,.cl [])] .o (.s .o (.s .o (.s .o (.s .o (.s .o (.j [(0,.ptr 1000000 0),(2,.no),(3,.no),(4,.no),(10,.ptr 219 0),(11,.no),(12,.ptr 221 0),(40,.no),(87,.no),(219,.cl []),(221,.cl []),(1000000,.cl [])] .o (.s .o (.s .o (.s (.s .o (.j [(0,.ptr 1000000 0),(10,.ptr 219 0),(11,.no),(12,.ptr 221 0),(219,.cl []),(221,.cl []),(1000000,.cl [])] .o .o)) (.s .o (.s .o (.s .o (.s .o (.j [(0,.ptr 1000000 0),(2,.no),(3,.no),(4,.no),(10,.ptr 219 0),(11,.no),(12,.ptr 221 0),(40,.no),(173,.no),(219,.cl []),(221,.cl []),(1000000,.cl [])] .o .o))))))))))))))))) .o))))))
def bu.F (n:Nat) (r:bz) (k:Int) (q:Int) (z:Int) (d:Int):OT:=dK PG (bu.E n) 48 bu.sg bu.h [(.ag (bz.cells r)),(.i .i64 k),(.i .i64 q),(.i .i64 z),(.i .i64 d)]
def bu.j1 (n:Nat) (x0:Int) (x1:Int) (x2:Int) (x3:Int) (x4:Int) (x5:Int) (x6:Int) (x7:Bool) (x8:Val) (x9:cD) (l5:List UInt8) (l0:Int) (xG:List UInt8) (xF:Int):OT:=fm PG (bu.E n) 48 bu.sg bu.h 703 [.pt,(.i .i64 x0),(.i .i64 x1),(.i .i64 x2),(.i .i64 x3),.pt,(.i .i64 x4),.pt,(.i .i64 x5),.pt,(.i .i64 x6),(.b x7),(.ag (Val.cells x8)),(.ag (cD.cells x9)),(.ag [(.sl .bs l5),(.i .i64 l0)]),(.ag [(.sl .bs xG),(.i .i64 xF)])]
def bu.j2 (n:Nat) (x0:Int) (x1:Val) (x2:cD) (x3:List UInt8) (x4:Int):OT:=fm PG (bu.E n) 48 bu.sg bu.h 127 [.pt,(.i .i64 x0),.pt,(.ag (Val.cells x1)),(.ag (cD.cells x2)),(.ag [(.sl .bs x3),(.i .i64 x4)])]
def bu.j3 (n:Nat) (x0:Int) (x1:Int) (x2:Int) (x3:Int) (x4:Int) (x5:Bool) (x6:Val) (x7:cD) (x8:List UInt8) (x9:Int):OT:=fm PG (bu.E n) 48 bu.sg bu.h 65215 [.pt,(.i .i64 x0),(.i .i64 x1),(.i .i64 x2),.pt,(.i .i64 x3),.pt,(.i .i64 x4),(.b x5),(.ag (Val.cells x6)),(.ag (cD.cells x7)),(.ag [(.sl .bs x8),(.i .i64 x9)])]
def bu.j4 (n:Nat) (x0:Int) (x1:Val) (x2:cD) (x3:List UInt8) (x4:Int):OT:=fm PG (bu.E n) 48 bu.sg bu.h 1834687 [.pt,.pt,(.i .i64 x0),.pt,(.ag (Val.cells x1)),(.ag (cD.cells x2)),(.ag [(.sl .bs x3),(.i .i64 x4)])]
def bu.j5 (n:Nat) (x0:Int) (x1:Int) (x2:Int) (x3:Int) (x4:Int) (x5:Bool) (x6:Val) (x7:cD) (x8:List UInt8) (x9:Int):OT:=fm PG (bu.E n) 48 bu.sg bu.h 16776895 [.pt,(.i .i64 x0),(.i .i64 x1),(.i .i64 x2),.pt,(.i .i64 x3),.pt,(.i .i64 x4),(.b x5),(.ag (Val.cells x6)),(.ag (cD.cells x7)),(.ag [(.sl .bs x8),(.i .i64 x9)])]
theorem bu.qC (n:Nat) (x0:Int) (x1:Int) (x2:Int) (x3:Int) (x4:Int) (x5:Int) (x6:Int) (x7:Bool) (x8:Val) (x9:cD) (l5:List UInt8) (l0:Int) (xG:List UInt8) (xF:Int) {ρ:OT} (K:∀(v1:bz) (h1:v1=((Bs.jt (bz.mk l5 l0) x5))) (v2:UInt64) (h2:v2=((UInt64.ofNat (Bs.gk (Bs.fB (bz.mk l5 l0) x5))))) (v3:Bool) (h3:v3=((Bs.can (bz.mk l5 l0) x5))) (v4:Bool) (h4:v4=(cond (decide (x0=(8:Int))) (decide ((1:UInt64)<v2)) false)) (v5:bz) (h5:v5=((Bs.jt (bz.mk l5 l0) ((8:Int))))) (v6:UInt64) (h6:v6=((UInt64.ofNat (Bs.gk (Bs.fB (bz.mk l5 l0) ((8:Int))))))) (v7:Bool) (h7:v7=((Bs.can (bz.mk l5 l0) ((8:Int))))) (v8:UInt64) (h8:v8=((UInt64.ofNat (Bs.gk (Bs.fB v5 ((8:Int))))))) (v9:bz) (h9:v9=((Bs.pa (bz.mk l5 l0) x5))) (v10:List UInt8) (kL:v10=((Bs.p8 (bz.mk l5 l0) x5))) (v11:Bool) (uK:v11=((Bs.re (bz.mk l5 l0) x5))),cond x7
  (ck (decide (1≤x5∧x5≤8∧0≤((bz.mk l5 l0)).at_∧((bz.mk l5 l0)).at_≤(((bz.mk l5 l0)).b).length∧(((bz.mk l5 l0)).b).length≤1099511627776)) (ck (!(decide (x0=(8:Int))) || (decide (x0=(8:Int)))) (ck (!(decide (x0=(8:Int))) || (decide (x0=(8:Int)))) (ck (!(decide (x0=(8:Int))) || (decide (x0=(8:Int)))) (cond v4
  (bu.j2 n x4 (Val.mk (Val.kind x8) v2 (Val.high x8) (Val.low x8) (Val.text x8) (Val.more x8) (Val.sub x8) (Val.bytes x8) (Val.kids x8)) ((cD.mk ((3:Int)) x1 [])) xG xF)
  (bu.j2 n x4 (Val.mk (Val.kind x8) v2 (Val.high x8) (Val.low x8) (Val.text x8) (Val.more x8) (Val.sub x8) (Val.bytes x8) (Val.kids x8)) x9 xG xF))))))
  (cond (decide (x6=(19:Int)))
  (ck (decide (1≤((8:Int))∧((8:Int))≤8∧0≤((bz.mk l5 l0)).at_∧((bz.mk l5 l0)).at_≤(((bz.mk l5 l0)).b).length∧(((bz.mk l5 l0)).b).length≤1099511627776)) (ck (decide (1≤((8:Int))∧((8:Int))≤8∧0≤(v5).at_∧(v5).at_≤((v5).b).length∧((v5).b).length≤1099511627776)) (bu.j2 n x4 (Val.mk (Val.kind x8) (Val.bits x8) v8 v6 (Val.text x8) (Val.more x8) (Val.sub x8) (Val.bytes x8) (Val.kids x8)) x9 xG xF)))
  (cond (decide (x6=(7:Int)))
  (ck (decide (0≤x5∧0≤((bz.mk l5 l0)).at_∧((bz.mk l5 l0)).at_≤(((bz.mk l5 l0)).b).length∧(((bz.mk l5 l0)).b).length≤1099511627776)) (bu.j2 n x4 (Val.mk (Val.kind x8) (Val.bits x8) (Val.high x8) (Val.low x8) (Val.text x8) (Val.more x8) (Val.sub x8) v10 (Val.kids x8)) x9 xG xF))
  (cond (decide (x6=(2:Int)))
  (bu.j3 n x1 x2 x3 x4 x6 (decide (x6=(2:Int))) x8 x9 xG xF)
  (cond (decide (x6=(13:Int)))
  (bu.j3 n x1 x2 x3 x4 x6 (decide (x6=(13:Int))) x8 x9 xG xF)
  (bu.j3 n x1 x2 x3 x4 x6 (decide (x6=(14:Int))) x8 x9 xG xF)))))=ρ):bu.j1 n x0 x1 x2 x3 x4 x5 x6 x7 x8 x9 l5 l0 xG xF=ρ:=((dE _ _ _ _ _ _ _).trans (by kernel_rfl)).trans (K _ rfl _ rfl _ rfl _ rfl _ rfl _ rfl _ rfl _ rfl _ rfl _ rfl _ rfl)
theorem bu.kG (n:Nat) (x0:Int) (x1:Val) (x2:cD) (x3:List UInt8) (x4:Int):bu.j2 n x0 x1 x2 x3 x4=cond (!decide ((cD.err x2)=(0:Int)))
  (some [(.ag [(.i .i64 0),(.u64 0),(.u64 0),(.u64 0),(.s []),(.s []),(.i .i64 0),(.sl .bs ([]:List UInt8)),(.sl .fl ([]:List bq))]),(.i .i64 0),(.ag (cD.cells x2)),(.ag [(.sl .bs x3),(.i .i64 x4)])])
  (some [(.ag (Val.cells x1)),(.i .i64 x0),(.ag [(.i .i64 0),(.i .i64 0),(.sl .is ([]:List Int))]),(.ag [(.sl .bs x3),(.i .i64 x4)])]):=((dE _ _ _ _ _ _ _).trans (by kernel_rfl))
theorem bu.qB (n:Nat) (x0:Int) (x1:Int) (x2:Int) (x3:Int) (x4:Int) (x5:Bool) (x6:Val) (x7:cD) (x8:List UInt8) (x9:Int) {ρ:OT} (K:∀(v1:bG) (h1:v1=((Bs.fR ([],0) (Bs.text (((bz.mk x8 x9)).b) (x0).toNat (x1).toNat)).1)) (v2:Int) (h2:v2=(((Bs.fR ([],0) (Bs.text (((bz.mk x8 x9)).b) (x0).toNat (x1).toNat)).2:Int))) (v3:cD) (h3:v3=((Bs.jM (Bs.text (((bz.mk x8 x9)).b) (x0).toNat (x1).toNat)))) (v4:Bool) (h4:v4=(cond (decide ((cD.err v3)=(0:Int))) (decide ((IntKind.i64.wrap (x1 - v2))<(12:Int))) false)) (v5:bG) (h5:v5=((Bs.fR ([],0) (Bs.ended (((bz.mk x8 x9)).b) (x0).toNat (x1).toNat)).1)) (v6:Int) (h6:v6=(((Bs.fR ([],0) (Bs.ended (((bz.mk x8 x9)).b) (x0).toNat (x1).toNat)).2:Int))) (v7:cD) (h7:v7=((Bs.jM (Bs.ended (((bz.mk x8 x9)).b) (x0).toNat (x1).toNat)))) (v8:bG) (h8:v8=((Bs.fR ([],0) (Bs.ended ((((bz.mk x8 x9))).b) (v6).toNat (x1).toNat)).1)) (v9:Int) (h9:v9=(((Bs.fR ([],0) (Bs.ended ((((bz.mk x8 x9))).b) (v6).toNat (x1).toNat)).2:Int))) (v10:cD) (kL:v10=((Bs.jM (Bs.ended ((((bz.mk x8 x9))).b) (v6).toNat (x1).toNat)))) (v11:Int) (uK:v11=((Bs.fR (0,[],0) (Bs.binary (((bz.mk x8 x9)).b) (x0).toNat (x1).toNat)).1)) (v12:List UInt8) (Dn:v12=((Bs.fR (0,[],0) (Bs.binary (((bz.mk x8 x9)).b) (x0).toNat (x1).toNat)).2.1)) (lR:Int) (Ei:lR=(((Bs.fR (0,[],0) (Bs.binary (((bz.mk x8 x9)).b) (x0).toNat (x1).toNat)).2.2:Int))) (oQ:cD) (Eh:oQ=((Bs.jM (Bs.binary (((bz.mk x8 x9)).b) (x0).toNat (x1).toNat)))),cond x5
  (ck (decide (0≤x0∧x0≤x1∧x1≤((((bz.mk x8 x9)).b).length:Int)∧(((bz.mk x8 x9)).b).length≤1000000000)) (bu.j2 n v2 (Val.mk (Val.kind x6) (Val.bits x6) (Val.high x6) (Val.low x6) v1 (Val.more x6) (Val.sub x6) (Val.bytes x6) (Val.kids x6)) v3 (bz.b ((bz.mk x8 x9))) (bz.at_ ((bz.mk x8 x9)))))
  (cond (decide (x4=(12:Int)))
  (ck (decide (0≤x0∧x0≤x1∧x1≤((((bz.mk x8 x9)).b).length:Int)∧(((bz.mk x8 x9)).b).length≤1000000000)) (ck (!(decide ((cD.err v3)=(0:Int))) || ((decide ((cD.err v3)=(0:Int)))&&(decide ((cD.err v3)=(0:Int))))) (ck (!(decide ((cD.err v3)=(0:Int))) || (decide ((cD.err v3)=(0:Int)))) (ck (!(decide ((cD.err v3)=(0:Int))) || (decide ((cD.err v3)=(0:Int)))) (cond v4
  (bu.j4 n v2 (Val.mk (Val.kind x6) (Val.bits x6) (Val.high x6) (Val.low x6) v1 (Val.more x6) (Val.sub x6) (Val.bytes x6) (Val.kids x6)) ((cD.mk ((2:Int)) v2 [])) (bz.b ((bz.mk x8 x9))) (bz.at_ ((bz.mk x8 x9))))
  (bu.j4 n v2 (Val.mk (Val.kind x6) (Val.bits x6) (Val.high x6) (Val.low x6) v1 (Val.more x6) (Val.sub x6) (Val.bytes x6) (Val.kids x6)) v3 (bz.b ((bz.mk x8 x9))) (bz.at_ ((bz.mk x8 x9)))))))))
  (cond (decide (x4=(11:Int)))
  (ck (decide (0≤x0∧x0≤x1∧x1≤((((bz.mk x8 x9)).b).length:Int)∧(((bz.mk x8 x9)).b).length≤1000000000)) (cond (decide ((cD.err v7)=(0:Int)))
  (ck (decide (0≤v6∧v6≤x1∧x1≤(((((bz.mk x8 x9))).b).length:Int)∧((((bz.mk x8 x9))).b).length≤1000000000)) (bu.j2 n v9 (Val.mk (Val.kind x6) (Val.bits x6) (Val.high x6) (Val.low x6) v5 v8 (Val.sub x6) (Val.bytes x6) (Val.kids x6)) v10 (bz.b (((bz.mk x8 x9)))) (bz.at_ (((bz.mk x8 x9))))))
  (bu.j2 n v6 (Val.mk (Val.kind x6) (Val.bits x6) (Val.high x6) (Val.low x6) v5 (Val.more x6) (Val.sub x6) (Val.bytes x6) (Val.kids x6)) v7 (bz.b ((bz.mk x8 x9))) (bz.at_ ((bz.mk x8 x9))))))
  (cond (decide (x4=(5:Int)))
  (ck (decide (0≤x0∧x0+5≤x1∧x1≤((((bz.mk x8 x9)).b).length:Int)∧(((bz.mk x8 x9)).b).length≤1000000000)) (bu.j2 n lR (Val.mk (Val.kind x6) (Val.bits x6) (Val.high x6) (Val.low x6) (Val.text x6) (Val.more x6) v11 v12 (Val.kids x6)) oQ (bz.b ((bz.mk x8 x9))) (bz.at_ ((bz.mk x8 x9)))))
  (cond (decide (x4=(3:Int)))
  (bu.j5 n x0 x1 x2 x3 x4 (decide (x4=(3:Int))) x6 x7 x8 x9)
  (bu.j5 n x0 x1 x2 x3 x4 (decide (x4=(4:Int))) x6 x7 x8 x9)))))=ρ):bu.j3 n x0 x1 x2 x3 x4 x5 x6 x7 x8 x9=ρ:=((dE _ _ _ _ _ _ _).trans (by kernel_rfl)).trans (K _ rfl _ rfl _ rfl _ rfl _ rfl _ rfl _ rfl _ rfl _ rfl _ rfl _ rfl _ rfl _ rfl _ rfl)
theorem bu.s8 (n:Nat) (x0:Int) (x1:Val) (x2:cD) (x3:List UInt8) (x4:Int) {ρ:OT} (K:∀(v1:Int) (h1:v1=(IntKind.i64.wrap (x0+(12:Int)))) (v2:List UInt8) (h2:v2=(List.drop (x0).toNat (List.take (v1).toNat x3))),cond (decide ((cD.err x2)=(0:Int)))
  (ck (en x0 v1 (x3).length) (ck (fg (v2).length 1) (bu.j2 n v1 (Val.mk (Val.kind x1) (Val.bits x1) (Val.high x1) (Val.low x1) (Val.text x1) (Val.more x1) (Val.sub x1) (v2) (Val.kids x1)) x2 x3 x4)))
  (bu.j2 n x0 x1 x2 x3 x4)=ρ):bu.j4 n x0 x1 x2 x3 x4=ρ:=((dE _ _ _ _ _ _ _).trans (by kernel_rfl)).trans (K _ rfl _ rfl)
theorem bu.CN (n:Nat) (x0:Int) (x1:Int) (x2:Int) (x3:Int) (x4:Int) (x5:Bool) (x6:Val) (x7:cD) (x8:List UInt8) (x9:Int) {ρ:OT} (K:∀(v1:Int) (h1:v1=(IntKind.i64.wrap (x2+(1:Int)))) (v2:List bq) (h2:v2=((Bs.fR ([],0) (Bs.doc (((bz.mk x8 x9)).at_ - v1).toNat (((bz.mk x8 x9)).b) (x0).toNat (x1).toNat ((0:Int)))).1)) (v3:Int) (h3:v3=(((Bs.fR ([],0) (Bs.doc (((bz.mk x8 x9)).at_ - v1).toNat (((bz.mk x8 x9)).b) (x0).toNat (x1).toNat ((0:Int)))).2:Int))) (v4:cD) (h4:v4=((Bs.jM (Bs.doc (((bz.mk x8 x9)).at_ - v1).toNat (((bz.mk x8 x9)).b) (x0).toNat (x1).toNat ((0:Int)))))) (v5:bG) (h5:v5=((Bs.ei (Bs.doc (((bz.mk x8 x9)).at_ - (x2+1)).toNat) (((bz.mk x8 x9)).b) (x0).toNat (x1).toNat).1)) (v6:List bq) (h6:v6=((Bs.fR ([],0) (Bs.ei (Bs.doc (((bz.mk x8 x9)).at_ - (x2+1)).toNat) (((bz.mk x8 x9)).b) (x0).toNat (x1).toNat).2).1)) (v7:Int) (h7:v7=(((Bs.fR ([],0) (Bs.ei (Bs.doc (((bz.mk x8 x9)).at_ - (x2+1)).toNat) (((bz.mk x8 x9)).b) (x0).toNat (x1).toNat).2).2:Int))) (v8:cD) (h8:v8=((Bs.jM (Bs.ei (Bs.doc (((bz.mk x8 x9)).at_ - (x2+1)).toNat) (((bz.mk x8 x9)).b) (x0).toNat (x1).toNat).2))),cond x5
  (ck ((decide (0≤x0∧x0≤x1∧x1≤((((bz.mk x8 x9)).b).length:Int)∧(((bz.mk x8 x9)).b).length≤1000000000∧0≤v1∧v1≤1000∧((bz.mk x8 x9)).at_≤1000))&&decide ((3 * (((bz.mk x8 x9)).at_ - v1).toNat+2)<n)) (bu.j2 n v3 (Val.mk (Val.kind x6) (Val.bits x6) (Val.high x6) (Val.low x6) (Val.text x6) (Val.more x6) (Val.sub x6) (Val.bytes x6) v2) v4 (bz.b ((bz.mk x8 x9))) (bz.at_ ((bz.mk x8 x9)))))
  (cond (decide (x4=(15:Int)))
  (ck ((decide (0≤x0∧x0+4≤x1∧x1≤((((bz.mk x8 x9)).b).length:Int)∧(((bz.mk x8 x9)).b).length≤1000000000∧0≤x2∧x2≤1000∧((bz.mk x8 x9)).at_≤1000∧x2<((bz.mk x8 x9)).at_))&&decide ((3 * (((bz.mk x8 x9)).at_ - x2).toNat)<n)) (bu.j2 n v7 (Val.mk (Val.kind x6) (Val.bits x6) (Val.high x6) (Val.low x6) v5 (Val.more x6) (Val.sub x6) (Val.bytes x6) v6) v8 (bz.b ((bz.mk x8 x9))) (bz.at_ ((bz.mk x8 x9)))))
  (bu.j2 n x3 x6 x7 x8 x9))=ρ):bu.j5 n x0 x1 x2 x3 x4 x5 x6 x7 x8 x9=ρ:=((dE _ _ _ _ _ _ _).trans (by kernel_rfl)).trans (K _ rfl _ rfl _ rfl _ rfl _ rfl _ rfl _ rfl _ rfl)
theorem bu.dq (n:Nat) (r:bz) (k:Int) (q:Int) (z:Int) (d:Int) {ρ:OT} (K:∀(v1:Int) (h1:v1=(IntKind.i64.wrap (q+(((Bs.fixed k:Nat):Int))))) (v2:List UInt8) (h2:v2=(List.drop (q).toNat (List.take (v1).toNat (bz.b r)))),cond (decide ((IntKind.i64.wrap (z - q))<(((Bs.fixed k:Nat):Int))))
  (some [(.ag [(.i .i64 0),(.u64 0),(.u64 0),(.u64 0),(.s []),(.s []),(.i .i64 0),(.sl .bs ([]:List UInt8)),(.sl .fl ([]:List bq))]),(.i .i64 0),(.ag (cD.cells ((cD.mk ((2:Int)) q [])))),(.ag (bz.cells r))])
  (ck (en q v1 ((bz.b r)).length) (ck (decide ((v2).length≤1099511627776)) (cond (decide (k=(1:Int)))
  (bu.j1 n k q z d v1 (((Bs.fixed k:Nat):Int)) k (decide (k=(1:Int))) (Val.mk k 0 0 0 [] [] 0 [] []) (cD.mk 0 0 []) (bz.b ((bz.mk v2 0))) (bz.at_ ((bz.mk v2 0))) (bz.b r) (bz.at_ r))
  (cond (decide (k=(9:Int)))
  (bu.j1 n k q z d v1 (((Bs.fixed k:Nat):Int)) k (decide (k=(9:Int))) (Val.mk k 0 0 0 [] [] 0 [] []) (cD.mk 0 0 []) (bz.b ((bz.mk v2 0))) (bz.at_ ((bz.mk v2 0))) (bz.b r) (bz.at_ r))
  (cond (decide (k=(17:Int)))
  (bu.j1 n k q z d v1 (((Bs.fixed k:Nat):Int)) k (decide (k=(17:Int))) (Val.mk k 0 0 0 [] [] 0 [] []) (cD.mk 0 0 []) (bz.b ((bz.mk v2 0))) (bz.at_ ((bz.mk v2 0))) (bz.b r) (bz.at_ r))
  (cond (decide (k=(18:Int)))
  (bu.j1 n k q z d v1 (((Bs.fixed k:Nat):Int)) k (decide (k=(18:Int))) (Val.mk k 0 0 0 [] [] 0 [] []) (cD.mk 0 0 []) (bz.b ((bz.mk v2 0))) (bz.at_ ((bz.mk v2 0))) (bz.b r) (bz.at_ r))
  (cond (decide (k=(16:Int)))
  (bu.j1 n k q z d v1 (((Bs.fixed k:Nat):Int)) k (decide (k=(16:Int))) (Val.mk k 0 0 0 [] [] 0 [] []) (cD.mk 0 0 []) (bz.b ((bz.mk v2 0))) (bz.at_ ((bz.mk v2 0))) (bz.b r) (bz.at_ r))
  (bu.j1 n k q z d v1 (((Bs.fixed k:Nat):Int)) k (decide (k=(8:Int))) (Val.mk k 0 0 0 [] [] 0 [] []) (cD.mk 0 0 []) (bz.b ((bz.mk v2 0))) (bz.at_ ((bz.mk v2 0))) (bz.b r) (bz.at_ r)))))))))=ρ):bu.F n r k q z d=ρ:=Eq.trans (by kernel_rfl) (K _ rfl _ rfl)
def bx.E (n:Nat):cI:=dO fI zs [(44,(b9.c,b9.sg)),(45,(cj.c,cj.sg)),(46,(cM.c,cM.sg)),(47,(cL.c,cL.sg)),(48,(bu.cn n,bu.sg))]
def bx.h:Hint := .s .o (.sc [(0,[(0,.ptr 1000000 0),(10,.cT 800000),(11,.no),(12,.ptr 165 0),(13,.no),(165,.cl []),(1000000,.cl []),(800000,.pv)]),(1,[(0,.ptr 1000000 0),(3,.no),(10,.cT 800000),(11,.no),(12,.ptr 165 0),(13,.no),(17,.ptr 170 0),(165,.cl []),(170,.cl []),(1000000,.cl []),(800000,.pv)])] .o)
def bx.F (n:Nat) (r:bz) (p:Int) (z:Int) (d:Int) (fO:Int):OT:=dK PG (bx.E n) 25 bx.sg bx.h [(.ag (bz.cells r)),(.i .i64 p),(.i .i64 z),(.i .i64 d),(.i .i64 fO)]
def bx.g1 (n:Nat) (x0:Int) (x1:Int) (x2:cD) (x3:List UInt8) (x4:Int) (x5:List bq):OT:=ll PG (bx.E n) 25 bx.sg bx.h 3 0 [.pt,.pt,(.i .i64 x0),.pt,(.i .i64 x1),(.ag (cD.cells x2)),(.ag [(.sl .bs x3),(.i .i64 x4)]),(.sl .fl x5)]
def bx.g2 (n:Nat) (x0:Int) (x1:Int) (x2:Int) (x3:cD) (x4:Val) (x5:List UInt8) (x6:Int) (x7:List bq):OT:=ll PG (bx.E n) 25 bx.sg bx.h 3 1 [.pt,(.i .i64 x0),.pt,(.i .i64 x1),.pt,(.i .i64 x2),.pt,(.ag (cD.cells x3)),(.ag (Val.cells x4)),(.ag [(.sl .bs x5),(.i .i64 x6)]),(.sl .fl x7)]
theorem bx.Ds (n:Nat) (x0:Int) (x1:Int) (x2:cD) (x3:List UInt8) (x4:Int) (x5:List bq) {ρ:OT} (K:∀(v1:UInt8) (h1:v1=(List.getD x3 (x1).toNat (0:UInt8))),ck (cU x1 (x3).length) (cond (!decide (v1=(0:UInt8)))
  (some [(.sl .fl ([]:List bq)),(.i .i64 (0:Int)),(.ag (cD.cells ((cD.mk ((3:Int)) x1 [])))),(.ag [(.sl .bs x3),(.i .i64 x4)])])
  (some [(.sl .fl x5),(.i .i64 x0),(.ag [(.i .i64 (0:Int)),(.i .i64 (0:Int)),(.sl .is ([]:List Int))]),(.ag [(.sl .bs x3),(.i .i64 x4)])]))=ρ):bx.g1 n x0 x1 x2 x3 x4 x5=ρ:=((jK _ _ _ _ _ _ _ _).trans (by kernel_rfl)).trans (K _ rfl)
theorem bx.zQ (n:Nat) (x0:Int) (x1:Int) (x2:Int) (x3:cD) (x4:Val) (x5:List UInt8) (x6:Int) (x7:List bq) {ρ:OT} (K:∀(v1:Int) (h1:v1=(IntKind.i64.wrap (x1 - (1:Int)))) (v2:UInt8) (h2:v2=(List.getD x5 (x2).toNat (0:UInt8))) (v3:Int) (h3:v3=(IntKind.i64.wrap ((v2).toNat:Int))) (v4:Int) (h4:v4=(IntKind.i64.wrap (x2+(1:Int)))) (v5:bG) (h5:v5=((Bs.ctext ((List.take (v1).toNat x5)) v4).1)) (v6:Int) (h6:v6=((Bs.ctext ((List.take (v1).toNat x5)) v4).2.1)) (v7:Int) (h7:v7=((Bs.ctext ((List.take (v1).toNat x5)) v4).2.2)) (v8:Val) (h8:v8=((Bs.fR (Bs.cX 0,0) (Bs.eI (Bs.doc (((bz.mk x5 x6)).at_ - (x0+1)).toNat) (((bz.mk x5 x6)).b) v3 (v6).toNat (v1).toNat)).1)) (v9:Int) (h9:v9=(((Bs.fR (Bs.cX 0,0) (Bs.eI (Bs.doc (((bz.mk x5 x6)).at_ - (x0+1)).toNat) (((bz.mk x5 x6)).b) v3 (v6).toNat (v1).toNat)).2:Int))) (v10:cD) (kL:v10=((Bs.jM (Bs.eI (Bs.doc (((bz.mk x5 x6)).at_ - (x0+1)).toNat) (((bz.mk x5 x6)).b) v3 (v6).toNat (v1).toNat)))) (v11:List bq) (uK:v11=([(bq.mk v5 (Val.kind v8) (Val.bits v8) (Val.high v8) (Val.low v8) (Val.text v8) (Val.more v8) (Val.sub v8) (Val.bytes v8) (Val.kids v8))]:List bq)),cond (decide (x2=v1))
  (bx.g1 n x1 x2 x3 x5 x6 x7)
  (ck (cU x2 (x5).length) (cond (decide (v2=(0:UInt8)))
  (some [(.sl .fl ([]:List bq)),(.i .i64 (0:Int)),(.ag (cD.cells ((cD.mk ((3:Int)) x2 [])))),(.ag [(.sl .bs x5),(.i .i64 x6)])])
  (ck (cU x2 (x5).length) (cond (decide ((Tree.name v3)=([]:bG)))
  (some [(.sl .fl ([]:List bq)),(.i .i64 (0:Int)),(.ag (cD.cells ((cD.mk ((5:Int)) x2 [])))),(.ag [(.sl .bs x5),(.i .i64 x6)])])
  (ck (en 0 v1 (x5).length) (ck (decide ((((List.take (v1).toNat x5))).length≤1099511627776)) (cond (!decide (v7=(0:Int)))
  (some [(.sl .fl ([]:List bq)),(.i .i64 (0:Int)),(.ag (cD.cells ((cD.mk v7 v4 [])))),(.ag [(.sl .bs x5),(.i .i64 x6)])])
  (ck ((decide (0≤v6∧v6≤v1∧v1≤((((bz.mk x5 x6)).b).length:Int)∧(((bz.mk x5 x6)).b).length≤1000000000∧0≤x0∧x0≤1000∧((bz.mk x5 x6)).at_≤1000∧x0<((bz.mk x5 x6)).at_))&&decide ((3 * (((bz.mk x5 x6)).at_ - x0).toNat+1)<n)) (cond (!decide ((cD.err v10)=(0:Int)))
  (some [(.sl .fl ([]:List bq)),(.i .i64 (0:Int)),(.ag (cD.cells v10)),(.ag (bz.cells ((bz.mk x5 x6))))])
  (ck (fg ((x7).length+(v11).length) 136) (bx.g2 n x0 x1 v9 v10 v8 (bz.b ((bz.mk x5 x6))) (bz.at_ ((bz.mk x5 x6))) (x7++v11))))))))))))=ρ):bx.g2 n x0 x1 x2 x3 x4 x5 x6 x7=ρ:=((jK _ _ _ _ _ _ _ _).trans (by kernel_rfl)).trans (K _ rfl _ rfl _ rfl _ rfl _ rfl _ rfl _ rfl _ rfl _ rfl _ rfl _ rfl)
theorem bx.dq (n:Nat) (r:bz) (p:Int) (z:Int) (d:Int) (fO:Int) {ρ:OT} (K:∀(v1:Int) (h1:v1=(IntKind.i64.wrap (p+((Bs.dy ((r).b) (p).toNat))))) (v2:Int) (h2:v2=(IntKind.i64.wrap (p+(4:Int)))) (v3:Bool) (h3:v3=(cond (decide (((Bs.dy ((r).b) (p).toNat))<(5:Int))) true (decide ((IntKind.i64.wrap (z - p))<((Bs.dy ((r).b) (p).toNat)))))) (v4:Bool) (h4:v4=((!v3)&&(decide (fO=(2:Int))))) (v5:Bool) (h5:v5=(cond (decide (fO=(2:Int))) (!decide (v1=z)) false)) (v6:Bool) (h6:v6=(cond (decide (fO=(1:Int))) (decide (v1<z)) false)) (v7:Int) (h7:v7=(IntKind.i64.wrap (v1 - (1:Int)))) (v8:UInt8) (h8:v8=(List.getD (bz.b (r)) (v2).toNat (0:UInt8))) (v9:Int) (h9:v9=(IntKind.i64.wrap ((v8).toNat:Int))) (v10:List UInt8) (kL:v10=(List.take (v7).toNat (bz.b (r)))) (v11:Int) (uK:v11=(IntKind.i64.wrap (v2+(1:Int)))) (v12:cD) (Dn:v12=((cD.mk (((Bs.ctext v10 v11).2.2)) v11 []))) (lR:Val) (Ei:lR=((Bs.fR (Bs.cX 0,0) (Bs.eI (Bs.doc (((r)).at_ - (d+1)).toNat) (((r)).b) v9 ((((Bs.ctext v10 v11).2.1))).toNat (v7).toNat)).1)) (oQ:Int) (Eh:oQ=(((Bs.fR (Bs.cX 0,0) (Bs.eI (Bs.doc (((r)).at_ - (d+1)).toNat) (((r)).b) v9 ((((Bs.ctext v10 v11).2.1))).toNat (v7).toNat)).2:Int))) (xH:cD) (Eg:xH=((Bs.jM (Bs.eI (Bs.doc (((r)).at_ - (d+1)).toNat) (((r)).b) v9 ((((Bs.ctext v10 v11).2.1))).toNat (v7).toNat)))) (rD:List bq) (FC:rD=([(bq.mk ((Bs.ctext v10 v11).1) (Val.kind lR) (Val.bits lR) (Val.high lR) (Val.low lR) (Val.text lR) (Val.more lR) (Val.sub lR) (Val.bytes lR) (Val.kids lR))]:List bq)),cond (decide ((bz.at_ r)≤d))
  (some [(.sl .fl ([]:List bq)),(.i .i64 0),(.ag (cD.cells ((cD.mk ((8:Int)) p [])))),(.ag (bz.cells r))])
  (cond (decide ((IntKind.i64.wrap (z - p))<(4:Int)))
  (some [(.sl .fl ([]:List bq)),(.i .i64 0),(.ag (cD.cells ((cD.mk ((2:Int)) p [])))),(.ag (bz.cells r))])
  (ck (decide (0≤p∧p+4≤(((r).b).length:Int)∧((r).b).length≤1000000000)) (ck (!(!(decide (((Bs.dy ((r).b) (p).toNat))<(5:Int)))) || ((!(decide (((Bs.dy ((r).b) (p).toNat))<(5:Int))))&&(!(decide (((Bs.dy ((r).b) (p).toNat))<(5:Int)))))) (ck (!(!(decide (((Bs.dy ((r).b) (p).toNat))<(5:Int)))) || ((!(decide (((Bs.dy ((r).b) (p).toNat))<(5:Int))))&&(!(decide (((Bs.dy ((r).b) (p).toNat))<(5:Int)))))) (ck ((decide (((Bs.dy ((r).b) (p).toNat))<(5:Int))) || (!(decide (((Bs.dy ((r).b) (p).toNat))<(5:Int))))) (ck (!(!v3) || (!v3)) (ck (!(!v3) || (!v3)) (ck (!v4 || (v4&&v4)) (ck (!(!v3) || ((!v3)&&(!(decide (fO=(2:Int))) || v4))) (ck (v3 || (!v3)) (cond (cond v3 true v5)
  (some [(.sl .fl ([]:List bq)),(.i .i64 0),(.ag (cD.cells ((cD.mk ((6:Int)) p [])))),(.ag (bz.cells (r)))])
  (ck (!(decide (fO=(1:Int))) || ((decide (fO=(1:Int)))&&(decide (fO=(1:Int))))) (ck (!(decide (fO=(1:Int))) || (decide (fO=(1:Int)))) (cond v6
  (some [(.sl .fl ([]:List bq)),(.i .i64 0),(.ag (cD.cells ((cD.mk ((7:Int)) v1 [])))),(.ag (bz.cells (r)))])
  (cond (decide (v2=v7))
  (bx.g1 n v1 v2 (cD.mk 0 0 []) (bz.b (r)) (bz.at_ (r)) ([]:List bq))
  (ck (cU v2 ((bz.b (r))).length) (cond (decide (v8=(0:UInt8)))
  (some [(.sl .fl ([]:List bq)),(.i .i64 0),(.ag (cD.cells ((cD.mk ((3:Int)) v2 [])))),(.ag (bz.cells (r)))])
  (ck (cU v2 ((bz.b (r))).length) (cond (decide ((Tree.name v9)=([]:bG)))
  (some [(.sl .fl ([]:List bq)),(.i .i64 0),(.ag (cD.cells ((cD.mk ((5:Int)) v2 [])))),(.ag (bz.cells (r)))])
  (ck (en 0 v7 ((bz.b (r))).length) (ck (decide ((v10).length≤1099511627776)) (cond (!decide (((Bs.ctext v10 v11).2.2)=(0:Int)))
  (some [(.sl .fl ([]:List bq)),(.i .i64 0),(.ag (cD.cells v12)),(.ag (bz.cells (r)))])
  (ck ((decide (0≤(((Bs.ctext v10 v11).2.1))∧(((Bs.ctext v10 v11).2.1))≤v7∧v7≤((((r)).b).length:Int)∧(((r)).b).length≤1000000000∧0≤d∧d≤1000∧((r)).at_≤1000∧d<((r)).at_))&&decide ((3 * (((r)).at_ - d).toNat+1)<n)) (cond (!decide ((cD.err xH)=(0:Int)))
  (some [(.sl .fl ([]:List bq)),(.i .i64 0),(.ag (cD.cells xH)),(.ag (bz.cells ((r))))])
  (ck (fg (rD).length 136) (bx.g2 n d v1 oQ xH lR (bz.b ((r))) (bz.at_ ((r))) rD))))))))))))))))))))))))))=ρ):bx.F n r p z d fO=ρ:=Eq.trans (by kernel_rfl) (K _ rfl _ rfl _ rfl _ rfl _ rfl _ rfl _ rfl _ rfl _ rfl _ rfl _ rfl _ rfl _ rfl _ rfl _ rfl _ rfl)
end
end Go.Eng
set_option maxRecDepth 100000
namespace Go.Eng
open Go.Proofs
noncomputable section
def df.E:cI:=dO fI zs [(24,(eB.c,eB.sg)),(25,(bx.c,bx.sg))]
def df.h:Hint := .o
def df.F (b:List UInt8) (l:Lim):OT:=dK PG df.E 8 df.sg df.h [(.sl .bs b),(.ag (Lim.cells l))]
theorem df.dq (b:List UInt8) (l:Lim) {ρ:OT} (K:∀(v1:List bq) (h1:v1=((Bs.fR ([],0) (Bs.doc (((bz.mk b (Lim.depth l))).at_ - ((0:Int))).toNat (((bz.mk b (Lim.depth l))).b) (((0:Int))).toNat ((((b).length:Int))).toNat ((1:Int)))).1)) (v2:Int) (h2:v2=(((Bs.fR ([],0) (Bs.doc (((bz.mk b (Lim.depth l))).at_ - ((0:Int))).toNat (((bz.mk b (Lim.depth l))).b) (((0:Int))).toNat ((((b).length:Int))).toNat ((1:Int)))).2:Int))) (v3:cD) (h3:v3=((Bs.jM (Bs.doc (((bz.mk b (Lim.depth l))).at_ - ((0:Int))).toNat (((bz.mk b (Lim.depth l))).b) (((0:Int))).toNat ((((b).length:Int))).toNat ((1:Int)))))),cond (!(Bs.may l))
  (some [(.ag [(.i .i64 0),(.u64 0),(.u64 0),(.u64 0),(.s []),(.s []),(.i .i64 0),(.sl .bs ([]:List UInt8)),(.sl .fl ([]:List bq))]),(.ag [(.i .i64 1),(.i .i64 0),(.sl .is ([]:List Int))])])
  (cond (decide ((Lim.size l)<((b).length:Int)))
  (some [(.ag [(.i .i64 0),(.u64 0),(.u64 0),(.u64 0),(.s []),(.s []),(.i .i64 0),(.sl .bs ([]:List UInt8)),(.sl .fl ([]:List bq))]),(.ag [(.i .i64 9),(.i .i64 0),(.sl .is ([]:List Int))])])
  (ck (decide (0≤((0:Int))∧((0:Int))≤(((b).length:Int))∧(((b).length:Int))≤((((bz.mk b (Lim.depth l))).b).length:Int)∧(((bz.mk b (Lim.depth l))).b).length≤1000000000∧0≤((0:Int))∧((0:Int))≤1000∧((bz.mk b (Lim.depth l))).at_≤1000)) (cond (!decide ((cD.err v3)=(0:Int)))
  (some [(.ag [(.i .i64 0),(.u64 0),(.u64 0),(.u64 0),(.s []),(.s []),(.i .i64 0),(.sl .bs ([]:List UInt8)),(.sl .fl ([]:List bq))]),(.ag (cD.cells v3))])
  (some [(.ag [(.i .i64 3),(.u64 0),(.u64 0),(.u64 0),(.s []),(.s []),(.i .i64 0),(.sl .bs ([]:List UInt8)),(.sl .fl v1)]),(.ag [(.i .i64 0),(.i .i64 0),(.sl .is ([]:List Int))])]))))=ρ):df.F b l=ρ:=Eq.trans (by kernel_rfl) (K _ rfl _ rfl _ rfl)
end
end Go.Eng
set_option maxRecDepth 20000
namespace Go.Eng
open Go.IntWalk
theorem eM.goal (r:Int):eM.F r=some [.b (dt.iY r)]:=by
 refine eM.dq r ?_
 intro v1 h1 v2 h2 v3 h3
 subst h1 h2 h3
 by_cases a:0≤r <;> by_cases b:r≤1114111 <;> by_cases c:r<55296 <;> simp [ck,a,b,c,dt.iY]
theorem BM:∀n,n<256→((n &&& 192=128) ↔ (128≤n∧n<192)):=by decide +kernel
theorem DG:∀n,n<256→(128≤n∧n<192)→n &&& 63=n - 128:=by decide +kernel
theorem DH:∀n,n<256→(192≤n∧n<224)→n &&& 31=n - 192:=by decide +kernel
theorem DI:∀n,n<256→(224≤n∧n<240)→n &&& 15=n - 224:=by decide +kernel
theorem FU:∀n,n<256→(240≤n∧n<248)→n &&& 7=n - 240:=by decide +kernel
theorem Ab (c:UInt8):c.toNat<256:=by have:=c.toNat_lt;simpa using this
theorem u3 (c:UInt8):decide ((c &&& (192:UInt8))=(128:UInt8))=decide (128≤c.toNat∧c.toNat<192):=by
 have h:=BM c.toNat (Ab c)
 rw [aM]
 simp only [az]
 rw [←h,←UInt8.toNat_inj,UInt8.toNat_and]
 exact Iff.rfl
theorem EK (c:UInt8) (h:128≤c.toNat∧c.toNat<192):((c &&& (63:UInt8)).toNat:Int)=((c.toNat - 128:Nat):Int):=by
 rw [UInt8.toNat_and]
 exact congrArg _ (DG c.toNat (Ab c) h)
def uw (r:Option Nat) (more least:Nat):OT:=match r with
 | some r=>if r<least∨dt.iY r=false then some [.i .i64 0,.i .i64 0] else some [.i .i64 r,.i .i64 (more+1:Int)]
 | none=>some [.i .i64 0,.i .i64 0]
theorem yv (c:Nat) (more least:Nat) (l:bG):uw (dt.cont c more l) more least=some [.i .i64 (dt.js c more least l).1,.i .i64 (dt.js c more least l).2]:=by
 unfold uw dt.js
 cases dt.cont c more l with
 | none=>rfl
 | some r=>simp only;split <;> rfl
theorem bA.end_ (r:Nat) (more least:Nat) (hm:more<8) :
  (ck (!(!(decide ((r:Int)<(least:Int)))) || (!(decide ((r:Int)<(least:Int))))) (ck (!(!(decide ((r:Int)<(least:Int)))) || (!(decide ((r:Int)<(least:Int))))) (ck ((decide ((r:Int)<(least:Int))) || (!(decide ((r:Int)<(least:Int))))) (cond (cond (decide ((r:Int)<(least:Int))) true (!(dt.iY r)))
  (bA.g1)
  (some [(.i .i64 (r:Int)),(.i .i64 (IntKind.i64.wrap ((more:Int)+(1:Int))))])))))=uw (some r) more least:=by
 simp only [aW,bm,eu]
 rw [i64_in _ (by omega),bA.oz]
 unfold uw
 by_cases h:r<least
 ·simp [h]
 ·simp only [show ¬((r:Int)<(least:Int)) by omega,decide_false,af,h,false_or]
  cases dt.iY r <;> simp
theorem bA.Dr (b:bG) (at_:Nat) (more least:Nat) (hm:more<8) (hb:b.length≤1099511627776) (eJ:at_+more<b.length):∀(k i r:Nat),i+k=more+1→r<2 ^ (10+6 * i) →
  bA.g3 b at_ r more least i=uw (dt.cont r k (b.drop (at_+i))) more least:=by
 intro k
 induction k with
 | zero =>
  intro i r hi hr
  refine bA.wG _ _ _ _ _ _ ?_
  intro v1 h1 v2 h2 v3 h3 v4 h4 v5 h5 v6 h6 v7 h7
  rw [show decide ((i:Int)≤(more:Int))=false by simp;omega,af]
  subst h6 h7
  rw [dt.cont]
  exact bA.end_ r more least hm
 | succ k ih =>
  intro i r hi hr
  refine bA.wG _ _ _ _ _ _ ?_
  intro v1 h1 v2 h2 v3 h3 v4 h4 v5 h5 v6 h6 v7 h7
  have hw:IntKind.i64.wrap ((at_:Int)+(i:Int))=((at_+i:Nat):Int):=by rw [i64_in _ (by omega)];omega
  have Fj:=drop_cons (l:=b) (i:=at_+i) (by omega) 0
  rw [show decide ((i:Int)≤(more:Int))=true by simp;omega,ao,hw]
  rw [hw,aq] at h1
  rw [bw (ew (by omega) (by omega)),Fj,←h1,dt.cont,h2,u3]
  by_cases hc:128≤v1.toNat∧v1.toNat<192
  ·rw [ar hc,aa hc]
   simp only [aN,af]
   rw [bw (ew (by omega) (by omega))]
   have hp:2 ^ (10+6 * i) * 64=2 ^ (10+6 * (i+1)):=by rw [show 10+6 * (i+1)=(10+6 * i)+6 by omega,Nat.pow_add 2 (10+6 * i) 6]
   have D8:2 ^ (10+6 * (i+1))≤2 ^ 58:=Nat.pow_le_pow_right (by omega) (by omega)
   have Hz:r * 64+64≤2 ^ (10+6 * (i+1)):=by
    rw [←hp];have:=aT 64 (Nat.succ_le_of_lt hr);omega
   have e3:v3=((r * 64:Nat):Int):=by
    rw [h3]
    have:(min (((6:UInt64)).toNat) (IntKind.i64.bits))=6:=by decide
    rw [this,i64_in _ (by simp at D8;omega)];simp
   have e4:v4=((v1.toNat - 128:Nat):Int):=by
    rw [h4,EK v1 hc];exact i64_in _ (by omega)
   have e5:v5=((i+1:Nat):Int):=by rw [h5,i64_in _ (by omega)];omega
   have e6:cp .or .i64 v3 v4=((r * 64+(v1.toNat - 128):Nat):Int):=by
    rw [e3,e4,AA _ _ (by simp at D8;omega) (by omega)]
    have:=rZ (a:=r) (b:=v1.toNat - 128) (k:=6) (by simp;omega)
    simp at this
    rw [this]
   rw [e6,e5,ih (i+1) _ (by omega) (by omega),Nat.add_assoc]
  ·rw [ak hc,ab hc]
   simp only [aS,ao]
   rw [bA.oz];rfl
theorem bA.CP (b : bG) (at_ : Nat) (r more least : Nat) (hm : 1 ≤ more ∧ more < 8) (hb : b.length ≤ 1099511627776) (eJ : at_ < b.length) (hr : r < 1024) :
    bA.j2 b at_ r more least = uw (dt.cont r more (b.drop (at_ + 1))) more least := by
  have zN : ∀ (k r : Nat) (l : bG), l.length < k → dt.cont r k l = none := by
    intro k
    induction k with
    | zero => intro r l h; omega
    | succ k ih =>
      intro r l h
      cases l with
      | nil => rfl
      | cons c l => rw [dt.cont]; split
                    · exact ih _ _ (by simp at h; omega)
                    · rfl
  have key := fun (h : at_ + more < b.length) => bA.Dr b at_ more least hm.2 hb h more 1 r (by omega) (by simp; omega)
  by_cases hx : at_ + more < b.length
  · rw [← key hx]
    refine bA.lM _ _ _ _ _ ?_
    intro v1 h1 v2 h2 v3 h3 v4 h4 v5 h5 v6 h6 v7 h7 v8 h8 v9 h9 v10 kL
    symm
    refine bA.wG _ _ _ _ _ _ ?_
    intro w1 k1 w2 k2 w3 k3 w4 k4 w5 k5 w6 k6 w7 k7
    have e1 : v1 = (b.length : Int) - at_ := by rw [h1]; exact i64_in _ (by omega)
    have e2 : v2 = (b.length : Int) - at_ - 1 := by rw [h2, e1]; exact i64_in _ (by omega)
    rw [show decide (v2 < (more : Int)) = false by simp; omega, af]
    have a1 : ((1 : Nat) : Int) = 1 := rfl
    simp only [a1] at k1 k2 k3 k4 k5 k6 k7 ⊢
    subst h3; subst h4; subst h5; subst h6; subst h7; subst h8; subst h9; subst kL; subst k1; subst k2; subst k3; subst k4; subst k5; subst k6; subst k7
    rfl
  · refine bA.lM _ _ _ _ _ ?_
    intro v1 h1 v2 h2 v3 h3 v4 h4 v5 h5 v6 h6 v7 h7 v8 h8 v9 h9 v10 kL
    have e1 : v1 = (b.length : Int) - at_ := by rw [h1]; exact i64_in _ (by omega)
    have e2 : v2 = (b.length : Int) - at_ - 1 := by rw [h2, e1]; exact i64_in _ (by omega)
    rw [show decide (v2 < (more : Int)) = true by simp; omega, ao, bA.oz, zN _ _ _ (by simp; omega)]
    rfl
theorem EC (lo hi n:Nat):(cond (decide ((lo:Int)≤(n:Int))) (decide ((n:Int)<(hi:Int))) false)=decide (lo≤n∧n<hi):=by
 by_cases a:lo≤n
 ·rw [show decide ((lo:Int)≤(n:Int))=true by simp;omega,ao,aM];simp;omega
 ·rw [show decide ((lo:Int)≤(n:Int))=false by simp;omega,af,ab (by omega)]
theorem bA.goal (b:bG) (at_:Int) (hp:decide (b.length≤1099511627776)=true):bA.F b at_=some [.i .i64 (dt.iP b at_).1,.i .i64 (dt.iP b at_).2]:=by
 have hb:b.length≤1099511627776:=au hp
 refine bA.dq b at_ ?_
 intro v1 h1 v2 h2 v3 h3 v4 h4 v5 h5 v6 h6 v7 h7 v8 h8 v9 h9
 unfold dt.iP
 by_cases h0:at_<0
 ·subst h1
  simp [h0,ck,bA.oz]
 ·have hd0:decide (at_<0)=false:=ab h0
  obtain ⟨i,rfl⟩:=Int.eq_ofNat_of_zero_le (show 0≤at_ by omega)
  rw [hd0] at h1 ⊢
  subst h1
  simp only [aS,aN,Bool.false_or,Bool.or_true,eu,af,aq] at h2 ⊢
  by_cases hl:b.length≤i
  ·rw [show decide ((b.length:Int)≤(i:Int))=true by simp;omega,ar (.inr (by omega)),ao,bA.oz];rfl
  ·rw [show decide ((b.length:Int)≤(i:Int))=false by simp;omega,ak (by omega),af,bw (ew (by omega) (by omega)),drop_cons (l:=b) (i:=i) (by omega) 0,←h2,dt.rune]
   have hc:=Ab v2
   have e3:v3=(v2.toNat:Int):=by rw [h3];exact i64_in _ (by omega)
   have an:∀(m:Nat),m<256→cp .and .i64 v3 m=((v2.toNat &&& m:Nat):Int):=fun m h=>by rw [e3,zi _ _ (by omega) (by omega)]
   have It:v5=((v2.toNat &&& 31:Nat):Int):=h5.trans (an 31 (by omega))
   have Is:v7=((v2.toNat &&& 15:Nat):Int):=h7.trans (an 15 (by omega))
   have Ir:v9=((v2.toNat &&& 7:Nat):Int):=h9.trans (an 7 (by omega))
   have e4:v4=decide (192≤v2.toNat∧v2.toNat<224):=by rw [h4,e3];exact EC 192 224 _
   have e6:v6=decide (224≤v2.toNat∧v2.toNat<240):=by rw [h6,e3];exact EC 224 240 _
   have e8:v8=decide (240≤v2.toNat∧v2.toNat<248):=by rw [h8,e3];exact EC 240 248 _
   have J:∀(r more least:Nat),1≤more∧more<8→r<1024→bA.j2 b i r more least=some [.i .i64 (dt.js r more least (b.drop (i+1))).1,.i .i64 (dt.js r more least (b.drop (i+1))).2]:=fun r more least h1 h2 =>
    (bA.CP b i r more least h1 hb (by omega) h2).trans (yv _ _ _ _)
   simp only [aW,eu]
   by_cases c1:v2.toNat<128
   ·rw [ar c1,e3,show decide ((v2.toNat:Int)<128)=true by simp;omega,ao];rfl
   ·rw [ak c1,show decide (v3<(128:Int))=false by rw [e3];simp;omega,af,e4]
    by_cases c2:192≤v2.toNat∧v2.toNat<224
    ·rw [ar c2,aa c2,ao,It,DH _ hc c2];exact J _ 1 128 (by omega) (by omega)
    ·rw [ak c2,ab c2,af,e6]
     by_cases c3:224≤v2.toNat∧v2.toNat<240
     ·rw [ar c3,aa c3,ao,Is,DI _ hc c3];exact J _ 2 2048 (by omega) (by omega)
     ·rw [ak c3,ab c3,af,e8]
      by_cases c4:240≤v2.toNat∧v2.toNat<248
      ·rw [ar c4,aa c4,ao,Ir,FU _ hc c4];exact J _ 3 65536 (by omega) (by omega)
      ·rw [ak c4,ab c4,af,bA.oz];rfl
theorem dt.kY (l:bG):0≤(dt.rune l).2∧(dt.rune l).2≤l.length:=by
 have vi:∀(k r q:Nat) (l:bG),dt.cont r k l=some q→k≤l.length:=by
  intro k
  induction k with
  | zero=>intro r q l _;omega
  | succ k ih =>
   intro r q l h
   cases l with
   | nil=>cases h
   | cons c l =>
    rw [dt.cont] at h
    split at h
    ·have:=ih _ _ _ h;simp;omega
    ·cases h
 have E8:∀(r more least:Nat) (l:bG),0≤(dt.js r more least l).2∧(dt.js r more least l).2≤l.length+1:=by
  intro r more least l
  unfold dt.js
  cases h:dt.cont r more l with
  | none=>simp;omega
  | some q =>
   have:=vi _ _ _ _ h
   simp only
   split <;> simp <;> omega
 cases l with
 | nil=>exact ⟨by decide,by decide⟩
 | cons c l =>
  unfold dt.rune
  simp only [aK]
  split
  ·simp;omega
  ·split
   ·have:=E8 (c.toNat - 192) 1 128 l;omega
   ·split
    ·have:=E8 (c.toNat - 224) 2 2048 l;omega
    ·split
     ·have:=E8 (c.toNat - 240) 3 65536 l;omega
     ·simp;omega
theorem dt.vY (l:bG):∀n,l.length≤n→dt.kF n l=dt.kF l.length l:=by
 have key:∀(m:Nat) (l:bG),l.length≤m→∀n,l.length≤n→dt.kF n l=dt.kF l.length l:=by
  intro m
  induction m with
  | zero =>
   intro l hl n hn
   have:l=[]:=List.length_eq_zero_iff.1 (by omega)
   subst this
   cases n with
   | zero=>rfl
   | succ n=>rfl
  | succ m ih =>
   intro l hl n hn
   cases h:l.length with
   | zero =>
    have:l=[]:=List.length_eq_zero_iff.1 h
    subst this
    cases n <;> rfl
   | succ k =>
    cases n with
    | zero=>omega
    | succ n =>
     unfold dt.kF
     have hs:=dt.kY l
     by_cases h0:(dt.rune l).2=0
     ·rw [ar h0,ar h0]
     ·rw [ak h0,ak h0]
      have hd:(l.drop (dt.rune l).2.toNat).length≤k:=by simp;omega
      rw [ih _ (by simp;omega) n (by simp;omega),ih _ (by simp;omega) k hd]
 exact fun n hn=>key _ l (Nat.le_refl _) n hn
theorem dt.uz (l:bG) (h:(dt.rune l).2≠0):dt.look l=((dt.look (l.drop (dt.rune l).2.toNat)).1+(dt.rune l).2.toNat,(dt.look (l.drop (dt.rune l).2.toNat)).2+1):=by
 have hs:=dt.kY l
 unfold dt.look
 cases hl:l.length with
 | zero=>omega
 | succ k =>
  rw [dt.kF,ak h]
  simp only
  rw [dt.vY _ k (by simp;omega)]
theorem dt.uA (l:bG) (h:(dt.rune l).2=0):dt.look l=(0,0):=by
 unfold dt.look
 cases l.length with
 | zero=>rfl
 | succ k=>rw [dt.kF,ar h]
theorem dt.rS (b:bG) (i:Nat) (h:i<b.length):dt.iP b i=dt.rune (b.drop i):=by
 unfold dt.iP;rw [ak (by omega),aq]
theorem bM.eV (b:bG) (hb:b.length≤1099511627776):∀(m i k:Nat),b.length - i≤m→i≤b.length→k≤i →
  bM.l1 b i k=some [.i .i64 ((i+(dt.look (b.drop i)).1:Nat):Int),.i .i64 ((k+(dt.look (b.drop i)).2:Nat):Int)]:=by
 intro m
 induction m with
 | zero =>
  intro i k hm hi hk
  refine bM.et _ _ _ ?_
  intro v1 h1 v2 h2
  rw [show decide ((i:Int)<(b.length:Int))=false by simp;omega,af,bM.kG,aL (by omega)]
  rfl
 | succ m ih =>
  intro i k hm hi hk
  by_cases eJ:i<b.length
  ·refine bM.et _ _ _ ?_
   intro v1 h1 v2 h2
   rw [dt.rS b i eJ] at h1 ⊢
   have hs:=dt.kY (b.drop i)
   rw [aP] at hs
   rw [show decide ((i:Int)<(b.length:Int))=true by simp;omega,ao,bw (aa hb)]
   by_cases h0:(dt.rune (b.drop i)).2=0
   ·rw [aa h0,ao,bM.kG,dt.uA _ h0];rfl
   ·rw [ab h0,af,dt.uz _ h0]
    have e1:v1=((i+(dt.rune (b.drop i)).2.toNat:Nat):Int):=by rw [h1,i64_in _ (by omega)];omega
    have e2:v2=((k+1:Nat):Int):=by rw [h2,i64_in _ (by omega)];omega
    rw [e1,e2,ih _ _ (by omega) (by omega) (by omega),List.drop_drop]
    simp only [aA,bg,TV.i.injEq,true_and,and_true]
    exact ⟨by omega,by omega⟩
  ·refine bM.et _ _ _ ?_
   intro v1 h1 v2 h2
   rw [show decide ((i:Int)<(b.length:Int))=false by simp;omega,af,bM.kG,aL (by omega)]
   rfl
theorem bM.goal (b:bG) (hp:decide (b.length≤1099511627776)=true):bM.F b=some [.i .i64 ((dt.look b).1:Int),.i .i64 ((dt.look b).2:Int)]:=by
 rw [bM.eY]
 have:=bM.eV b (au hp) b.length 0 0 (by omega) (by omega) (by omega)
 simpa using this
theorem cC.goal (b:bG) (hp:decide (b.length≤1099511627776)=true):cC.F b=some [.i .i64 ((dt.look b).1:Int),.b (dt.whole b)]:=by
 have e:decide (((dt.look b).1:Int)=(b.length:Int))=dt.whole b:=by unfold dt.whole;rw [aM];simp;omega
 rw [cC.eY,bw hp,e]
end Go.Eng
set_option maxRecDepth 20000
namespace Go.Eng
open Go.IntWalk
theorem ca.goal (s:bG) (c:UInt8):ca.F s c=some [.i .i64 (Lib.indexByte s c)]:=ca.eY s c
theorem dD.goal (s t:bG) (hp:decide (t.length=1)=true):dD.F s t=some [.i .i64 (Lib.indexByte s (t.getD 0 0))]:=by
 have hl:t.length=1:=au hp
 refine dD.dq s t ?_
 intro v1 h1 v2 h2
 have e0:decide ((t.length:Int)=0)=false:=ab (by omega)
 have e1:decide ((t.length:Int)=1)=true:=aa (by omega)
 rw [e0] at h1 ⊢
 simp only [aS,aN,Bool.false_or,bc,eu,af] at h1 ⊢
 by_cases hs:t=s
 ·subst hs
  rw [h1,aa rfl,ao]
  obtain ⟨c,rfl⟩:∃c,t=[c]:=by
   match t,hl with
   | [c],_=>exact ⟨c,rfl⟩
  simp [Lib.indexByte]
 ·rw [h1,ab hs,af,e1,ao,bw (ew (by omega) (by omega)),h2];rfl
theorem dC.goal (s t:bG) (hp:decide (t.length=1)=true):dC.F s t=some [.i .i64 (Lib.indexByte s (t.getD 0 0))]:=by
 refine dC.dq s t ?_
 intro v1 h1
 rw [bw hp,h1]
theorem cB.goal (s t:bG) (hp:decide (t.length=1)=true):cB.F s t=some [.b (decide (0≤Lib.indexByte s (t.getD 0 0)))]:=by
 refine cB.dq s t ?_
 intro v1 h1
 rw [bw hp,h1]
theorem cM.goal (k:Int):cM.F k=some [.s (Tree.name k)]:=by
 refine cM.dq k ?_
 intro v1 h1 v2 h2
 unfold Tree.name
 by_cases a:k=127
 ·rw [ar a,aa a];rfl
 ·rw [ak a,ab a,af]
  by_cases b:k=255
  ·rw [ar b,aa b];rfl
  ·rw [ak b,ab b,af]
   simp only [aW,bm,eu]
   by_cases c:k<0∨20≤k
   ·rw [ar c,show v1=true by rw [h1];by_cases d:k<0 <;> simp [d];omega];rfl
   ·rw [ak c,show v1=false by rw [h1];by_cases d:k<0 <;> simp [d] <;> omega,af,bw (ew (by omega) (by omega)),bw (by simp;omega),h2];rfl
theorem Tree.uu (k:Int) (h:k ∉ Tree.kinds):Tree.name k=[]:=by
 simp only [Tree.kinds,aD,List.not_mem_nil,not_or] at h
 unfold Tree.name
 rw [ak (by omega),ak (by omega)]
 by_cases c:k<0∨20≤k
 ·rw [ar c]
 ·have:k=0:=by omega
  subst this
  rfl
end Go.Eng
set_option maxRecDepth 20000
namespace Go.Eng
open Go.IntWalk
theorem fx (c:UInt8):∀s:bG,decide (0≤Lib.indexByte s c)=s.contains c
 | []=>by simp [Lib.indexByte]
 | b :: l=>by
  have ih:=fx c l
  have A2:=Lib.indexByte_ge l c
  rw [List.contains_cons,←ih]
  rw [Lib.indexByte]
  by_cases h:b=c
  ·subst h;simp
  ·rw [ak (by simpa using h),show (c == b)=false by rw [beq_eq_false_iff_ne];exact fun e=>h e.symm,Bool.false_or]
   by_cases h1:Lib.indexByte l c=-1
   ·rw [h1];rfl
   ·rw [ak (by simpa using h1),aa (by omega),aa (by omega)]
theorem cJ.goal (s:bG) (plain:Bool) (hp:decide (s.length≤1099511627776)=true):cJ.F s plain=some [.b (Tree.dw s plain)]:=by
 have e:decide (0≤Lib.indexByte s (([0]:bG).getD 0 0))=dt.zero s:=fx 0 s
 refine cJ.dq s plain ?_
 intro v1 h1 v2 h2
 rw [bw (y8 (au hp)),bw hp]
 rw [e] at h1
 subst h1 h2
 unfold Tree.dw
 cases dt.whole s <;> cases plain <;> cases dt.zero s <;> rfl
theorem br.goal (v:Val):br.F v=some [.b (Tree.cw v)]:=by
 have J2:∀(x:Bool) (v:Val),br.j2 x v=some [.b (x&&decide (v.bits=0)&&decide (v.high=0)&&decide (v.low=0)&&decide (v.text=[])&&decide (v.more=[])&&decide (v.sub=0)&&decide (v.bytes=[])&&decide (v.kids=[]))]:=by
  intro x v
  refine br.lM x v ?_
  intro v1 h1 v2 h2 v3 h3 v4 h4 v5 h5 v6 h6 v7 h7 v8 h8 v9 h9 v10 kL
  simp only [aW,eu]
  have e1:decide (v7=0)=decide (v.bytes=[]):=by rw [h7,aM];simp
  have e2:decide (v9=0)=decide (v.kids=[]):=by rw [h9,aM];simp
  rw [e1] at h8
  rw [e2] at kL
  subst h1 h2 h3 h4 h5 h6 h8 kL
  simp only [Bool.cond_false_right]
 have J3:∀(x0:Bool) (x1:Int) (x2:Bool) (x3:Val),br.j3 x0 x1 x2 x3=cond x2
  (br.j2 x0 (Val.mk (Val.kind x3) (Val.bits x3) (Val.high x3) (Val.low x3) ([]:bG) (Val.more x3) (Val.sub x3) (Val.bytes x3) (Val.kids x3)))
  (cond (decide (x1=(11:Int)))
  (br.j2 x0 (Val.mk (Val.kind x3) (Val.bits x3) (Val.high x3) (Val.low x3) ([]:bG) ([]:bG) (Val.sub x3) (Val.bytes x3) (Val.kids x3)))
  (cond (decide (x1=(5:Int)))
  (br.j2 (decide (0≤x3.sub)&&decide (x3.sub≤255)) (Val.mk (Val.kind x3) (Val.bits x3) (Val.high x3) (Val.low x3) (Val.text x3) (Val.more x3) (0:Int) ([]:List UInt8) (Val.kids x3)))
  (cond (decide (x1=(7:Int)))
  (br.j2 (decide (x3.bytes.length=12)) (Val.mk (Val.kind x3) (Val.bits x3) (Val.high x3) (Val.low x3) (Val.text x3) (Val.more x3) (Val.sub x3) ([]:List UInt8) (Val.kids x3)))
  (cond (decide (x1=(12:Int)))
  (br.j2 (decide (x3.bytes.length=12)) (Val.mk (Val.kind x3) (Val.bits x3) (Val.high x3) (Val.low x3) ([]:bG) (Val.more x3) (Val.sub x3) ([]:List UInt8) (Val.kids x3)))
  (cond (decide (x1=(3:Int)))
  (br.j4 x0 x1 (decide (x1=(3:Int))) x3)
  (br.j4 x0 x1 (decide (x1=(4:Int))) x3)))))):=by
  intro x0 x1 x2 x3
  refine br.qB x0 x1 x2 x3 ?_
  intro v1 h1 v2 h2
  have e:decide (v2=12)=decide (x3.bytes.length=12):=by rw [h2,aM];simp;omega
  simp only [aW,eu,e,h1,Bool.cond_false_right]
 obtain ⟨k,b,hi,lo,t,m,s,y,ks⟩:=v
 simp only [br.eY,br.qD,J3,br.CO,J2,Tree.cw,Tree.ff]
 by_cases a1:k=1
 ·subst a1;simp;grind
 by_cases a2:k=2
 ·subst a2;simp;grind
 by_cases a3:k=3
 ·subst a3;simp;grind
 by_cases a4:k=4
 ·subst a4;simp;grind
 by_cases a5:k=5
 ·subst a5;simp;grind
 by_cases a7:k=7
 ·subst a7;simp;grind
 by_cases a8:k=8
 ·subst a8;simp;grind
 by_cases a9:k=9
 ·subst a9;simp;grind
 by_cases G9:k=11
 ·subst G9;simp;grind
 by_cases a12:k=12
 ·subst a12;simp;grind
 by_cases G8:k=13
 ·subst G8;simp;grind
 by_cases G7:k=14
 ·subst G7;simp;grind
 by_cases G6:k=15
 ·subst G6;simp;grind
 by_cases G5:k=16
 ·subst G5;simp;grind
 by_cases G4:k=17
 ·subst G4;simp;grind
 by_cases G3:k=18
 ·subst G3;simp;grind
 by_cases G2:k=19
 ·subst G2;simp;grind
 simp [a1,a2,a3,a4,a5,a7,a8,a9,G9,a12,G8,G7,G6,G5,G4,G3,G2];grind
end Go.Eng
set_option maxRecDepth 20000
namespace Go.Eng
open Go.IntWalk
theorem FF (a:Bool):(!a || a)=true:=by cases a <;> rfl
theorem nA {R:Type} {b p:Bool} {x y:Option R} (hp:p=true) (h:b=true→x=y):cond b (both x (ck p y)) (ck p y)=y:=by
 subst hp
 cases b with
 | false=>rfl
 | true=>rw [h rfl];exact u7 _
theorem bZ.goal (a:List UInt8) (hp:fg a.length 1=true):bZ.F a=some [.sl .bs a]:=by
 rw [bZ.eY]
 exact nA (by simpa using hp) fun h=>by rw [List.isEmpty_iff.1 h];rfl
theorem di.goal (l:List Int) (hp:fg l.length 8=true):di.F l=some [.sl .is l,.sl .is l]:=by
 rw [di.eY]
 exact nA (by simpa using hp) fun h=>by rw [List.isEmpty_iff.1 h];rfl
theorem cN.goal (n:Int):cN.F n=some [.b (decide (1≤n∧n≤8))]:=by
 refine cN.dq _ ?_
 intro v1 h1
 rw [bw (FF _),bw (FF _),h1,Bool.decide_and]
 cases decide (1≤n) <;> rfl
theorem eE.goal (b:List UInt8) (hp:decide (b.length≤1099511627776)=true):eE.F b=some [.ag (bz.cells ⟨b,0⟩)]:=by
 have hp:=au hp
 rw [eE.eY,bw (hY (by omega) (by omega))];rfl
theorem dI.goal (r:bz) (hp:decide (0≤r.at_∧r.at_≤r.b.length∧r.b.length≤1099511627776)=true):dI.F r=some [.i .i64 ((r.b.length:Int) - r.at_),.ag (bz.cells r)]:=by
 obtain ⟨h1,h2,h3⟩:=au hp
 refine dI.dq _ ?_
 intro v1 e1
 rw [e1,i64_in _ (by omega)]
theorem dZ.goal (r:bz) (n:Int) (hp:decide (1≤n∧n≤8∧0≤r.at_∧r.at_≤r.b.length∧r.b.length≤1099511627776)=true):dZ.F r n=some [.sl .bs (Bs.fB r n),.b (Bs.can r n),.ag (bz.cells (Bs.jt r n))]:=by
 obtain ⟨h1,h2,h3,h4,h5⟩:=au hp
 refine dZ.dq _ _ ?_
 intro v1 e1 v2 e2 v3 e3 v4 e4 v5 e5
 have f1:v1=false:=by rw [e1,ab (by omega),af,ab (by omega)]
 rw [f1,af] at e3
 rw [ab (by omega),f1,aa ⟨h3,h4,h5⟩,e3,e2]
 refine (show _=cond (decide ((r.b.length:Int) - r.at_<n)) _ _ from rfl).trans ?_
 unfold Bs.fB Bs.jt Bs.can
 by_cases c:(r.b.length:Int) - r.at_<n
 ·rw [aa c,ao,ab (by omega),ak (by simp),ak (by simp)]
 ·rw [ab c,af,aa ⟨h1,h2,by omega⟩,ar rfl,ar rfl]
  have q4:v4=r.at_+n:=by rw [e4,i64_in _ (by omega)]
  have q5:IntKind.i64.wrap (v4 - n)=r.at_:=by rw [q4,i64_in _ (by omega)];omega
  rw [q5] at e5 ⊢
  rw [bw (hO (by omega) (by omega) (by omega)),e5,q4,List.drop_take,show (r.at_+n).toNat - r.at_.toNat=n.toNat by omega];rfl
theorem eg.goal (r:bz) (n:Int) (hp:decide (0≤n∧0≤r.at_∧r.at_≤r.b.length∧r.b.length≤1099511627776)=true):eg.F r n=some [.sl .bs (Bs.p8 r n),.b (Bs.re r n),.ag (bz.cells (Bs.pa r n))]:=by
 obtain ⟨h1,h3,h4,h5⟩:=au hp
 refine eg.dq _ _ ?_
 intro v1 e1 v2 e2 v3 e3 v4 e4
 rw [ab (by omega),af,e1] at e2
 rw [ab (by omega),aa ⟨h3,h4,h5⟩,e2]
 refine (show _=cond (decide ((r.b.length:Int) - r.at_<n)) _ _ from rfl).trans ?_
 unfold Bs.p8 Bs.pa Bs.re
 by_cases c:(r.b.length:Int) - r.at_<n
 ·rw [aa c,ao,ab (by omega),ak (by simp),ak (by simp)]
 ·rw [ab c,af,aa ⟨h1,by omega⟩,ar rfl,ar rfl]
  have q4:v3=r.at_+n:=by rw [e3,i64_in _ (by omega)]
  have q5:IntKind.i64.wrap (v3 - n)=r.at_:=by rw [q4,i64_in _ (by omega)];omega
  rw [q5] at e4 ⊢
  have q6:v4=(r.b.drop r.at_.toNat).take n.toNat:=by rw [e4,q4,List.drop_take,show (r.at_+n).toNat - r.at_.toNat=n.toNat by omega]
  have q7:v4.length≤1099511627776:=by rw [q6,aB,aP];omega
  rw [bw (hO (by omega) (by omega) (by omega)),bw (hY (by omega) (by omega)),q6,q4];rfl
namespace Bs
theorem mV:∀a b:bG,gk (a++b)=gk a+256 ^ a.length * gk b
 | [],b=>by simp [gk]
 | c :: a,b=>by
  simp only [List.cons_append,gk,mV a b,aK,Nat.pow_succ]
  rw [Nat.mul_add,Nat.mul_comm (256 ^ a.length) 256,Nat.mul_assoc];omega
theorem lk:∀a:bG,gk a<256 ^ a.length
 | []=>by simp [gk]
 | c :: a=>by
  have:=lk a
  have:=c.toNat_lt
  simp only [gk,aK,Nat.pow_succ];omega
theorem rZ {x c k:Nat} (h:x<2 ^ k):x ||| c * 2 ^ k=x+c * 2 ^ k:=by
 have:=Nat.two_pow_add_eq_or_of_lt h c
 rw [Nat.or_comm,Nat.mul_comm c,←this,Nat.add_comm]
theorem vQ (i:Nat):2 ^ (8 * i)=256 ^ i:=by rw [Nat.pow_mul]
end Bs
theorem cY.eV (ok:Bool) (x:List UInt8) (b:List UInt8) (at_:Int) (hx:x.length≤8):∀(m i:Nat) (v:UInt64),i+m=x.length→v.toNat=Bs.gk (x.take i)→cY.l1 ok v x (x.length:Int) (i:Int) b at_=some [.u64 (UInt64.ofNat (Bs.gk x)),.b ok,.ag [.sl .bs b,.i .i64 at_]]
 | 0,i,v,hi,hv=>by
  refine cY.et _ _ _ _ _ _ _ ?_
  intro v1 h1 v2 h2 v3 h3 v4 h4 v5 h5
  rw [ab (by omega),af]
  rw [List.take_of_length_le (by omega)] at hv
  rw [←hv,UInt64.ofNat_toNat]
 | m+1,i,v,hi,hv=>by
  refine cY.et _ _ _ _ _ _ _ ?_
  intro v1 h1 v2 h2 v3 h3 v4 h4 v5 h5
  rw [aq] at h1
  have e3:v3=((8 * i:Nat):Int):=by rw [h3,i64_in _ (by omega)];omega
  have e5:v5=((i+1:Nat):Int):=by rw [h5,i64_in _ (by omega)];omega
  have hd:x.take (i+1)=x.take i++[v1]:=by rw [h1,List.take_add_one,ah (by omega),ai,ah (by omega)];rfl
  have hc:=v1.toNat_lt
  have eJ:=Bs.lk (x.take i)
  have hl:(x.take i).length=i:=by rw [aB];omega
  have e4:v4.toNat=Bs.gk (x.take (i+1)):=by
   have e2:v2.toNat=v1.toNat:=by
    have:=jG (v1.toNat:Int)
    rw [fo] at this
    rw [h2];omega
   have p1:(256:Nat) ^ i≤256 ^ 7:=Nat.pow_le_pow_right (by omega) (by omega)
   have p2:v1.toNat * 256 ^ i≤255 * 256 ^ 7:=Nat.mul_le_mul (by omega) p1
   have es:(nZ v2 (8 * i)).toNat=v1.toNat * 256 ^ i:=by
    unfold nZ
    rw [UInt64.toNat_ofNat',e2,Bs.vQ]
    exact Nat.mod_eq_of_lt (Nat.lt_of_le_of_lt p2 (by decide))
   rw [h4,e3,aq,UInt64.toNat_or,es,←Bs.vQ i,hv,Bs.rZ (by rw [Bs.vQ];rw [hl] at eJ;exact eJ),hd,Bs.mV,hl,Bs.vQ]
   simp only [Bs.gk]
   rw [Nat.mul_comm];simp
  rw [aa (by omega),ao,bw (ew (by omega) (by omega)),bw (aa (by omega)),e5]
  exact cY.eV ok x b at_ hx m (i+1) v4 (by omega) e4
theorem Bs.uo (r:bz) (n:Int):(Bs.fB r n).length≤8:=by
 unfold Bs.fB
 split
 ·rename_i h
  have h:=au h
  rw [aB];omega
 ·simp
theorem cY.goal (r:bz) (n:Int) (hp:decide (1≤n∧n≤8∧0≤r.at_∧r.at_≤r.b.length∧r.b.length≤1099511627776)=true):cY.F r n=some [.u64 (UInt64.ofNat (Bs.gk (Bs.fB r n))),.b (Bs.can r n),.ag (bz.cells (Bs.jt r n))]:=by
 refine cY.dq _ _ ?_
 intro v1 h1
 rw [bw hp,h1]
 exact cY.eV _ _ _ _ (Bs.uo r n) (Bs.fB r n).length 0 0 (by omega) rfl
theorem eO.goal:eO.F=some [.ag [.pt],.sl .bs []]:=eO.eY
theorem dx.goal (v:Int) (b:List UInt8) (hp:decide (b.length≤1099511627776)=true):dx.F v b=some [.ag [.pt],.sl .bs (b++[UInt8.ofInt v])]:=by
 have hp:=au hp
 refine dx.dq _ _ ?_
 intro v1 h1
 rw [h1,bw (hY (by simp;omega) (by simp;omega))]
theorem eC.goal (x b:List UInt8) (hp:decide (b.length+x.length≤2199023255552)=true):eC.F x b=some [.ag [.pt],.sl .bs (b++x)]:=by
 have hp:=au hp
 rw [eC.eY,bw (hY (by omega) (by omega))]
theorem Bs.tH (v:UInt64) (i:Nat):UInt8.ofInt ((lI v (8 * i)).toNat:Int)=UInt8.ofNat (v.toNat / 256 ^ i % 256):=by
 have h1:(lI v (8 * i)).toNat=v.toNat / 256 ^ i:=by
  unfold lI
  rw [UInt64.toNat_ofNat',Bs.vQ]
  exact Nat.mod_eq_of_lt (Nat.lt_of_le_of_lt (Nat.div_le_self _ _) v.toNat_lt)
 rw [h1]
 refine UInt8.toNat_inj.1 ?_
 have h2:=ku ((v.toNat / 256 ^ i:Nat):Int)
 rw [wrap_u8'] at h2
 rw [UInt8.toNat_ofNat']
 omega
theorem cP.eV (v:UInt64) (n:Nat) (hn:n≤8) (Ik:1≤n):∀(m i:Nat) (b:List UInt8),i+m=n→b.length≤1099511627776+i→cP.l1 v (n:Int) (i:Int) b=some [.ag [.pt],.sl .bs (b++Bs.eU m (v.toNat / 256 ^ i))]
 | 0,i,b,hi,hb=>by
  refine cP.et _ _ _ _ ?_
  intro v1 h1 v2 h2 v3 h3 v4 h4
  rw [aa (show (1:Int)≤n∧(n:Int)≤8 by omega),ao,ab (by omega)] at h1
  rw [aa (show (1:Int)≤n∧(n:Int)≤8 by omega),h1,Bs.eU,bj];rfl
 | m+1,i,b,hi,hb=>by
  refine cP.et _ _ _ _ ?_
  intro v1 h1 v2 h2 v3 h3 v4 h4
  rw [aa (show (1:Int)≤n∧(n:Int)≤8 by omega),ao,aa (by omega)] at h1
  have e2:v2=((8 * i:Nat):Int):=by rw [h2,i64_in _ (by omega)];omega
  have e4:v4=((i+1:Nat):Int):=by rw [h4,i64_in _ (by omega)];omega
  rw [e2,aq,Bs.tH] at h3
  rw [aa (show (1:Int)≤n∧(n:Int)≤8 by omega),h1]
  refine Eq.trans (b:=ck (decide (0≤v2)) (ck (fg (b.length + [v3].length) 1) (cP.l1 v n v4 (b++[v3])))) rfl ?_
  rw [bw (aa (by omega)),bw (hY (by simp;omega) (by simp;omega)),e4,cP.eV v n hn Ik m (i+1) _ (by omega) (by simp;omega),h3,Bs.eU,aC,Nat.div_div_eq_div_mul,←Nat.pow_succ];rfl
theorem cP.goal (v:UInt64) (n:Int) (b:List UInt8) (hp:decide (1≤n∧n≤8∧b.length≤1099511627776)=true):cP.F v n b=some [.ag [.pt],.sl .bs (b++Bs.eU n.toNat v.toNat)]:=by
 obtain ⟨h1,h2,h3⟩:=au hp
 obtain ⟨k,rfl⟩:∃k:Nat,n=(k:Int):=⟨n.toNat,by omega⟩
 have:=cP.eV v k (by omega) (by omega) k 0 b (by omega) (by omega)
 rw [cP.eY,aq]
 simpa using this
theorem Bs.bV:∀n v,(Bs.eU n v).length=n
 | 0,_=>rfl
 | n+1,v=>by rw [Bs.eU,aK,Bs.bV n]
theorem Bs.s7:∀(n v i:Nat),i<n→(Bs.eU n v)[i]?=some (UInt8.ofNat (v / 256 ^ i % 256))
 | n+1,v,0,_=>by simp [Bs.eU]
 | n+1,v,i+1,h=>by
  rw [Bs.eU,List.getElem?_cons_succ,Bs.s7 n (v / 256) i (by omega),Nat.div_div_eq_div_mul,Nat.pow_succ']
theorem Bs.vJ {b x:bG} {a:Nat} (h:a+x.length≤b.length):(Bs.ji b a x).length=b.length:=by
 unfold Bs.ji
 simp only [al,aB,aP];omega
theorem cW.eV (v:UInt64) (n a:Nat) (hn:n≤8) (b:List UInt8) (hb:a+n≤b.length) (hl:b.length≤2199023255552):∀(m i:Nat),i+m=n→cW.l1 (a:Int) v (n:Int) (i:Int) (Bs.ji b a ((Bs.eU n v.toNat).take i))=some [.b true,.ag [.pt],.sl .bs (Bs.ji b a (Bs.eU n v.toNat))]
 | 0,i,hi=>by
  refine cW.et _ _ _ _ _ ?_
  intro v1 h1 v2 h2 v3 h3 v4 h4
  rw [ab (by omega),af,List.take_of_length_le (by rw [Bs.bV];omega)]
 | m+1,i,hi=>by
  refine cW.et _ _ _ _ _ ?_
  intro v1 h1 v2 h2 v3 h3 v4 h4
  have e1:v1=((8 * i:Nat):Int):=by rw [h1,i64_in _ (by omega)];omega
  have e3:IntKind.i64.wrap ((a:Int)+i)=((a+i:Nat):Int):=by rw [i64_in _ (by omega)];omega
  have e4:v4=((i+1:Nat):Int):=by rw [h4,i64_in _ (by omega)];omega
  rw [e1,aq,Bs.tH] at h2
  rw [e3,aq] at h3
  have A0:((Bs.eU n v.toNat).take i).length=i:=by rw [aB,Bs.bV];omega
  have hs:(Bs.ji b a ((Bs.eU n v.toNat).take i)).length=b.length:=Bs.vJ (by rw [A0];omega)
  have step:(Bs.ji b a ((Bs.eU n v.toNat).take i)).set v3 v2=Bs.ji b a ((Bs.eU n v.toNat).take (i+1)):=by
   rw [h3,h2,List.take_add_one,Bs.s7 n _ i (by omega)]
   unfold Bs.ji
   have ht:(b.take a).length=a:=by rw [aB];omega
   rw [List.set_append_right _ _ (by rw [ht];omega),ht,Nat.add_sub_cancel_left,List.set_append_right _ _ (by rw [A0];omega),A0,Nat.sub_self]
   obtain ⟨c,r,hd⟩:∃c r,b.drop (a+i)=c :: r:=by
    cases h:b.drop (a+i) with
    | nil=>have:=congrArg List.length h;rw [aP] at this;simp at this;omega
    | cons c r=>exact ⟨c,r,rfl⟩
   have hd2:b.drop (a+(i+1))=r:=by
    have:=congrArg (List.drop 1) hd
    rw [List.drop_drop] at this
    simpa [Nat.add_assoc] using this
   rw [hd,List.set_cons_zero,al,A0,Option.toList_some,aI,hd2,aC];rfl
  rw [aa (by omega),ao,bw (aa (by omega)),e3,hs,bw (ew (by omega) (by omega)),bw (aa (by omega)),step,e4]
  exact cW.eV v n a hn b hb hl m (i+1) (by omega)
theorem cW.goal (at_:Int) (v:UInt64) (n:Int) (b:List UInt8) (hp:decide (1≤n∧n≤8∧0≤at_∧at_+n≤(b.length:Int)∧b.length≤2199023255552)=true):cW.F at_ v n b=some [.b true,.ag [.pt],.sl .bs (Bs.ji b at_.toNat (Bs.eU n.toNat v.toNat))]:=by
 obtain ⟨h1,h2,h3,h4,h5⟩:=au hp
 obtain ⟨k,rfl⟩:∃k:Nat,n=(k:Int):=⟨n.toNat,by omega⟩
 obtain ⟨a,rfl⟩:∃k:Nat,at_=(k:Int):=⟨at_.toNat,by omega⟩
 refine cW.dq _ _ _ _ ?_
 intro v1 e1 v2 e2 v3 e3 v4 e4
 have q:decide ((1:Int)≤k∧(k:Int)≤8)=true:=aa ⟨h1,h2⟩
 rw [q] at e1 e2 ⊢
 have e1:v1=true:=e1
 rw [aN,af,ab (by omega)] at e2
 rw [i64_in _ (by omega)] at e3
 rw [e2,af,ab (by omega)] at e4
 rw [e1,e2,e4]
 refine Eq.trans (b:=cW.l1 (a:Int) v (k:Int) (0:Int) b) rfl ?_
 have:=cW.eV v k a (by omega) b (by omega) (by omega) k 0 (by omega)
 rw [List.take_zero,show Bs.ji b a []=b by unfold Bs.ji;simp] at this
 exact this
theorem eD.goal (b:List UInt8):eD.F b=some [.i .i64 (b.length:Int),.ag [.pt],.sl .bs b]:=eD.eY b
theorem dF.goal (w:rK) (hp:decide (w.b.length≤2199023255552)=true):dF.F w=some [.sl .bs w.b,.ag (rK.cells w)]:=by
 have hp:=au hp
 rw [dF.eY,bw (hY (by omega) (by omega))]
end Go.Eng
set_option maxRecDepth 20000
namespace Go.Eng
open Go.IntWalk
theorem BN.lens (v:Val) (n:bG) (m:Nat) (h:bq.bS (bq.of n v)≤m):v.text.length≤m∧v.more.length≤m∧n.length≤m∧v.bytes.length≤m∧bq.bU v.kids+1≤m:=by
 simp only [bq.of,bq.bS] at h;omega
theorem bq.xj (f:bq):1≤f.bS:=by cases f;simp only [bq.bS];omega
theorem bq.gV:∀(l:List bq) (i:Nat) (d:bq),i<l.length→(l.getD i d).bS≤bq.bU l
 | f :: l,0,d,_=>by simp [bq.bU]
 | f :: l,i+1,d,h=>by
  have:=bq.gV l i d (by simpa using h)
  simp only [List.getD_cons_succ,bq.bU];omega
theorem bq.jR:∀(l:List bq),l.length≤bq.bU l
 | []=>by simp
 | f :: l=>by have:=bq.jR l;have:=bq.xj f;simp only [aK,bq.bU];omega
theorem bq.AD (f:bq):bq.of f.name f.val=f:=by cases f;rfl
theorem bq.kP (f:bq):bq.bS (bq.of [] f.val)≤f.bS:=by cases f;simp only [bq.of,bq.val,bq.bS,bq.kind,bq.bits,bq.high,bq.low,bq.text,bq.more,bq.sub,bq.bytes,bq.kids];simp
theorem vu (v:Val) (n:bG):Tree.nM v n=(if Tree.name v.kind=[] then 5 else if Tree.cw v=false then 1 else if Tree.dw v.text (decide (v.kind=11))=false∨Tree.dw v.more (decide (v.kind=11))=false∨Tree.dw n true=false then 4 else 0):=by
 unfold Tree.nM Tree.own
 grind
theorem Tree.yW (n:bG) (v:Val) (p:List Int):Tree.fC (bq.of n v) p=if Tree.nM v n≠0 then (p,Tree.nM v n) else Tree.pJ v.kids 0 p:=by
 cases v;simp only [bq.of,Tree.fC]
theorem bH.eV (n:Nat) (ks:List bq) (p:List Int) (hb:bq.bU ks+p.length<1099511627776) (hn:bq.bU ks<n):∀(m i:Nat),i+m=ks.length →
  bH.l1 n ks (ks.length:Int) i p=some [.sl .is (Tree.pJ (ks.drop i) i p).1,.i .i64 (Tree.pJ (ks.drop i) i p).2,.sl .is p]:=by
 have hlen:=bq.jR ks
 intro m
 induction m with
 | zero =>
  intro i hi
  refine bH.et _ _ _ _ _ ?_
  intro v1 h1 v2 h2 v3 h3 v4 h4
  rw [ab (by omega),af,aL (by omega)];rfl
 | succ m ih =>
  intro i hi
  refine bH.et _ _ _ _ _ ?_
  intro v1 h1 v2 h2 v3 h3 v4 h4
  rw [aq] at h1
  have hg:=bq.gV ks i (dS.fi .fl) (by omega)
  rw [←h1] at hg
  rw [bq.AD] at h2 h3 ⊢
  rw [aa (by omega),ao,bw (ew (by omega) (by omega)),bw (hY (by simp;omega) (by simp;omega)),aa (by simp;omega),aa (by omega),bc,eu,drop_cons (l:=ks) (i:=i) (by omega) (dS.fi .fl),←h1,Tree.pJ]
  by_cases h:v3=0
  ·rw [aa h,ak (by rw [h3] at h;simpa using h)]
   simp only [aN,af]
   rw [show v4=((i+1:Nat):Int) by rw [h4,i64_in _ (by omega)];omega,ih _ (by omega)]
  ·rw [ab h,ar (by rw [h3] at h;simpa using h)]
   simp only [aS,ao]
   rw [h2,h3]
theorem bH.goal (n:Nat) (v:Val) (name:bG) (path:List Int) (hp:((decide (bq.bS (bq.of name v)+path.length≤1099511627776))&&decide ((bq.bS (bq.of name v))<n+1))=true) :
  bH.F n v name path=some [.sl .is (Tree.fC (bq.of name v) path).1,.i .i64 (Tree.fC (bq.of name v) path).2,.sl .is path]:=by
 simp only [ae,az] at hp
 obtain ⟨hp,hn⟩:=hp
 obtain ⟨b1,b2,b3,_,_⟩:=BN.lens v name 1099511627776 (by omega)
 have wz:bq.bU v.kids<bq.bS (bq.of name v):=by simp only [bq.of,bq.bS];omega
 refine bH.dq n v name path ?_
 intro v1 h1 v2 h2 v3 h3 v4 h4
 rw [Tree.yW,vu]
 simp only [aW,bm,bc,eu,aa b1,aa b2,aa b3,Bool.and_true]
 have H8:fg path.length 8=true:=hY (by omega) (by omega)
 simp only [H8,eu]
 by_cases a:Tree.name v.kind=[]
 ·rw [aa a];simp [a]
 ·rw [ab a,af]
  by_cases b:Tree.cw v=false
  ·rw [b];simp [a]
  ·have b':Tree.cw v=true:=by simpa using b
   rw [b']
   have e3:v3=decide (Tree.dw v.text (decide (v.kind=11))=false∨Tree.dw v.more (decide (v.kind=11))=false∨Tree.dw name true=false):=by
    subst h1 h2 h3
    cases Tree.dw v.text (decide (v.kind=11)) <;> cases Tree.dw v.more (decide (v.kind=11)) <;> cases Tree.dw name true <;> rfl
   rw [e3,h4]
   by_cases c:Tree.dw v.text (decide (v.kind=11))=false∨Tree.dw v.more (decide (v.kind=11))=false∨Tree.dw name true=false
   ·rw [aa c];simp [a,c]
   ·rw [ab c]
    simp only [aN,af,ak a,ak c]
    have:=bH.eV n v.kids path (by omega) (by omega) v.kids.length 0 (by omega)
    rw [aR] at this
    simpa using this
theorem cA.goal (v:Val) (hp:decide (bq.bS (bq.of [] v)≤1099511627776)=true):cA.F v=some [.sl .is (Tree.fC (bq.of [] v) []).1,.i .i64 (Tree.fC (bq.of [] v) []).2]:=by
 refine cA.dq v ?_
 intro v1 h1 v2 h2
 rw [bw (by simpa using hp),h1,h2]
end Go.Eng
set_option maxRecDepth 20000
namespace Go.Eng
open Go.IntWalk
theorem dG.goal (a b:bG):dG.F a b=some [.b (decide (a=b))]:=dG.eY a b
theorem Tree.jj (a b:Val):Tree.same a b=true ↔ a=b:=by unfold Tree.same;simp
theorem Tree.oW (a b:Val) (c:Bool) (h:c=true ↔ a=b):Tree.same a b=c:=by
 rw [aM,Tree.jj,h]
theorem bq.ext_iff (a b:bq):a=b ↔ a.name=b.name∧a.val=b.val:=by
 cases a;cases b;simp [bq.name,bq.val,bq.kind,bq.bits,bq.high,bq.low,bq.text,bq.more,bq.sub,bq.bytes,bq.kids]
theorem drop_eq {α:Type} {a b:List α} {i:Nat} (ha:i<a.length) (hb:i<b.length) (d:α):a.drop i=b.drop i ↔ a.getD i d=b.getD i d∧a.drop (i+1)=b.drop (i+1):=by
 rw [drop_cons ha d,drop_cons hb d,bg]
theorem bK.eV (n:Nat) (ks:List bq) (b:Val) (hl:ks.length=b.kids.length) (hb:bq.bU ks<1099511627776) (hn:bq.bU ks<n):∀(m i:Nat),i+m=ks.length →
  ∃c:Bool,bK.l1 n ks (ks.length:Int) i b=some [.b c]∧(c=true ↔ ks.drop i=b.kids.drop i):=by
 have hlen:=bq.jR ks
 intro m
 induction m with
 | zero =>
  intro i hi
  refine ⟨true,?_,by rw [aL (by omega),aL (by omega)];simp⟩
  refine bK.et _ _ _ _ _ ?_
  intro v1 h1 v2 h2 v3 h3 v4 h4 v5 h5 v6 h6
  rw [ab (by omega),af]
 | succ m ih =>
  intro i hi
  obtain ⟨c,xN,wB⟩:=ih (i+1) (by omega)
  by_cases h:(ks.getD i (dS.fi .fl))=(b.kids.getD i (dS.fi .fl))
  ·refine ⟨c,?_,wB.trans ⟨fun x=>(drop_eq (i:=i) (by omega) (by omega) (dS.fi .fl)).2 ⟨h,x⟩,fun x=>((drop_eq (i:=i) (by omega) (by omega) (dS.fi .fl)).1 x).2⟩⟩
   refine bK.et _ _ _ _ _ ?_
   intro v1 h1 v2 h2 v3 h3 v4 h4 v5 h5 v6 h6
   rw [aq] at h1 h2
   have hg:=bq.gV ks i (dS.fi .fl) (by omega)
   rw [←h1] at hg h
   rw [←h2] at h
   have hv:=bq.kP v1
   rw [aa (by omega),ao,show v6=((i+1:Nat):Int) by rw [h6,i64_in _ (by omega)];omega,xN,bw (ew (by omega) (by omega)),bw (ew (by omega) (by omega)),show cU (i:Int) b.kids.length=true from ew (by omega) (by omega),aa (show bq.bS (bq.of [] v1.val)<n by omega),aa (show bq.bS (bq.of [] v1.val)≤1099511627776 by omega)]
   have e4:v4=true:=by rw [h4,Tree.jj,h]
   rw [e4,h,aa rfl] at h5
   rw [h,aa rfl] at h3 ⊢
   subst h3 h5
   rfl
  ·refine ⟨false,?_,⟨fun x=>(by cases x),fun x=>(h ((drop_eq (i:=i) (by omega) (by omega) (dS.fi .fl)).1 x).1).elim⟩⟩
   refine bK.et _ _ _ _ _ ?_
   intro v1 h1 v2 h2 v3 h3 v4 h4 v5 h5 v6 h6
   rw [aq] at h1 h2
   have hg:=bq.gV ks i (dS.fi .fl) (by omega)
   rw [←h1] at hg h
   rw [←h2] at h
   have hv:=bq.kP v1
   rw [aa (by omega),ao,bw (ew (by omega) (by omega)),bw (ew (by omega) (by omega)),show cU (i:Int) b.kids.length=true from ew (by omega) (by omega),aa (show bq.bS (bq.of [] v1.val)<n by omega),aa (show bq.bS (bq.of [] v1.val)≤1099511627776 by omega)]
   by_cases hN:v1.name=v2.name
   ·have e4:v4=false:=by
     have:v4≠true:=by rw [h4,Ne,Tree.jj];exact fun e=>h ((bq.ext_iff _ _).2 ⟨hN,e⟩)
     simpa using this
    rw [e4,aa hN] at h5
    rw [aa hN] at h3 ⊢
    subst h3 h5
    rfl
   ·rw [ab hN] at h3 h5 ⊢
    subst h3 h5
    rfl
theorem Val.tz (a b:Val):a=b ↔ Tree.jJ a b=true∧a.kids=b.kids:=by
 cases a;cases b;simp [Tree.jJ,and_assoc]
theorem bK.goal (n:Nat) (a b:Val) (hp:((decide (bq.bS (bq.of [] a)≤1099511627776))&&decide ((bq.bS (bq.of [] a))<n+1))=true):bK.F n a b=some [.b (Tree.same a b)]:=by
 simp only [ae,az] at hp
 obtain ⟨Fm,hn⟩:=hp
 have wz:bq.bU a.kids<bq.bS (bq.of [] a):=by simp only [bq.of,bq.bS];omega
 refine bK.dq n a b ?_
 intro v1 h1 v2 h2 v3 h3 v4 h4 v5 h5 v6 h6 v7 h7 v8 h8 v9 h9 v10 kL v11 uK
 have e8:v8=!Tree.jJ a b:=by
  subst h2 h3 h4 h5 h6 h7 h8
  unfold Tree.jJ
  simp only [Bool.cond_true_left,Bool.not_and,Bool.or_assoc]
 subst h1
 simp only [bc,aW,bm,eu]
 by_cases hl:a.kids.length=b.kids.length
 ·obtain ⟨c,xN,wB⟩:=bK.eV n a.kids b hl (by omega) (by omega) a.kids.length 0 (by omega)
  rw [aa (by omega),e8] at uK
  simp only [aN] at uK
  rw [uK,h9]
  rw [aR,aR] at wB
  cases ho:Tree.jJ a b
  ·rw [Tree.oW a b false (by rw [Val.tz,ho];simp)];rfl
  ·rw [Tree.oW a b c (by rw [Val.tz,ho,wB];simp)];exact xN
 ·rw [ab (by omega),e8] at uK
  have:v11=true:=by rw [uK];cases Tree.jJ a b <;> rfl
  rw [this,Tree.oW a b false (by constructor;(· intro h;cases h);(· intro h;rw [h] at hl;exact (hl rfl).elim))];rfl
theorem Tree.oE (f:bq):Tree.depth (bq.of [] f.val)=Tree.depth f:=by cases f;rfl
theorem Tree.nu (n:bG) (v:Val):Tree.depth (bq.of n v)=if v.kind=3∨v.kind=4∨v.kind=15 then Tree.eK v.kids+1 else 0:=by cases v;rfl
theorem Tree.lz:∀l:List bq,Tree.eK l≤bq.bU l∧∀f∈l,Tree.depth f≤bq.bS f
 | []=>by simp [Tree.eK]
 | f :: l=>by
  obtain ⟨h1,h2⟩:=Tree.lz l
  have hf:Tree.depth f≤bq.bS f:=by
   obtain ⟨n,k,b,h,lo,t,m,s,y,ks⟩:=f
   have:=(Tree.lz ks).1
   unfold Tree.depth bq.bS
   split <;> omega
  refine ⟨by simp only [Tree.eK,bq.bU];omega,fun g hg=>?_⟩
  rcases aD.1 hg with rfl | hg
  ·exact hf
  ·exact h2 g hg
theorem Tree.wV (f:bq):Tree.depth f≤bq.bS f:=(Tree.lz [f]).2 f (List.mem_cons_self ..)
theorem bI.eV (n:Nat) (ks:List bq) (hb:bq.bU ks<1099511627776) (hn:bq.bU ks<n):∀(m i d:Nat),i+m=ks.length→d≤1099511627776 →
  bI.l1 n d ks (ks.length:Int) i=some [.i .i64 ((max d (Tree.eK (ks.drop i))+1:Nat):Int)]:=by
 have hlen:=bq.jR ks
 intro m
 induction m with
 | zero =>
  intro i d hi hd
  refine bI.et _ _ _ _ _ ?_
  intro v1 h1 v2 h2 v3 h3 v4 h4
  rw [ab (by omega),af,aL (by omega),h4,i64_in _ (by omega)]
  simp [Tree.eK]
 | succ m ih =>
  intro i d hi hd
  refine bI.et _ _ _ _ _ ?_
  intro v1 h1 v2 h2 v3 h3 v4 h4
  rw [aq] at h1
  have hg:=bq.gV ks i (dS.fi .fl) (by omega)
  rw [←h1] at hg
  have hv:=bq.kP v1
  have IU:=Tree.wV v1
  rw [aa (by omega),ao,bw (ew (by omega) (by omega)),aa (show bq.bS (bq.of [] v1.val)<n by omega),aa (show bq.bS (bq.of [] v1.val)≤1099511627776 by omega),bc,eu,
   show v3=((i+1:Nat):Int) by rw [h3,i64_in _ (by omega)];omega,h2,Tree.oE,show r7 (d:Int) (Tree.depth v1:Int)=((max d (Tree.depth v1):Nat):Int) by unfold r7;split <;> omega,ih _ _ (by omega) (by omega),drop_cons (l:=ks) (i:=i) (by omega) (dS.fi .fl),←h1,Tree.eK,Nat.max_assoc]
theorem bI.goal (n:Nat) (v:Val) (hp:((decide (bq.bS (bq.of [] v)≤1099511627776))&&decide ((bq.bS (bq.of [] v))<n+1))=true):bI.F n v=some [.i .i64 (Tree.depth (bq.of [] v):Int)]:=by
 simp only [ae,az] at hp
 obtain ⟨Fm,hn⟩:=hp
 have wz:bq.bU v.kids<bq.bS (bq.of [] v):=by simp only [bq.of,bq.bS];omega
 refine bI.dq n v ?_
 intro v1 h1 v2 h2 v3 h3
 simp only [aW,eu]
 have key:=bI.eV n v.kids (by omega) (by omega) v.kids.length 0 0 (by omega) (by omega)
 rw [aR] at key
 rw [Tree.nu]
 by_cases h:v.kind=3∨v.kind=4∨v.kind=15
 ·rw [ar h,show v2=false by subst h1 h2;rcases h with h | h | h <;> simp [h],af,h3]
  rw [Nat.zero_max] at key
  exact key
 ·rw [ak h,show v2=true by subst h1 h2;simp only [not_or] at h;simp [h.1,h.2.1,h.2.2],ao];rfl
end Go.Eng
set_option maxRecDepth 20000
namespace Go.Eng
open Go.IntWalk
theorem cd.goal (b:List UInt8) (c:UInt8):cd.F b c=some [.i .i64 (Lib.indexByte b c)]:=cd.eY b c
theorem wh {l:bG} {c:UInt8} (h:¬Lib.indexByte l c<0):∃k:Nat,Lib.indexByte l c=(k:Int)∧k<l.length∧l[k]?=some c∧∀j,j<k→l[j]?≠some c:=by
 obtain ⟨k,hk⟩:∃k:Nat,Lib.indexByte l c=(k:Int):=⟨(Lib.indexByte l c).toNat,by omega⟩
 obtain ⟨h1,h2⟩:=Lib.indexByte_some hk
 exact ⟨k,hk,(av.1 h1).1,h1,h2⟩
theorem cL.goal (b:List UInt8) (a:Int) (hp:decide (b.length≤1099511627776)=true):cL.F b a=some [.s (Bs.ctext b a).1,.i .i64 (Bs.ctext b a).2.1,.i .i64 (Bs.ctext b a).2.2]:=by
 have hp:=au hp
 refine cL.dq _ _ ?_
 intro v1 h1 v2 h2 v3 h3 v4 h4 v5 h5
 have t:∀c:Bool,(!(!c) || (!c))=true∧(!(!c) || ((!c)&&(!c)))=true∧(c || (!c))=true:=by decide
 rw [bw (t _).1,bw (t _).2.1,bw (t _).2.2]
 unfold Bs.ctext
 by_cases c:a<0∨(b.length:Int)<a
 ·rw [ar c]
  have:v1=true:=by
   rw [h1]
   by_cases d:a<0
   ·rw [aa d];rfl
   ·rw [ab d,af,aa (by omega)]
  rw [this];rfl
 ·rw [ak c]
  have:v1=false:=by rw [h1,ab (by omega),af,ab (by omega)]
  rw [this,af,bw (hO (by omega) (by omega) (by omega))]
  by_cases d:v2<0
  ·rw [aa d,ao,ar (by rw [←h2];exact d)]
  ·rw [ab d,af,ak (by rw [←h2];exact d),←h2]
   obtain ⟨k,k1,k2,_⟩:=wh (by rw [←h2];exact d)
   rw [←h2] at k1
   rw [aP] at k2
   have e3:v3=a+k:=by rw [h3,k1,i64_in _ (by omega)]
   have e4:v4=(b.drop a.toNat).take v2.toNat:=by rw [h4,e3,List.drop_take,k1,show (a+(k:Int)).toNat - a.toNat=(k:Int).toNat by omega]
   have e5:v5=a+v2+1:=by rw [h5,e3,k1,i64_in _ (by omega)]
   have l4:v4.length≤1099511627776:=by rw [e4,aB,aP];omega
   have cc:en a v3 b.length=true:=hO (by omega) (by omega) (by omega)
   rw [bw cc,bw (aa l4),←e4]
   cases hw:dt.whole v4 with
   | false=>rw [ar rfl];rfl
   | true=>rw [ak (by simp),bw cc,e5];rfl
theorem xc {X:Type} {k a b c d:Int} (f:Bool→X):cond (decide (k=a)) (f (decide (k=a))) (cond (decide (k=b)) (f (decide (k=b))) (cond (decide (k=c)) (f (decide (k=c))) (f (decide (k=d)))))=f (decide (k=a∨k=b∨k=c∨k=d)):=by
 by_cases h1:k=a
 ·simp [h1]
 by_cases h2:k=b
 ·subst h2;simp [h1]
 by_cases h3:k=c
 ·subst h3;simp [h1,h2]
 simp [h1,h2,h3]
theorem xd {X:Type} {k a b c:Int} (f:Bool→X):cond (decide (k=a)) (f (decide (k=a))) (cond (decide (k=b)) (f (decide (k=b))) (f (decide (k=c))))=f (decide (k=a∨k=b∨k=c)):=by
 by_cases h1:k=a
 ·simp [h1]
 by_cases h2:k=b
 ·subst h2;simp [h1]
 simp [h1,h2]
theorem xe {X:Type} {k a b:Int} (f:Bool→X):cond (decide (k=a)) (f (decide (k=a))) (f (decide (k=b)))=f (decide (k=a∨k=b)):=by
 by_cases h1:k=a
 ·simp [h1]
 simp [h1]
namespace Bs
mutual
theorem size_le:∀f:bq,size f+f.name.length+2≤30 * bq.bS f
 | .mk nm k b h l t m s y ks=>by
  have:=mF ks
  simp only [size,bq.bS,bq.name]
  have p:∀{c:Prop} [Decidable c] {a b n:Nat},a≤n→b≤n→(if c then a else b)≤n:=fun ha hb=>by split;exact ha;exact hb
  suffices hs:(if gK k then 8 else if k=16 then 4 else if k=8 then 1 else if k=19 then 16 else if gn k then t.length+5 else if k=11 then t.length+m.length+2 else if k=5 then (if s=2 then y.length+9 else y.length+5) else if k=7 then 12 else if k=12 then t.length+17 else if k=3∨k=4 then bY ks+5 else if k=15 then t.length+9+(bY ks+5) else 0)≤17+t.length+m.length+y.length+30 * bq.bU ks by omega
  refine p (by omega) (p (by omega) (p (by omega) (p (by omega) (p (by omega) (p (by omega) (p (p (by omega) (by omega)) (p (by omega) (p (by omega) (p (by omega) (p (by omega) (by omega)))))))))))
theorem mF:∀l:List bq,bY l≤30 * bq.bU l
 | []=>by simp [bY]
 | f :: r=>by
  have:=size_le f
  have:=mF r
  simp only [bY,bq.bU];omega
end
mutual
theorem wQ:∀f:bq,(enc f).length+f.name.length+2≤30 * bq.bS f
 | .mk nm k b h l t m s y ks=>by
  have:=mo ks
  have e:∀x:bG,(fv x).length=x.length+5∧(ic x).length=x.length+5∧(nR x).length=x.length+4:=fun x=>by
   simp only [fv,ic,nR,al,bV,aI];omega
  have e2:(nQ s y).length≤y.length+9:=by
   unfold nQ
   split <;> simp only [al,aK,bV] <;> omega
  simp only [enc,bq.bS,bq.name]
  have p:∀{c:Prop} [Decidable c] {a b:bG} {n:Nat},a.length≤n→b.length≤n→(if c then a else b).length≤n:=fun ha hb=>by split;exact ha;exact hb
  suffices hs:(if gK k=true then eU 8 b.toNat else if k=16 then eU 4 b.toNat else if k=8 then eU 1 b.toNat else if k=19 then eU 8 l.toNat++eU 8 h.toNat else if gn k=true then fv t else if k=11 then (t++[0])++(m++[0]) else if k=5 then nQ s y else if k=7 then y else if k=12 then fv t++y else if k=3∨k=4 then ic (dT ks) else if k=15 then nR (fv t++ic (dT ks)) else []).length≤16+t.length+m.length+y.length+30 * bq.bU ks by omega
  refine p (by rw [bV];omega) (p (by rw [bV];omega) (p (by rw [bV];omega) (p (by rw [al,bV,bV];omega) (p (by rw [(e t).1];omega) (p (by simp only [al,aI];omega) (p (by omega) (p (by omega) (p (by rw [al,(e t).1];omega) (p (by rw [(e _).2.1];omega) (p (by rw [(e _).2.2,al,(e t).1,(e _).2.1];omega) (by simp)))))))))))
theorem mo:∀l:List bq,(dT l).length≤30 * bq.bU l
 | []=>by simp [dT]
 | f :: r=>by
  have:=wQ f
  have:=mo r
  simp only [dT,bq.bU,aK,al,aI]
  simp only [aO];omega
end
theorem qh (f:bq):size (bq.of [] f.val)=size f:=by cases f;simp only [bq.of,bq.val,bq.kind,bq.bits,bq.high,bq.low,bq.text,bq.more,bq.sub,bq.bytes,bq.kids,size]
theorem tB (f:bq):enc (bq.of [] f.val)=enc f:=by cases f;simp only [bq.of,bq.val,bq.kind,bq.bits,bq.high,bq.low,bq.text,bq.more,bq.sub,bq.bytes,bq.kids,enc]
end Bs
theorem yR (f:bq):0<bq.bS f:=by cases f;simp only [bq.bS];omega
theorem nk:∀l:List bq,l.length≤bq.bU l
 | []=>by simp [bq.bU]
 | f :: r=>by have:=nk r;have:=yR f;simp only [bq.bU,aK];omega
theorem tx (f:bq):bq.bS (bq.of [] f.val)≤bq.bS f:=by
 cases f;simp only [bq.of,bq.val,bq.kind,bq.bits,bq.high,bq.low,bq.text,bq.more,bq.sub,bq.bytes,bq.kids,bq.bS,aO];omega
theorem ny {f:bq}:∀{l:List bq},f∈l→bq.bS f≤bq.bU l
 | g :: l,h=>by
  simp only [bq.bU]
  rcases aD.1 h with rfl | h
  ·omega
  ·have:=ny h;omega
theorem cF.eV (n:Nat) (l:List bq) (hn:2 * bq.bU l<n) (hb:bq.bU l≤1000000000000):∀(m i:Nat) (s:Nat),i+m=l.length→s+30 * bq.bU (l.drop i)≤40000000000000→cF.l1 n (s:Int) l (l.length:Int) (i:Int)=some [.i .i64 ((s+Bs.bY (l.drop i):Nat):Int)]
 | 0,i,s,hi,hs=>by
  refine cF.et _ _ _ _ _ ?_
  intro v1 h1 v2 h2 v3 h3 v4 h4 v5 h5 v6 h6
  rw [ab (by omega),af,aL (by omega)];simp [Bs.bY]
 | m+1,i,s,hi,hs=>by
  have hk:=nk l
  refine cF.et _ _ _ _ _ ?_
  intro v1 h1 v2 h2 v3 h3 v4 h4 v5 h5 v6 h6
  rw [aq] at h1
  have hd:l.drop i=v1 :: l.drop (i+1):=by rw [h1];exact drop_cons (by omega) _
  have hm:v1∈l:=by rw [h1,ai,ah (by omega)];exact List.getElem_mem _
  have hv:=tx v1
  have hz:=Bs.size_le v1
  rw [hd] at hs ⊢
  simp only [bq.bU] at hs
  rw [Bs.qh] at h4
  have e5:v5=((s+(v1.name.length+2+Bs.size v1):Nat):Int):=by
   rw [h5,h4,h3,h2,i64_in (_+2) (by omega),i64_in (_+_+_) (by omega),i64_in _ (by omega)];omega
  have e6:v6=((i+1:Nat):Int):=by rw [h6,i64_in _ (by omega)];omega
  have c:(decide (bq.bS (bq.of [] (bq.val v1))≤1000000000000)&&decide (2 * bq.bS (bq.of [] (bq.val v1))<n))=true:=by
   have:=ny hm
   rw [ae];exact ⟨aa (by omega),aa (by omega)⟩
  rw [aa (by omega),ao,bw (ew (by omega) (by omega)),bw c,e5,e6,cF.eV n l hn hb m (i+1) _ (by omega) (by omega)]
  simp only [Bs.bY]
  congr 4
  omega
theorem cF.goal (n:Nat) (l:List bq) (hp:(decide (bq.bU l≤1000000000000)&&decide (2 * bq.bU l+1<n+1))=true):cF.F n l=some [.i .i64 ((Bs.bY l+5:Nat):Int)]:=by
 rw [ae] at hp
 obtain ⟨h1,h2⟩:=hp
 have h1:=au h1
 have h2:=au h2
 have:=cF.eV n l (by omega) h1 l.length 0 5 (by omega) (by rw [aR];omega)
 rw [aR,Nat.add_comm 5] at this
 rw [cF.eY];exact this
theorem ct.goal (n:Nat) (v:Val) (hp:(decide (bq.bS (bq.of [] v)≤1000000000000)&&decide (2 * bq.bS (bq.of [] v)<n+1))=true):ct.F n v=some [.i .i64 ((Bs.size (bq.of [] v):Nat):Int)]:=by
 rw [ae] at hp
 obtain ⟨h1,h2⟩:=hp
 have h1:=au h1
 have h2:=au h2
 have hz:=Bs.mF v.kids
 have hb:bq.bS (bq.of [] v)=1+v.text.length+v.more.length+v.bytes.length+bq.bU v.kids:=by simp only [bq.of,bq.bS,aO,Nat.add_zero]
 have e:Bs.size (bq.of [] v)=if Bs.gK v.kind then 8 else if v.kind=16 then 4 else if v.kind=8 then 1 else if v.kind=19 then 16 else if Bs.gn v.kind then v.text.length+5 else if v.kind=11 then v.text.length+v.more.length+2 else if v.kind=5 then (if v.sub=2 then v.bytes.length+9 else v.bytes.length+5) else if v.kind=7 then 12 else if v.kind=12 then v.text.length+17 else if v.kind=3∨v.kind=4 then Bs.bY v.kids+5 else if v.kind=15 then v.text.length+9+(Bs.bY v.kids+5) else 0:=by
  simp only [bq.of,Bs.size]
 have cb:(decide (bq.bU v.kids≤1000000000000)&&decide (2 * bq.bU v.kids+1<n))=true:=by
  rw [ae];exact ⟨aa (by omega),aa (by omega)⟩
 have j3:ct.j3 n v.kind (decide (v.kind=3∨v.kind=4)) v=some [.i .i64 ((if v.kind=3∨v.kind=4 then Bs.bY v.kids+5 else if v.kind=15 then v.text.length+9+(Bs.bY v.kids+5) else 0:Nat):Int)]:=by
  refine ct.qB _ _ _ _ ?_
  intro v1 e1 v2 e2 v3 e3
  rw [bw cb]
  by_cases c:v.kind=3∨v.kind=4
  ·rw [aa c,ao,ar c,e1]
  rw [ab c,af,ak c]
  by_cases c:v.kind=15
  ·rw [aa c,ao,ar c,bw cb,e3,e2,e1,i64_in (_+9) (by omega),i64_in _ (by omega)]
   exact congrArg (fun x=>some [TV.i .i64 x]) (by omega)
  ·rw [ab c,ak c];rfl
 have j2:ct.j2 n v.kind (Bs.gn v.kind) v=some [.i .i64 ((if Bs.gn v.kind then v.text.length+5 else if v.kind=11 then v.text.length+v.more.length+2 else if v.kind=5 then (if v.sub=2 then v.bytes.length+9 else v.bytes.length+5) else if v.kind=7 then 12 else if v.kind=12 then v.text.length+17 else if v.kind=3∨v.kind=4 then Bs.bY v.kids+5 else if v.kind=15 then v.text.length+9+(Bs.bY v.kids+5) else 0:Nat):Int)]:=by
  refine ct.lM _ _ _ _ ?_
  intro v1 e1 v2 e2 v3 e3 v4 e4 v5 e5 v6 e6 v7 e7 v8 e8
  cases ht:Bs.gn v.kind with
  | true=>rw [ao,ar rfl,e2,e1,i64_in _ (by omega)];rfl
  | false =>
   rw [af,ak (by simp)]
   by_cases c:v.kind=11
   ·rw [aa c,ao,ar c,e4,e3,e1,i64_in (_+(v.more.length:Int)) (by omega),i64_in _ (by omega)];rfl
   rw [ab c,af,ak c]
   by_cases c:v.kind=5
   ·rw [aa c,ao,ar c]
    by_cases d:v.sub=2
    ·rw [aa d,ao,ar d,e6,e5,i64_in _ (by omega)];rfl
    ·rw [ab d,af,ak d,e7,e5,i64_in _ (by omega)];rfl
   rw [ab c,af,ak c]
   by_cases c:v.kind=7
   ·rw [aa c,ao,ar c];rfl
   rw [ab c,af,ak c]
   by_cases c:v.kind=12
   ·rw [aa c,ao,ar c,e8,e1,i64_in _ (by omega)];rfl
   rw [ab c,af,ak c]
   rw [xe (fun b=>ct.j3 n v.kind b v)]
   exact j3
 rw [ct.eY,xc (fun b=>ct.j1 n v.kind b v),ct.qD,e,show decide (v.kind=1∨v.kind=9∨v.kind=17∨v.kind=18)=Bs.gK v.kind from rfl]
 cases hn:Bs.gK v.kind with
 | true=>rw [ao,ar rfl];rfl
 | false =>
  rw [af,ak (by simp)]
  by_cases c:v.kind=16
  ·rw [aa c,ao,ar c];rfl
  rw [ab c,af,ak c]
  by_cases c:v.kind=8
  ·rw [aa c,ao,ar c];rfl
  rw [ab c,af,ak c]
  by_cases c:v.kind=19
  ·rw [aa c,ao,ar c];rfl
  rw [ab c,af,ak c]
  rw [xd (fun b=>ct.j2 n v.kind b v)]
  exact j2
theorem eB.goal (l:Lim):eB.F l=some [.b (Bs.may l)]:=by
 refine eB.dq _ ?_
 intro v1 h1 v2 h2 v3 h3 v4 h4 v5 h5
 simp only [FF,eu]
 rw [h5,h4,h3,h2,h1]
 unfold Bs.may
 simp only [Bool.decide_and]
 cases decide (1≤l.depth) <;> cases decide (l.depth≤200) <;> cases decide (5≤l.size) <;> cases decide (l.size≤16777216) <;> cases decide (0≤l.out) <;> rfl
theorem dX.goal (v:Val) (l:Lim) (hp:decide (bq.bS (bq.of [] v)≤1000000000000)=true):dX.F v l=some [.i .i64 (Bs.fits v l)]:=by
 have h:=au hp
 refine dX.dq _ _ ?_
 intro v1 h1 v2 h2
 unfold Bs.fits
 cases hm:Bs.may l with
 | false=>rfl
 | true =>
  rw [aN,af,ak (by simp),bw (aa (by omega)),bw hp]
  by_cases c:v.kind=3
  ·rw [aa c,aN,af,ak (by simp [c]),h1,h2]
   by_cases d:l.depth<(Tree.depth (bq.of [] v):Int)
   ·rw [aa d,ao,ar d]
   ·rw [ab d,af,ak d]
    by_cases q:l.size<(Bs.size (bq.of [] v):Int)
    ·rw [aa q,ao,ar q]
    ·rw [ab q,af,ak q]
  ·rw [ab c,aS,ao,ar c]
end Go.Eng
set_option maxRecDepth 20000
namespace Go.Eng
open Go.IntWalk
theorem xX {n:Nat} (h:n<18446744073709551616):(UInt64.ofInt (n:Int)).toNat=n:=by
 have:=jG (n:Int)
 rw [fo] at this
 omega
namespace Bs
theorem mG {b x r y:bG} (h:y.length=x.length):ji (b++(x++r)) b.length y=b++(y++r):=by
 unfold ji
 rw [List.take_left,h,←List.drop_drop,List.drop_left,List.drop_left]
theorem fu (s:bG):(fv s).length=s.length+5:=by simp only [fv,al,bV,aI];omega
theorem gg (s:bG):(ic s).length=s.length+5:=by simp only [ic,al,bV,aI];omega
end Bs
theorem cS.goal (s:bG) (b:List UInt8) (hp:decide (b.length+s.length≤1099511627776)=true):cS.F s b=some [.ag [.pt],.sl .bs (b++(s++[0]))]:=by
 have h:=au hp
 refine cS.dq _ _ ?_
 intro v1 h1
 rw [bw (oh.2 (by rw [lg];omega)),bw (aa (by omega)),bw (aa (by rw [al];omega)),h1,aC];rfl
theorem eh.goal (s:bG) (b:List UInt8) (hp:decide (b.length+s.length+10≤1099511627776)=true):eh.F s b=some [.ag [.pt],.sl .bs (b++Bs.fv s)]:=by
 have h:=au hp
 refine eh.dq _ _ ?_
 intro v1 h1 v2 h2
 have e1:v1=((s.length+1:Nat):Int):=by rw [h1,i64_in _ (by omega)];omega
 rw [e1,xX (by omega)] at h2
 have h2:v2=b++Bs.eU 4 (s.length+1):=h2
 rw [bw (aa ⟨by omega,by omega,by omega⟩),bw (aa (by rw [h2,al,Bs.bV];omega)),h2,aC];rfl
theorem bC.eV (n a:Nat) (l:List bq) (hn:2 * bq.bU l<n) (hL:bq.bU l≤1000000000000):∀(m i:Nat) (x:List UInt8),i+m=l.length→a+4≤x.length→x.length+30 * bq.bU (l.drop i)+46≤1000000000000 →
  bC.l1 n (a:Int) l (l.length:Int) (i:Int) x=some [.ag [.pt],.sl .bs (Bs.ji (x++(Bs.dT (l.drop i)++[0])) a (Bs.eU 4 (x.length+(Bs.dT (l.drop i)).length+1 - a)))]
 | 0,i,x,hi,ha,hs=>by
  refine bC.et _ _ _ _ _ _ ?_
  intro v1 h1 v2 h2 v3 h3 v4 h4 v5 h5 v6 h6 v7 h7 v8 h8
  have e6:v6=x++[0]:=h6
  have l6:v6.length=x.length+1:=by rw [e6];simp
  have e7:v7=((x.length+1 - a:Nat):Int):=by rw [h7,l6,i64_in _ (by omega)];omega
  rw [e7,xX (by omega),aq] at h8
  rw [ab (by omega),af,bw (aa (by omega)),bw (aa ⟨by omega,by omega,by omega,by omega,by omega⟩),h8,aL (by omega),e6]
  simp [Bs.dT]
 | m+1,i,x,hi,ha,hs=>by
  have hk:=nk l
  refine bC.et _ _ _ _ _ _ ?_
  intro v1 h1 v2 h2 v3 h3 v4 h4 v5 h5 v6 h6 v7 h7 v8 h8
  rw [aq] at h1
  have hd:l.drop i=v1 :: l.drop (i+1):=by rw [h1];exact drop_cons (by omega) _
  have hm:v1∈l:=by rw [h1,ai,ah (by omega)];exact List.getElem_mem _
  have hv:=tx v1
  have hb:=ny hm
  have hz:=Bs.wQ v1
  rw [hd] at hs ⊢
  simp only [bq.bU] at hs
  rw [Bs.tB] at h4
  have l2:v2.length=x.length+1:=by rw [h2];simp
  have l3:v3.length=x.length+v1.name.length+2:=by rw [h3,al,l2];simp;omega
  have l4:v4.length=x.length+v1.name.length+2+(Bs.enc v1).length:=by rw [h4,al,l3]
  have IP:v1.name.length+1≤bq.bS v1:=by cases v1;simp only [bq.name,bq.bS];omega
  have zP:bq.bS (bq.of [] v1.val)+v1.name.length=bq.bS v1:=by cases v1;simp only [bq.of,bq.val,bq.kind,bq.bits,bq.high,bq.low,bq.text,bq.more,bq.sub,bq.bytes,bq.kids,bq.bS,bq.name,aO];omega
  have e5:v5=((i+1:Nat):Int):=by rw [h5,i64_in _ (by omega)];omega
  have c:(decide (v3.length+30 * bq.bS (bq.of [] (bq.val v1))+30≤1000000000000)&&decide (2 * bq.bS (bq.of [] (bq.val v1))<n))=true:=by
   rw [ae];exact ⟨aa (by omega),aa (by omega)⟩
  rw [aa (by omega),ao,bw (ew (by omega) (by omega)),bw (aa (by omega)),bw (aa (by omega)),bw c,e5,bC.eV n a l hn hL m (i+1) v4 (by omega) (by omega) (by omega)]
  have ex:v4++(Bs.dT (l.drop (i+1))++[0])=x++(Bs.dT (v1 :: l.drop (i+1))++[0]):=by
   rw [h4,h3,h2,Bs.dT]
   simp only [aC,List.cons_append,bf]
  have el:v4.length+(Bs.dT (l.drop (i+1))).length+1=x.length+(Bs.dT (v1 :: l.drop (i+1))).length+1:=by
   rw [l4,Bs.dT]
   simp only [aK,al,aO];omega
  rw [ex,el]
theorem bC.goal (n:Nat) (l:List bq) (b:List UInt8) (hp:(decide (b.length+30 * bq.bU l+50≤1000000000000)&&decide (2 * bq.bU l+1<n+1))=true):bC.F n l b=some [.ag [.pt],.sl .bs (b++Bs.fw l)]:=by
 rw [ae] at hp
 obtain ⟨h1,h2⟩:=hp
 have h1:=au h1
 have h2:=au h2
 refine bC.dq _ _ _ ?_
 intro v1 e1
 have e1:v1=b++Bs.eU 4 0:=e1
 have l1:v1.length=b.length+4:=by rw [e1,al,Bs.bV]
 rw [bw (aa ⟨by omega,by omega,by omega⟩)]
 refine (bC.eV n b.length l (by omega) (by omega) l.length 0 v1 (by omega) (by omega) (by rw [aR];omega)).trans ?_
 rw [aR,l1,e1,aC,Bs.mG (by rw [Bs.bV,Bs.bV])]
 unfold Bs.fw Bs.ic
 rw [show b.length+4+(Bs.dT l).length+1 - b.length=(Bs.dT l).length+5 by omega]
theorem bB.goal (n:Nat) (v:Val) (b:List UInt8) (hp:(decide (b.length+30 * bq.bS (bq.of [] v)+30≤1000000000000)&&decide (2 * bq.bS (bq.of [] v)<n+1))=true):bB.F n v b=some [.ag [.pt],.sl .bs (b++Bs.enc (bq.of [] v))]:=by
 rw [ae] at hp
 obtain ⟨h1,h2⟩:=hp
 have h1:=au h1
 have h2:=au h2
 have hz:=Bs.mo v.kids
 have hb:bq.bS (bq.of [] v)=1+v.text.length+v.more.length+v.bytes.length+bq.bU v.kids:=by simp only [bq.of,bq.bS,aO,Nat.add_zero]
 have e:Bs.enc (bq.of [] v)=if Bs.gK v.kind then Bs.eU 8 v.bits.toNat else if v.kind=16 then Bs.eU 4 v.bits.toNat else if v.kind=8 then Bs.eU 1 v.bits.toNat else if v.kind=19 then Bs.eU 8 v.low.toNat++Bs.eU 8 v.high.toNat else if Bs.gn v.kind then Bs.fv v.text else if v.kind=11 then (v.text++[0])++(v.more++[0]) else if v.kind=5 then Bs.nQ v.sub v.bytes else if v.kind=7 then v.bytes else if v.kind=12 then Bs.fv v.text++v.bytes else if v.kind=3∨v.kind=4 then Bs.ic (Bs.dT v.kids) else if v.kind=15 then Bs.nR (Bs.fv v.text++Bs.ic (Bs.dT v.kids)) else []:=by
  simp only [bq.of,Bs.enc]
 have cb:∀x:List UInt8,x.length≤b.length+v.text.length+10→(decide (x.length+30 * bq.bU v.kids+50≤1000000000000)&&decide (2 * bq.bU v.kids+1<n))=true:=fun x hx=>by
  rw [ae];exact ⟨aa (by omega),aa (by omega)⟩
 have j4:bB.j4 n v.kind (decide (v.kind=3∨v.kind=4)) v b=some [.ag [.pt],.sl .bs (b++if v.kind=3∨v.kind=4 then Bs.ic (Bs.dT v.kids) else if v.kind=15 then Bs.nR (Bs.fv v.text++Bs.ic (Bs.dT v.kids)) else [])]:=by
  refine bB.s8 _ _ _ _ _ ?_
  intro v1 e1 v2 e2 v3 e3 v4 e4 v5 e5 v6 e6
  by_cases c:v.kind=3∨v.kind=4
  ·rw [aa c,ao,ar c,bw (cb b (by omega)),e1];rfl
  rw [ab c,af,ak c]
  by_cases c:v.kind=15
  ·have e2:v2=b++Bs.eU 4 0:=e2
   have l2:v2.length=b.length+4:=by rw [e2,al,Bs.bV]
   have l3:v3.length=b.length+v.text.length+9:=by rw [e3,al,l2,Bs.fu];omega
   have l4:v4.length=b.length+v.text.length+14+(Bs.dT v.kids).length:=by rw [e4,al,l3];unfold Bs.fw;rw [Bs.gg];omega
   have q5:v5=((v.text.length+14+(Bs.dT v.kids).length:Nat):Int):=by rw [e5,l4,i64_in _ (by omega)];omega
   rw [q5,xX (by omega),aq] at e6
   have q4:v4=b++(Bs.eU 4 0++(Bs.fv v.text++Bs.ic (Bs.dT v.kids))):=by rw [e4,e3,e2];simp only [aC];rfl
   have q6:v6=b++Bs.nR (Bs.fv v.text++Bs.ic (Bs.dT v.kids)):=by
    rw [e6,q4]
    refine (Bs.mG (by show (Bs.eU 4 _).length=_;rw [Bs.bV,Bs.bV])).trans ?_
    unfold Bs.nR
    rw [al,Bs.fu,Bs.gg]
    have:v.text.length+5+((Bs.dT v.kids).length+5)+4=v.text.length+14+(Bs.dT v.kids).length:=by omega
    rw [this];rfl
   rw [aa c,ao,ar c,bw (aa ⟨by omega,by omega,by omega⟩),bw (aa (by omega)),bw (cb v3 (by omega)),bw (aa ⟨by omega,by omega,by omega,by omega,by omega⟩),q6]
  ·rw [ab c,ak c,bj];rfl
 have j2:bB.j2 n v.kind (Bs.gn v.kind) v b=some [.ag [.pt],.sl .bs (b++if Bs.gn v.kind then Bs.fv v.text else if v.kind=11 then (v.text++[0])++(v.more++[0]) else if v.kind=5 then Bs.nQ v.sub v.bytes else if v.kind=7 then v.bytes else if v.kind=12 then Bs.fv v.text++v.bytes else if v.kind=3∨v.kind=4 then Bs.ic (Bs.dT v.kids) else if v.kind=15 then Bs.nR (Bs.fv v.text++Bs.ic (Bs.dT v.kids)) else [])]:=by
  refine bB.lM _ _ _ _ _ ?_
  intro v1 e1 v2 e2 v3 e3 v4 e4 v5 e5 v6 e6 v7 e7 v8 e8 v9 e9 v10 ly
  cases ht:Bs.gn v.kind with
  | true=>rw [ao,ar rfl,bw (aa (by omega)),e1]
  | false =>
   rw [af,ak (by simp)]
   by_cases c:v.kind=11
   ·have l2:v2.length=b.length+v.text.length+1:=by rw [e2];simp;omega
    rw [aa c,ao,ar c,bw (aa (by omega)),bw (aa (by omega)),e3,e2,aC]
   rw [ab c,af,ak c]
   by_cases c:v.kind=5
   ·rw [aa c,ao,ar c]
    rw [e4] at e5 e8 e9
    have u4:(UInt64.ofInt (v.bytes.length:Int)).toNat=v.bytes.length:=xX (by omega)
    have e9:v9=b++Bs.eU 4 v.bytes.length:=by rw [e9,u4];rfl
    have e8:v8=v7++Bs.eU 4 v.bytes.length:=by rw [e8,u4];rfl
    have e6:v6=b++Bs.eU 4 (v.bytes.length+4):=by
     have:v5.toNat=v.bytes.length+4:=by
      rw [e5,UInt64.toNat_add,u4]
      exact Nat.mod_eq_of_lt (by show v.bytes.length+4<18446744073709551616;omega)
     rw [e6,this];rfl
    have l6:v6.length=b.length+4:=by rw [e6,al,Bs.bV]
    have l7:v7.length=b.length+5:=by rw [e7,al,l6];rfl
    have l8:v8.length=b.length+9:=by rw [e8,al,l7,Bs.bV]
    have l9:v9.length=b.length+4:=by rw [e9,al,Bs.bV]
    have l10:v10.length=b.length+5:=by rw [ly,al,l9];rfl
    unfold Bs.nQ
    by_cases d:v.sub=2
    ·rw [aa d,ao,ar d,bw (aa ⟨by omega,by omega,by omega⟩),bw (aa (by omega)),bw (aa ⟨by omega,by omega,by omega⟩),bB.zC,bw (aa (by omega)),e8,e7,e6]
     simp only [aC,List.cons_append,bf]
    ·rw [ab d,af,ak d,bw (aa ⟨by omega,by omega,by omega⟩),bw (aa (by omega)),bB.zC,bw (aa (by omega)),ly,e9]
     simp only [aC,List.cons_append,bf]
   rw [ab c,af,ak c]
   by_cases c:v.kind=7
   ·rw [aa c,ao,ar c,bw (aa (by omega))]
   rw [ab c,af,ak c]
   by_cases c:v.kind=12
   ·rw [aa c,ao,ar c,bw (aa (by omega)),bw (aa (by rw [e1,al,Bs.fu];omega)),e1,aC]
   rw [ab c,af,ak c]
   rw [xe (fun q=>bB.j4 n v.kind q v b)]
   exact j4
 rw [bB.eY,xc (fun q=>bB.j1 n v.kind q v b),e,show decide (v.kind=1∨v.kind=9∨v.kind=17∨v.kind=18)=Bs.gK v.kind from rfl]
 refine bB.qC _ _ _ _ _ ?_
 intro v1 e1 v2 e2 v3 e3 v4 e4 v5 e5
 have e4:v4=b++Bs.eU 8 v.low.toNat:=e4
 have l4:v4.length=b.length+8:=by rw [e4,al,Bs.bV]
 cases hn:Bs.gK v.kind with
 | true=>rw [ao,ar rfl,bw (aa ⟨by omega,by omega,by omega⟩),e1];rfl
 | false =>
  rw [af,ak (by simp)]
  by_cases c:v.kind=16
  ·rw [aa c,ao,ar c,bw (aa ⟨by omega,by omega,by omega⟩),e2];rfl
  rw [ab c,af,ak c]
  by_cases c:v.kind=8
  ·rw [aa c,ao,ar c,bw (aa ⟨by omega,by omega,by omega⟩),e3];rfl
  rw [ab c,af,ak c]
  by_cases c:v.kind=19
  ·rw [aa c,ao,ar c,bw (aa ⟨by omega,by omega,by omega⟩),bw (aa ⟨by omega,by omega,by omega⟩),e5,e4,aC];rfl
  rw [ab c,af,ak c]
  rw [xd (fun q=>bB.j2 n v.kind q v b)]
  exact j2
theorem db.goal (v:Val) (hp:decide (bq.bS (bq.of [] v)≤10000000000)=true):db.F v=some [.sl .bs (Bs.encode v).1,.ag (cD.cells ⟨(Bs.encode v).2.1,0,(Bs.encode v).2.2⟩)]:=by
 have h:=au hp
 have hb:bq.bS (bq.of [] v)=1+v.text.length+v.more.length+v.bytes.length+bq.bU v.kids:=by simp only [bq.of,bq.bS,aO,Nat.add_zero]
 have hz:=Bs.mo v.kids
 refine db.dq _ ?_
 intro v1 h1 v2 h2 v3 h3 v4 h4
 have e4:v4=Bs.fw v.kids:=h4
 have l4:v4.length=(Bs.dT v.kids).length+5:=by rw [e4];unfold Bs.fw;rw [Bs.gg]
 unfold Bs.encode
 rw [bw (aa (by omega)),←h2]
 by_cases c:v2=0
 ·rw [aa c,aN,af,ak (by simp [c])]
  by_cases k:v.kind=3
  ·rw [aa k,aN,af,ak (by simp [k]),bw (aa (by omega)),h3]
   by_cases q:16777216<Bs.size (bq.of [] v)
   ·rw [aa (by omega),ao,ar q];rfl
   ·rw [ab (by omega),af,ak q,bw (aa (by simp;omega)),bw (aa (by show v4.length≤_;omega))]
    show some [TV.sl .bs v4,_]=_
    rw [e4];rfl
  ·rw [ab k,aS,ao,ar k];rfl
 ·rw [ab c,aS,ao,ar c,h1];rfl
end Go.Eng
set_option maxRecDepth 20000
namespace Go.Eng
open Go.IntWalk
theorem Hi (n:Int):IntKind.wrap .i32 n=(if n % 4294967296 ≥ 2147483648 then n % 4294967296 - 4294967296 else n % 4294967296):=by
 simp [IntKind.wrap,IntKind.bits,IntKind.signed]
theorem b9.goal (e a:Int):b9.F e a=some [.ag (cD.cells ⟨e,a,[]⟩)]:=b9.eY e a
theorem Bs.rX (b:bG) (p:Nat):Bs.yk b p<4294967296:=by
 unfold Bs.yk
 refine Nat.lt_of_lt_of_le (Bs.lk _) ?_
 have:(256:Nat) ^ ((b.drop p).take 4).length≤256 ^ 4:=Nat.pow_le_pow_right (by omega) (by rw [aB];omega)
 exact this
theorem Bs.jI (b:bG) (p:Nat) : -2147483648≤Bs.dy b p∧Bs.dy b p<2147483648:=by
 have:=Bs.rX b p
 unfold Bs.dy
 split <;> omega
theorem cj.goal (r:bz) (at_:Int) (hp:decide (0≤at_∧at_+4≤(r.b.length:Int)∧r.b.length≤1000000000)=true):cj.F r at_=some [.i .i64 (Bs.dy r.b at_.toNat),.ag (bz.cells r)]:=by
 obtain ⟨h1,h2,h3⟩:=au hp
 refine cj.dq _ _ ?_
 intro v1 e1 v2 e2 v3 e3 v4 e4 v5 e5 v6 e6
 have q1:v1=at_+4:=by rw [e1,i64_in _ (by omega)]
 have q2:v2=(r.b.drop at_.toNat).take 4:=by rw [e2,q1,List.drop_take,show (at_+4).toNat - at_.toNat=4 by omega]
 have l2:v2.length=4:=by rw [q2,aB,aP];omega
 have c:Bs.can ⟨v2,0⟩ 4=true:=aa ⟨by omega,by omega,by show (4:Int)≤(v2.length:Int) - 0;omega⟩
 have nb:Bs.fB ⟨v2,0⟩ 4=v2:=by
  unfold Bs.fB
  rw [ar c]
  show (v2.drop 0).take 4=v2
  rw [aR,List.take_of_length_le (by omega)]
 have eJ:=Bs.rX r.b at_.toNat
 have q4:v4.toNat=Bs.yk r.b at_.toNat:=by
  rw [e4,nb,UInt64.toNat_ofNat',q2]
  exact Nat.mod_eq_of_lt (by unfold Bs.yk at eJ;omega)
 have hr:=Bs.jI r.b at_.toNat
 have q6:v6=Bs.dy r.b at_.toNat:=by
  rw [e6,q4,Hi]
  unfold Bs.dy
  split <;> split <;> omega
 rw [bw (hO (by omega) (by omega) (by omega)),bw (aa (by omega)),bw (aa ⟨by omega,by omega,by show (0:Int)≤0;omega,by show (0:Int)≤(v2.length:Int);omega,by show v2.length≤_;omega⟩),q6,i64_in _ (by omega)]
theorem zW {X:Type} {k a b c d e g:Int} (f:Bool→X):cond (decide (k=a)) (f (decide (k=a))) (cond (decide (k=b)) (f (decide (k=b))) (cond (decide (k=c)) (f (decide (k=c))) (cond (decide (k=d)) (f (decide (k=d))) (cond (decide (k=e)) (f (decide (k=e))) (f (decide (k=g)))))))=f (decide (k=a∨k=b∨k=c∨k=d∨k=e∨k=g)):=by
 by_cases h1:k=a
 ·subst h1;simp
 by_cases h2:k=b
 ·subst h2;simp [h1]
 by_cases h3:k=c
 ·subst h3;simp [h1,h2]
 by_cases h4:k=d
 ·subst h4;simp [h1,h2,h3]
 by_cases h5:k=e
 ·subst h5;simp [h1,h2,h3,h4]
 simp [h1,h2,h3,h4,h5]
theorem bL.goal (k:Int):bL.F k=some [.i .i64 ((Bs.fixed k:Nat):Int)]:=by
 rw [bL.eY,xc (fun q=>bL.j1 k q),bL.qD,zW (fun q=>bL.j2 k q),bL.kG,show decide (k=1∨k=9∨k=17∨k=18)=Bs.gK k from rfl]
 unfold Bs.fixed
 cases hn:Bs.gK k with
 | true=>rw [ar rfl];rfl
 | false =>
  rw [ak (by simp),af]
  have e:decide (k=16∨k=2∨k=13∨k=14∨k=12∨k=15)=decide (k=16∨Bs.gn k=true∨k=12∨k=15):=by
   apply aY.2
   unfold Bs.gn
   rw [decide_eq_true_iff]
   constructor
   ·rintro (h | h | h | h | h | h) <;> simp [h]
   ·rintro (h | (h | h | h) | h | h) <;> simp [h]
  rw [e]
  by_cases c:k=16∨Bs.gn k=true∨k=12∨k=15
  ·rw [aa c,ao,ar c];rfl
  rw [ab c,af,ak c]
  by_cases c:k=8
  ·rw [aa c,ao,ar c];rfl
  rw [ab c,af,ak c]
  by_cases c:k=19
  ·rw [aa c,ao,ar c];rfl
  rw [ab c,af,ak c]
  by_cases c:k=7
  ·rw [aa c,ao,ar c];rfl
  rw [ab c,af,ak c]
  by_cases c:k=5
  ·rw [aa c,ao,ar c];rfl
  rw [ab c,af,ak c];rfl
namespace Bs
theorem hU {b:bG} {a:Int} (h:(ctext b a).2.2=0):0≤a∧∃k:Nat,Lib.indexByte (b.drop a.toNat) 0=(k:Int)∧a.toNat+k<b.length∧(ctext b a).1=(b.drop a.toNat).take k∧(ctext b a).2.1=a+k+1∧dt.whole ((b.drop a.toNat).take k)=true∧b[a.toNat+k]?=some 0∧∀j,j<k→b[a.toNat+j]?≠some 0:=by
 unfold ctext at h ⊢
 by_cases c:a<0∨(b.length:Int)<a
 ·rw [ar c] at h;cases h
 rw [ak c] at h ⊢
 by_cases d:Lib.indexByte (b.drop a.toNat) 0<0
 ·rw [ar d] at h;cases h
 rw [ak d] at h ⊢
 obtain ⟨k,k1,k2,k3,k4⟩:=wh d
 rw [k1,aq] at h ⊢
 by_cases e:dt.whole ((b.drop a.toNat).take k)=false
 ·rw [ar e] at h;cases h
 rw [ak e]
 rw [aP] at k2
 refine ⟨by omega,k,rfl,by omega,rfl,rfl,by simpa using e,by rw [←List.getElem?_drop];exact k3,fun j hj=>by rw [←List.getElem?_drop];exact k4 j hj⟩
end Bs
theorem dH.goal (r:bz) (q z:Int) (hp:decide (0≤q∧q≤z∧z≤(r.b.length:Int)∧r.b.length≤1000000000)=true):dH.F r q z=some [.s (Bs.fR ([],0) (Bs.ended r.b q.toNat z.toNat)).1,.i .i64 ((Bs.fR ([],0) (Bs.ended r.b q.toNat z.toNat)).2:Int),.ag (cD.cells (Bs.jM (Bs.ended r.b q.toNat z.toNat))),.ag (bz.cells r)]:=by
 obtain ⟨h1,h2,h3,h4⟩:=au hp
 refine dH.dq _ _ _ ?_
 intro v1 e1 v2 e2
 rw [bw (hO (by omega) (by omega) (by omega)),bw (aa (by rw [e1,aB];omega)),e2,e1]
 unfold Bs.ended
 rw [show ((q.toNat:Nat):Int)=q by omega]
 by_cases c:(Bs.ctext (r.b.take z.toNat) q).2.2=0
 ·obtain ⟨_,k,_,_,_,k1,_⟩:=Bs.hU c
  rw [aa c,aN,af,ak (by simp [c])]
  simp only [Bs.fR,Bs.jM]
  rw [show (((Bs.ctext (r.b.take z.toNat) q).2.1.toNat:Nat):Int)=(Bs.ctext (r.b.take z.toNat) q).2.1 by omega];rfl
 ·rw [ab c,aS,ao,ar c]
  simp only [Bs.fR,Bs.jM]
  rw [show ((q.toNat:Nat):Int)=q by omega];rfl
theorem tc (c:Bool):(!(!c) || ((!c)&&(!c)))=true∧(!(!c) || (!c))=true∧(c || (!c))=true:=by cases c <;> decide
theorem dJ.goal (r:bz) (q z:Int) (hp:decide (0≤q∧q≤z∧z≤(r.b.length:Int)∧r.b.length≤1000000000)=true):dJ.F r q z=some [.s (Bs.fR ([],0) (Bs.text r.b q.toNat z.toNat)).1,.i .i64 ((Bs.fR ([],0) (Bs.text r.b q.toNat z.toNat)).2:Int),.ag (cD.cells (Bs.jM (Bs.text r.b q.toNat z.toNat))),.ag (bz.cells r)]:=by
 obtain ⟨h1,h2,h3,h4⟩:=au hp
 obtain ⟨q,rfl⟩:∃k:Nat,q=(k:Int):=⟨q.toNat,by omega⟩
 obtain ⟨z,rfl⟩:∃k:Nat,z=(k:Int):=⟨z.toNat,by omega⟩
 refine dJ.dq _ _ _ ?_
 rw [aq q,aq z]
 intro v1 e1 v2 e2 v3 e3 v4 e4 v5 e5 v6 e6 v7 e7
 have hr:=Bs.jI r.b q
 unfold Bs.text
 rw [i64_in ((z:Int) - q) (by omega)] at e1 ⊢
 by_cases c:z - q<4
 ·rw [aa (show (z:Int) - q<4 by omega),ao,ar c];rfl
 rw [ak c]
 generalize Bs.dy r.b q=n at *
 unfold Bs.pZ
 rw [ab (show ¬(z:Int) - q<4 by omega),af,bw (aa ⟨by omega,by omega,by omega⟩),bw (tc _).1,bw (tc _).2.1,bw (tc _).1,bw (tc _).2.2]
 rw [i64_in _ (by omega)] at e1
 have q2:v2=decide (n<1∨(z:Int) - q - 4<n):=by
  rw [e2,e1]
  by_cases d:n<1
  ·rw [aa d,aa (show n<1∨(z:Int) - q - 4<n from .inl d)];rfl
  ·rw [ab d,af]
   exact aY.2 (by omega)
 rw [q2]
 by_cases d:n<1∨(z:Int) - q - 4<n
 ·rw [aa d,ao];simp only [ar d];rfl
 rw [ab d,af]
 simp only [ak d]
 have q3:v3=((q+4:Nat):Int):=by rw [e3,i64_in _ (by omega)];omega
 have q4:v4=((q+4+n.toNat:Nat):Int):=by rw [e4,q3,i64_in _ (by omega)];omega
 have q5:v5=((q+4+n.toNat - 1:Nat):Int):=by rw [e5,q4,i64_in _ (by omega)];omega
 rw [q5,aq] at e6
 have q7:v7=(r.b.drop (q+4)).take (n.toNat - 1):=by
  rw [e7,q3,q5,aq,aq,List.drop_take,show q+4+n.toNat - 1 - (q+4)=n.toNat - 1 by omega]
 have l7:v7.length≤1099511627776:=by rw [q7,aB,aP];omega
 rw [bw (by rw [q5];exact ew (by omega) (by omega))]
 by_cases g:v6=0
 ·have cc:en v3 v5 r.b.length=true:=by rw [q3,q5];exact hO (by omega) (by omega) (by omega)
  rw [aa g,aN,af,ak (by rw [←e6];simp [g]),bw cc,bw (aa l7),←q7]
  cases hw:dt.whole v7 with
  | false =>
   rw [aS,ao,ar rfl,q3];rfl
  | true=>rw [aN,af,ak (by simp),bw cc,q4];rfl
 ·rw [ab g,aS,ao,ar (by rw [←e6];exact g),q5];rfl
theorem bT.goal (r:bz) (q z:Int) (hp:decide (0≤q∧q+5≤z∧z≤(r.b.length:Int)∧r.b.length≤1000000000)=true):bT.F r q z=some [.i .i64 (Bs.fR (0,[],0) (Bs.binary r.b q.toNat z.toNat)).1,.sl .bs (Bs.fR (0,[],0) (Bs.binary r.b q.toNat z.toNat)).2.1,.i .i64 ((Bs.fR (0,[],0) (Bs.binary r.b q.toNat z.toNat)).2.2:Int),.ag (cD.cells (Bs.jM (Bs.binary r.b q.toNat z.toNat))),.ag (bz.cells r)]:=by
 obtain ⟨h1,h2,h3,h4⟩:=au hp
 obtain ⟨q,rfl⟩:∃k:Nat,q=(k:Int):=⟨q.toNat,by omega⟩
 obtain ⟨z,rfl⟩:∃k:Nat,z=(k:Int):=⟨z.toNat,by omega⟩
 refine bT.dq _ _ _ ?_
 rw [aq q,aq z]
 intro v1 e1 v2 e2 v3 e3 v4 e4 v5 e5 v6 e6 v7 e7 v8 e8 v9 e9 v10 ly v11 xQ
 have hr:=Bs.jI r.b q
 unfold Bs.binary
 generalize Bs.dy r.b q=n at *
 unfold Bs.y0
 rw [i64_in ((z:Int) - q) (by omega),i64_in _ (by omega)] at e1
 have q2:v2=decide (n<0∨(z:Int) - q - 5<n):=by
  rw [e2,e1]
  by_cases d:n<0
  ·rw [aa d,aa (show n<0∨(z:Int) - q - 5<n from .inl d)];rfl
  ·rw [ab d,af]
   exact aY.2 (by omega)
 rw [bw (aa ⟨by omega,by omega,by omega⟩),bw (tc _).1,bw (tc _).2.1,bw (tc _).1,bw (tc _).2.2,q2]
 by_cases d:n<0∨(z:Int) - q - 5<n
 ·rw [aa d,ao];simp only [ar d];rfl
 rw [ab d,af]
 simp only [ak d]
 have q3:v3=((q+4:Nat):Int):=by rw [e3,i64_in _ (by omega)];omega
 have q6:v6=((q+5:Nat):Int):=by rw [e6,i64_in _ (by omega)];omega
 have q7:v7=((q+5+n.toNat:Nat):Int):=by rw [e7,q6,i64_in _ (by omega)];omega
 rw [q3,aq] at e4
 have hc:=v4.toNat_lt
 have q5:v5=((v4.toNat:Nat):Int):=by rw [e5,i64_in _ (by omega)]
 rw [q6,aq] at e8
 rw [i64_in _ (by omega)] at e9
 have EF:v11=((q+9:Nat):Int):=by rw [xQ,q6,i64_in _ (by omega)];omega
 have j1:∀(a:Nat),q+5≤a→a≤q+5+n.toNat→bT.j1 v5 (a:Int) v7 ⟨0,0,[]⟩ r.b r.at_=some [.i .i64 v5,.sl .bs ((r.b.drop a).take (q+5+n.toNat - a)),.i .i64 v7,.ag (cD.cells ⟨0,0,[]⟩),.ag (bz.cells r)]:=fun a ha IX=>by
  refine bT.qC _ _ _ _ _ _ ?_
  intro w1 f1
  have g1:w1=(r.b.drop a).take (q+5+n.toNat - a):=by rw [f1,q7,aq,aq,List.drop_take]
  have l1:w1.length≤1099511627776:=by rw [g1,aB,aP];omega
  rw [bw (by rw [q7];exact hO (by omega) (by omega) (by omega)),bw (hY (by omega) (by omega)),g1];rfl
 rw [bw (by rw [q3];exact ew (by omega) (by omega)),←e4]
 by_cases s:((v4.toNat:Nat):Int)=2
 ·rw [aa (show v5=2 by omega),ao,ar s]
  by_cases c4:n<4
  ·rw [aa c4] at ly ⊢
   have ly:v10=true:=ly
   rw [ly,ar (.inl c4),q6];rfl
  ·rw [ab c4] at ly ⊢
   rw [af,e8,e9] at ly
   have c8:decide (0≤v6∧v6+4≤(r.b.length:Int)∧r.b.length≤1000000000)=true:=aa ⟨by omega,by omega,by omega⟩
   rw [c8,ly]
   by_cases c9:Bs.dy r.b (q+5)=n - 4
   ·rw [aa c9,ak (by rintro (w | w);exact c4 w;exact w c9),EF]
    refine Eq.trans (b:=bT.j1 v5 ((q+9:Nat):Int) v7 ⟨0,0,[]⟩ r.b r.at_) rfl ?_
    rw [j1 (q+9) (by omega) (by omega),q5,q7,show q+5+n.toNat - (q+9)=n.toNat - 4 by omega];rfl
   ·rw [ab c9,ar (.inr c9),q6];rfl
 ·rw [ab (show ¬v5=2 by omega),af,ak s,q6,j1 (q+5) (by omega) (by omega),q5,q7,show q+5+n.toNat - (q+5)=n.toNat by omega];rfl
end Go.Eng
set_option maxRecDepth 20000
namespace Go.Eng
open Go.IntWalk
namespace Bs
def He {A:Type} (X:Except E A):Prop:=∀e a,X = .error (e,a)→e≠0
def nS {A:Type} (X:Except E A) (f:A→Nat) (q z:Nat):Prop:=(∀e a,X = .error (e,a)→e≠0∧a≤z)∧∀y,X = .ok y→q≤f y∧f y≤z
theorem nS.ne {A:Type} {X:Except E A} {f:A→Nat} {q z:Nat} (h:nS X f q z):He X:=fun e a g=>(h.1 e a g).1
theorem dB {A:Type} {f:A→Nat} {q z:Nat} {e:Int} {a:Nat} (h:e≠0) (g:a≤z):nS (.error (e,a):Except E A) f q z:=⟨(fun _ _ i=>by cases i;exact ⟨h,g⟩),(fun _ i=>by cases i)⟩
theorem gp {A:Type} {f:A→Nat} {q z:Nat} {y:A} (h:q≤f y∧f y≤z):nS (.ok y:Except E A) f q z:=⟨(fun _ _ i=>by cases i),(fun _ i=>by cases i;exact h)⟩
theorem jO {b:bG} {q z:Nat} (h1:q≤z) (h2:z≤b.length):nS (ended b q z) (fun y=>y.2) q z:=by
 unfold ended
 by_cases c:(ctext (b.take z) q).2.2=0
 ·obtain ⟨_,k,_,k2,_,k1,_⟩:=hU c
  rw [ak (by simp [c])]
  rw [aB] at k2
  refine gp ?_
  show q≤(ctext (b.take z) q).2.1.toNat∧(ctext (b.take z) q).2.1.toNat≤z
  omega
 ·rw [ar c];exact dB c h1
theorem jh {b:bG} {q z:Nat} (h1:q≤z) (h2:z≤b.length):nS (text b q z) (fun y=>y.2) q z:=by
 unfold text
 by_cases c:z - q<4
 ·rw [ar c];exact dB (by decide) h1
 rw [ak c];unfold pZ
 by_cases d:dy b q<1∨(z:Int) - q - 4<dy b q
 ·rw [ar d];exact dB (by decide) h1
 rw [ak d]
 by_cases e:b.getD (q+4+(dy b q).toNat - 1) 0≠0
 ·rw [ar e];exact dB (by decide) (by omega)
 rw [ak e]
 by_cases f:dt.whole ((b.drop (q+4)).take ((dy b q).toNat - 1))=false
 ·rw [ar f];exact dB (by decide) (by omega)
 rw [ak f]
 exact gp ⟨by show q≤q+4+(dy b q).toNat;omega,by show q+4+(dy b q).toNat≤z;omega⟩
theorem nB {b:bG} {q z:Nat} (h1:q+5≤z) (h2:z≤b.length):nS (binary b q z) (fun y=>y.2.2) q z:=by
 unfold binary y0
 by_cases d:dy b q<0∨(z:Int) - q - 5<dy b q
 ·rw [ar d];exact dB (by decide) (by omega)
 rw [ak d]
 by_cases e:((b.getD (q+4) 0).toNat:Int)=2
 ·rw [ar e]
  by_cases f:dy b q<4∨dy b (q+5)≠dy b q - 4
  ·rw [ar f];exact dB (by decide) (by omega)
  ·rw [ak f];exact gp ⟨by show q≤q+5+(dy b q).toNat;omega,by show q+5+(dy b q).toNat≤z;omega⟩
 ·rw [ak e];exact gp ⟨by show q≤q+5+(dy b q).toNat;omega,by show q+5+(dy b q).toNat≤z;omega⟩
def F8 (dc:bG→Nat→Nat→Int→Except E (List bq × Nat)) (b:bG):Prop:=∀p z fO,p≤z→z≤b.length→nS (dc b p z fO) (fun y=>y.2) p z
theorem n0 {dc:bG→Nat→Nat→Int→Except E (List bq × Nat)} {b:bG} (hd:F8 dc b) {q z:Nat} (h1:q≤z) (h2:z≤b.length):nS (ei dc b q z).2 (fun y=>y.2) q z:=by
 unfold ei mH
 by_cases d:dy b q<14∨(z:Int) - q<dy b q
 ·rw [ar d];exact dB (by decide) h1
 rw [ak d]
 have ht:=@jh b (q+4) (q+(dy b q).toNat) (by omega) (by omega)
 match hx:text b (q+4) (q+(dy b q).toNat) with
 | .error (e,a)=>exact dB (ht.1 e a hx).1 (by have:=(ht.1 e a hx).2;omega)
 | .ok (s,x) =>
  have hy:q+4≤x∧x≤q+(dy b q).toNat:=ht.2 _ hx
  have hr:=hd x (q+(dy b q).toNat) 2 (by omega) (by omega)
  show nS (dc b x (q+(dy b q).toNat) 2) (fun y=>y.2) q z
  exact ⟨fun e a i=>⟨(hr.1 e a i).1,by have:=(hr.1 e a i).2;omega⟩,fun y i=>by have:=hr.2 y i;show q≤y.2∧y.2≤z;have h3:x≤y.2∧y.2≤q+(dy b q).toNat:=this;omega⟩
theorem nS.map {A B:Type} {X:Except E A} {Y:Except E B} {f:A→Nat} {g:B→Nat} {q z:Nat} (hX:nS X f q z) (he:∀e,X = .error e→Y = .error e) (ho:∀y,X = .ok y→∃w,Y = .ok w∧g w=f y):nS Y g q z:=by
 cases X with
 | error e=>rw [he e rfl];exact dB (hX.1 e.1 e.2 rfl).1 (hX.1 e.1 e.2 rfl).2
 | ok y=>obtain ⟨w,h,i⟩:=ho y rfl;rw [h];exact gp (by rw [i];exact hX.2 y rfl)
theorem qR (k:Int):fixed k≤16:=by
 unfold fixed
 repeat' split
 all_goals omega
theorem qv {k:Int}:gK k=true ↔ k=1∨k=9∨k=17∨k=18:=by unfold gK;exact decide_eq_true_iff
theorem oB {k:Int} (h:gK k=true∨k=16∨k=8):1≤fixed k∧fixed k≤8∧(k=8→fixed k=1):=by
 rcases h with h | h | h
 ·rcases qv.1 h with h | h | h | h <;> subst h <;> decide
 ·subst h;decide
 ·subst h;decide
theorem pW {dc:bG→Nat→Nat→Int→Except E (List bq × Nat)} {b:bG} (hd:F8 dc b) {k:Int} {q z:Nat} (h1:q≤z) (h2:z≤b.length):nS (eI dc b k q z) (fun y=>y.2) q z:=by
 unfold eI
 by_cases c:z - q<fixed k
 ·rw [ar c];exact dB (by decide) h1
 rw [ak c]
 by_cases c1:gK k∨k=16∨k=8
 ·rw [ar c1]
  by_cases d:k=8∧1<gk (sub b q 1)
  ·rw [ar d];exact dB (by decide) h1
  ·rw [ak d];exact gp ⟨Nat.le_add_right _ _,by show q+fixed k≤z;have:=oB c1;omega⟩
 rw [ak c1]
 by_cases c2:k=19
 ·rw [ar c2];subst c2;have:fixed 19=16:=by decide
  exact gp ⟨Nat.le_add_right _ _,by show q+16≤z;omega⟩
 rw [ak c2]
 by_cases c3:k=7
 ·rw [ar c3];subst c3;have:fixed 7=12:=by decide
  exact gp ⟨Nat.le_add_right _ _,by show q+12≤z;omega⟩
 rw [ak c3];unfold xS
 by_cases c4:gn k
 ·rw [ar c4];exact (jh h1 h2).map (fun e i=>by rw [i]) (fun y i=>⟨_,by rw [i],rfl⟩)
 rw [ak c4]
 by_cases c5:k=12
 ·rw [ar c5]
  have ht:=jh h1 h2
  match hx:text b q z with
  | .error (e,a)=>exact dB (ht.1 e a hx).1 (ht.1 e a hx).2
  | .ok (s,x) =>
   have hy:q≤x∧x≤z:=ht.2 _ hx
   show nS (if z - x<12 then _ else _) (fun y:Val × Nat=>y.2) q z
   by_cases c6:z - x<12
   ·rw [ar c6];exact dB (by decide) hy.2
   ·rw [ak c6];exact gp ⟨by show q≤x+12;omega,by show x+12≤z;omega⟩
 rw [ak c5]
 by_cases c6:k=11
 ·rw [ar c6]
  have ht:=jO h1 h2
  match hx:ended b q z with
  | .error (e,a)=>exact dB (ht.1 e a hx).1 (ht.1 e a hx).2
  | .ok (s,x) =>
   have hy:q≤x∧x≤z:=ht.2 _ hx
   have hu:=@jO b x z hy.2 h2
   match hv:ended b x z with
   | .error (e,a)=>show nS (match ended b x z with | .error e=>_ | .ok (m,y)=>_) (fun y:Val × Nat=>y.2) q z;rw [hv];exact dB (hu.1 e a hv).1 (hu.1 e a hv).2
   | .ok (m,y) =>
    have hw:x≤y∧y≤z:=hu.2 _ hv
    show nS (match ended b x z with | .error e=>_ | .ok (m,y)=>_) (fun y:Val × Nat=>y.2) q z;rw [hv];exact gp ⟨by show q≤y;omega,hw.2⟩
 rw [ak c6]
 by_cases c7:k=5
 ·rw [ar c7]
  subst c7
  have:fixed 5=5:=by decide
  exact (nB (b:=b) (q:=q) (z:=z) (by omega) h2).map (fun e i=>by rw [i]) (fun y i=>⟨_,by rw [i],rfl⟩)
 rw [ak c7];unfold xU
 by_cases c8:k=3∨k=4
 ·rw [ar c8];exact (hd q z 0 h1 h2).map (fun e i=>by rw [i]) (fun y i=>⟨_,by rw [i],rfl⟩)
 rw [ak c8]
 by_cases c9:k=15
 ·rw [ar c9];exact (n0 hd h1 h2).map (fun e i=>by rw [i]) (fun y i=>⟨_,by rw [i],rfl⟩)
 rw [ak c9];exact gp ⟨Nat.le_refl _,h1⟩
theorem tC {vl:Int→Nat→Nat→Except E (Val × Nat)} {b:bG} {z:Nat} (hz:z<b.length) (hv:∀k q,q≤z→nS (vl k q z) (fun y=>y.2) q z):∀(n:Nat) (a:Nat) (acc:List bq),a≤z→nS (rJ vl b z n a acc) (fun y=>y.2) a (z+1)
 | 0,a,acc,ha=>dB (by decide) (by omega)
 | n+1,a,acc,ha=>by
  unfold rJ
  by_cases c:a=z
  ·rw [ar c]
   by_cases d:b.getD z 0≠0
   ·rw [ar d];exact dB (by decide) (by omega)
   ·rw [ak d];exact gp ⟨by show a≤z+1;omega,Nat.le_refl _⟩
  rw [ak c]
  by_cases d:b.getD a 0=0
  ·rw [ar d];exact dB (by decide) (by omega)
  rw [ak d]
  by_cases e:Tree.name ((b.getD a 0).toNat:Int)=[]
  ·rw [ar e];exact dB (by decide) (by omega)
  rw [ak e]
  by_cases f:(ctext (b.take z) ((a:Int)+1)).2.2=0
  ·show nS (if (ctext (b.take z) ((a:Int)+1)).2.2≠0 then _ else _) (fun y:List bq × Nat=>y.2) a (z+1)
   rw [ak (by simp [f])]
   obtain ⟨_,k,_,k2,_,k1,_⟩:=hU f
   rw [aB] at k2
   have hr:=hv ((b.getD a 0).toNat:Int) (ctext (b.take z) ((a:Int)+1)).2.1.toNat (by omega)
   match hx:vl ((b.getD a 0).toNat:Int) (ctext (b.take z) ((a:Int)+1)).2.1.toNat z with
   | .error (e,i)=>exact dB (hr.1 e i hx).1 (by have:=(hr.1 e i hx).2;omega)
   | .ok (v,x) =>
    have hy:(ctext (b.take z) ((a:Int)+1)).2.1.toNat≤x∧x≤z:=hr.2 _ hx
    have hq:=tC hz hv n x (acc++[bq.of (ctext (b.take z) ((a:Int)+1)).1 v]) hy.2
    refine ⟨hq.1,fun y i=>?_⟩
    have h3:x≤y.2∧y.2≤z+1:=hq.2 y i
    show a≤y.2∧y.2≤z+1
    omega
  ·show nS (if (ctext (b.take z) ((a:Int)+1)).2.2≠0 then _ else _) (fun y:List bq × Nat=>y.2) a (z+1)
   rw [ar f];exact dB f (by omega)
theorem jP (b:bG):∀d,F8 (doc d) b
 | 0=>fun p z fO h1 h2=>dB (by decide) h1
 | d+1=>fun p z fO h1 h2=>by
  unfold doc
  by_cases c:z - p<4
  ·rw [ar c];exact dB (by decide) h1
  rw [ak c]
  generalize dy b p=n
  unfold wU
  by_cases e:n<5∨(z:Int) - p<n∨(fO=2∧(p:Int)+n≠z)
  ·rw [ar e];exact dB (by decide) h1
  rw [ak e]
  by_cases f:fO=1∧(p:Int)+n<z
  ·rw [ar f];exact dB (by decide) (by omega)
  rw [ak f]
  have hr:=@tC (eI (doc d) b) b (p+n.toNat - 1) (by omega) (fun k q hq=>pW (jP b d) hq (by omega)) n.toNat (p+4) [] (by omega)
  exact ⟨fun e a i=>⟨(hr.1 e a i).1,by have:=(hr.1 e a i).2;omega⟩,fun y i=>by have h3:p+4≤y.2∧y.2≤p+n.toNat - 1+1:=hr.2 y i;show p≤y.2∧y.2≤z;omega⟩
end Bs
end Go.Eng
set_option maxRecDepth 20000
namespace Go.Eng
open Go.IntWalk
abbrev Bs.told (Y:Except Bs.E (Val × Nat)) (b:bG) (a:Int):OT:=some [.ag (Val.cells (Bs.fR (Bs.cX 0,0) Y).1),.i .i64 ((Bs.fR (Bs.cX 0,0) Y).2:Int),.ag (cD.cells (Bs.jM Y)),.ag (bz.cells ⟨b,a⟩)]
theorem rk (n:Nat) {A:Type} {X:Except Bs.E A} (Y:Except Bs.E (Val × Nat)) (hX:Bs.He X) (f:A→Val × Nat) (he:∀e,X = .error e→Y = .error e) (ho:∀y,X = .ok y→Y = .ok (f y)) {x0:Int} {x1:Val} (h:∀y,X = .ok y→x0=((f y).2:Int)∧x1=(f y).1) {x2:cD} (h2:x2=Bs.jM X) (b:bG) (a:Int):bu.j2 n x0 x1 x2 b a=Bs.told Y b a:=by
 rw [bu.kG,h2]
 cases X with
 | error e =>
  obtain ⟨e1,e2⟩:=e
  rw [he _ rfl,ab (show ¬cD.err (Bs.jM (.error (e1,e2):Except Bs.E A))=0 from hX e1 e2 rfl)];rfl
 | ok y =>
  obtain ⟨g1,g2⟩:=h y rfl
  rw [ho y rfl,aa (show cD.err (Bs.jM (.ok y:Except Bs.E A))=0 from rfl),g1,g2];rfl
theorem rj (n:Nat) (v:Val) (x:Nat) (b:bG) (a:Int):bu.j2 n x v ⟨0,0,[]⟩ b a=Bs.told (.ok (v,x)) b a:=bu.kG ..
theorem sz (n:Nat) (v:Val) (x:Int) {e:Int} (h:e≠0) (q:Nat) (b:bG) (a:Int):bu.j2 n x v ⟨e,q,[]⟩ b a=Bs.told (.error (e,q)) b a:=by
 rw [bu.kG,ab (show ¬cD.err ⟨e,q,[]⟩=0 from h)];rfl
theorem Bs.xg {w:bG} {n:Int} {f:Nat} (h:n=f) (h1:1≤f) (h8:f≤8) (hl:f≤w.length):Bs.can ⟨w,0⟩ n=true:=by
 subst h;exact aa ⟨by omega,by omega,by show (f:Int)≤(w.length:Int) - 0;omega⟩
theorem Dx (n:Nat) {b:bG} {a d:Int} {q z y:Nat} (k:Int) (h1:q≤z) (h2:z≤b.length) (h3:b.length≤1000000000) (hd:0≤d∧d≤1000∧a≤1000∧d<a) (hn:3 * (a - d).toNat+1<n+1)
  (hz:¬z - q<Bs.fixed k) (hy:¬k=15→y=q) :
  bu.j5 n q z d y k (decide (k=3∨k=4)) (Bs.cX k) ⟨0,0,[]⟩ b a=Bs.told (Bs.xU (Bs.doc (a - (d+1)).toNat) b k q z) b a:=by
 have hr:=Bs.jP b (a - (d+1)).toNat
 refine bu.CN _ _ _ _ _ _ _ _ _ _ _ ?_
 intro v1 e1 v2 e2 v3 e3 v4 e4 v5 e5 v6 e6 v7 e7 v8 e8
 have q1:v1=d+1:=by rw [e1,i64_in _ (by omega)]
 rw [aq,aq] at e2 e3 e4 e5 e6 e7 e8
 have e0:=Bs.xU.eq_1 (Bs.doc (a - (d+1)).toNat) b k q z
 by_cases c8:k=3∨k=4
 ·rw [aa c8,ao,bw (by
   rw [ae]
   exact ⟨aa ⟨by omega,by omega,by show (z:Int)≤(b.length:Int);omega,h3,by omega,by omega,hd.2.2.1⟩,aa (by show 3 * (a - v1).toNat+2<n;omega)⟩)]
  rw [ar c8] at e0
  rw [show (bz.mk b a).at_ - v1=a - (d+1) by rw [q1]] at e2 e3 e4
  refine rk n _ (hr q z 0 h1 h2).ne (fun y=>({ Bs.cX k with kids:=y.1 },y.2)) ?_ ?_ ?_ e4 b a
  ·intro e i;rw [e0,i]
  ·intro y i;rw [e0,i]
  ·intro y i
   have i:Bs.doc (a - (d+1)).toNat (bz.mk b a).b q z 0 = .ok y:=i
   rw [i] at e2 e3
   exact ⟨e3,by rw [e2];rfl⟩
 rw [ab c8,af]
 rw [ak c8] at e0
 by_cases c9:k=15
 ·have hf:Bs.fixed k=4:=by rw [c9];decide
  rw [aa c9,ao,bw (by
   rw [ae]
   exact ⟨aa ⟨by omega,by omega,by show (z:Int)≤(b.length:Int);omega,h3,by omega,by omega,hd.2.2.1,hd.2.2.2⟩,aa (by show 3 * (a - d).toNat<n;omega)⟩)]
  rw [ar c9] at e0
  refine rk n _ (Bs.n0 hr h1 h2).ne (fun y=>({ Bs.cX k with text:=(Bs.ei (Bs.doc (a - (d+1)).toNat) b q z).1,kids:=y.1 },y.2)) ?_ ?_ ?_ e8 b a
  ·intro e i;rw [e0,i]
  ·intro y i;rw [e0,i]
  ·intro y i
   have i:(Bs.ei (Bs.doc ((bz.mk b a).at_ - (d+1)).toNat) (bz.mk b a).b q z).2 = .ok y:=i
   rw [i] at e6 e7
   exact ⟨e7,by rw [e5,e6];rfl⟩
 rw [ab c9,af,e0,ak c9,hy c9]
 exact rj n _ q b a
theorem Dy (n:Nat) {b:bG} {a:Int} {z x:Nat} (v:Val) (h1:x+12≤z) (h2:z≤b.length) (h3:b.length≤1000000000):bu.j4 n x v ⟨0,0,[]⟩ b a=Bs.told (.ok ({ v with bytes:=Bs.sub b x 12 },x+12)) b a:=by
 refine bu.s8 _ _ _ _ _ _ ?_
 intro v1 e1 v2 e2
 have q1:v1=((x+12:Nat):Int):=by rw [e1,i64_in _ (by omega)];omega
 have q2:v2=Bs.sub b x 12:=by rw [e2,q1,aq,aq,List.drop_take,show x+12 - x=12 by omega];rfl
 have l2:v2.length≤12:=by rw [q2];unfold Bs.sub;rw [aB];omega
 rw [show decide (cD.err ⟨0,0,[]⟩=0)=true from rfl,ao,bw (by rw [q1];exact hO (by omega) (by omega) (by omega)),bw (hY (by omega) (by omega)),q2,q1]
 exact rj n _ (x+12) b a
theorem xh (n:Nat) {b:bG} {a x:Int} (v:Val) {e:Int} (h:e≠0) (q:Nat):bu.j4 n x v ⟨e,q,[]⟩ b a=Bs.told (.error (e,q)) b a:=by
 refine bu.s8 _ _ _ _ _ _ ?_
 intro v1 e1 v2 e2
 rw [ab (show ¬cD.err ⟨e,q,[]⟩=0 from h),af];exact sz n _ _ h q b a
theorem Dz (n:Nat) {b:bG} {a d:Int} {q z y:Nat} (k:Int) (h1:q≤z) (h2:z≤b.length) (h3:b.length≤1000000000) (hd:0≤d∧d≤1000∧a≤1000∧d<a) (hn:3 * (a - d).toNat+1<n+1)
  (hz:¬z - q<Bs.fixed k) (hy:¬Bs.gn k=true→¬k=12→¬k=5→¬k=15→y=q) :
  bu.j3 n q z d y k (decide (k=2∨k=13∨k=14)) (Bs.cX k) ⟨0,0,[]⟩ b a=Bs.told (Bs.xS (Bs.doc (a - (d+1)).toNat) b k q z) b a:=by
 have ht:=@Bs.jh b q z h1 h2
 have hu:=@Bs.jO b q z h1 h2
 refine bu.qB _ _ _ _ _ _ _ _ _ _ _ ?_
 intro v1 e1 v2 e2 v3 e3 v4 e4 v5 e5 v6 e6 v7 e7 v8 e8 v9 e9 v10 ly v11 xQ v12 Dv lR Du oQ Ej
 rw [aq,aq] at e1 e2 e3 e5 e6 e7 xQ Dv Du Ej
 have e0:=Bs.xS.eq_1 (Bs.doc (a - (d+1)).toNat) b k q z
 have hb:decide (0≤(q:Int)∧(q:Int)≤(z:Int)∧(z:Int)≤(b.length:Int)∧b.length≤1000000000)=true:=aa ⟨by omega,by omega,by omega,h3⟩
 rw [show decide (k=2∨k=13∨k=14)=Bs.gn k from rfl]
 by_cases c4:Bs.gn k=true
 ·rw [c4,ao,bw hb]
  rw [ar c4] at e0
  refine rk n _ ht.ne (fun y=>({ Bs.cX k with text:=y.1 },y.2)) ?_ ?_ ?_ e3 b a
  ·intro e i;rw [e0,i]
  ·intro y i;rw [e0,i]
  ·intro y i
   rw [show Bs.text (bz.mk b a).b q z = .ok y from i] at e1 e2
   exact ⟨e2,by rw [e1];rfl⟩
 have Iq:Bs.gn k=false:=by simpa using c4
 rw [Iq,af]
 rw [ak c4] at e0
 by_cases c5:k=12
 ·rw [aa c5,ao,bw hb,bw (by cases decide (cD.err v3=0) <;> rfl),bw (by cases decide (cD.err v3=0) <;> rfl),bw (by cases decide (cD.err v3=0) <;> rfl)]
  rw [ar c5] at e0
  match hx:Bs.text b q z with
  | .error (e,i) =>
   rw [show Bs.text (bz.mk b a).b q z=_ from hx] at e1 e2 e3
   have fP:=(ht.1 e i hx).1
   have q3:v3=⟨e,i,[]⟩:=e3
   rw [e0,hx,e4,q3,ab (show ¬cD.err ⟨e,i,[]⟩=0 from fP),af,af]
   exact xh n _ fP i
  | .ok (s,x) =>
   rw [show Bs.text (bz.mk b a).b q z=_ from hx] at e1 e2 e3
   have hy:q≤x∧x≤z:=ht.2 _ hx
   have q3:v3=⟨0,0,[]⟩:=e3
   have q2:v2=(x:Int):=e2
   have q1:v1=s:=e1
   rw [e0,hx,e4,q3,q2,q1,show decide (cD.err ⟨0,0,[]⟩=0)=true from rfl,ao,i64_in _ (by omega)]
   show _=Bs.told (if z - x<12 then _ else _) b a
   by_cases c:z - x<12
   ·rw [aa (show (z:Int) - x<12 by omega),ao,ar c]
    exact xh n _ (by decide) x
   ·rw [ab (show ¬(z:Int) - x<12 by omega),af,ak c]
    exact Dy n _ (z:=z) (by omega) h2 h3
 rw [ab c5,af]
 rw [ak c5] at e0
 by_cases c6:k=11
 ·rw [aa c6,ao,bw hb]
  rw [ar c6] at e0
  match hx:Bs.ended b q z with
  | .error (e,i) =>
   rw [show Bs.ended (bz.mk b a).b q z=_ from hx] at e5 e6 e7
   have fP:=(hu.1 e i hx).1
   have q7:v7=⟨e,i,[]⟩:=e7
   rw [e0,hx,q7,ab (show ¬cD.err ⟨e,i,[]⟩=0 from fP),af]
   exact sz n _ _ fP i b a
  | .ok (s,x) =>
   rw [show Bs.ended (bz.mk b a).b q z=_ from hx] at e5 e6 e7
   have hy:q≤x∧x≤z:=hu.2 _ hx
   have q7:v7=⟨0,0,[]⟩:=e7
   have q6:v6=(x:Int):=e6
   have q5:v5=s:=e5
   rw [q6,aq,aq] at e8 e9 ly
   rw [e0,hx,q7,show decide (cD.err ⟨0,0,[]⟩=0)=true from rfl,ao,q6,bw (aa ⟨by omega,by omega,by show (z:Int)≤(b.length:Int);omega,h3⟩)]
   refine rk n _ (@Bs.jO b x z hy.2 h2).ne (fun y=>({ Bs.cX k with text:=s,more:=y.1 },y.2)) ?_ ?_ ?_ ly b a
   ·intro e i
    show (match Bs.ended b x z with | .error e=>_ | .ok (m,y)=>_)=_
    rw [i]
   ·intro y i
    show (match Bs.ended b x z with | .error e=>_ | .ok (m,y)=>_)=_
    rw [i]
   ·intro y i
    rw [show Bs.ended (bz.mk b a).b x z = .ok y from i] at e8 e9
    exact ⟨e9,by rw [e8,q5];rfl⟩
 rw [ab c6,af]
 rw [ak c6] at e0
 by_cases c7:k=5
 ·have hf:Bs.fixed k=5:=by rw [c7];decide
  rw [aa c7,ao,bw (aa ⟨by omega,by omega,by show (z:Int)≤(b.length:Int);omega,h3⟩)]
  rw [ar c7] at e0
  refine rk n _ (@Bs.nB b q z (by omega) h2).ne (fun y=>({ Bs.cX k with sub:=y.1,bytes:=y.2.1 },y.2.2)) ?_ ?_ ?_ Ej b a
  ·intro e i;rw [e0,i]
  ·intro y i;rw [e0,i]
  ·intro y i
   rw [show Bs.binary (bz.mk b a).b q z = .ok y from i] at xQ Dv Du
   exact ⟨Du,by rw [xQ,Dv];rfl⟩
 rw [ab c7,af,xe (fun p=>bu.j5 n q z d y k p (Bs.cX k) ⟨0,0,[]⟩ b a)]
 rw [e0,ak c7]
 exact Dx n k h1 h2 h3 hd hn hz (fun h=>hy c4 c5 c7 h)
theorem Bs.uq {w:bG} {n:Int} {f:Nat} (h:n=f) (h1:1≤f) (h8:f≤8) (hl:f=w.length):Bs.fB ⟨w,0⟩ n=w:=by
 unfold Bs.fB
 rw [ar (Bs.xg h h1 h8 (by omega))]
 show (w.drop 0).take n.toNat=w
 rw [aR,h,aq,List.take_of_length_le (by omega)]
theorem DA (n:Nat) {b:bG} {a d:Int} {q z:Nat} (k:Int) (h1:q≤z) (h2:z≤b.length) (h3:b.length≤1000000000) (hd:0≤d∧d≤1000∧a≤1000∧d<a) (hn:3 * (a - d).toNat+1<n+1)
  (hz:¬z - q<Bs.fixed k) :
  bu.j1 n k q z d (q+Bs.fixed k:Nat) (Bs.fixed k:Nat) k (decide (k=1∨k=9∨k=17∨k=18∨k=16∨k=8)) (Bs.cX k) ⟨0,0,[]⟩ (Bs.sub b q (Bs.fixed k)) 0 b a=Bs.told (Bs.eI (Bs.doc (a - (d+1)).toNat) b k q z) b a:=by
 have e0:=Bs.eI.eq_1 (Bs.doc (a - (d+1)).toNat) b k q z
 rw [ak hz] at e0
 have lw:(Bs.sub b q (Bs.fixed k)).length=Bs.fixed k:=by unfold Bs.sub;rw [aB,aP];omega
 have f16:=Bs.qR k
 refine bu.qC _ _ _ _ _ _ _ _ _ _ _ _ _ _ _ ?_
 intro v1 e1 v2 e2 v3 e3 v4 e4 v5 e5 v6 e6 v7 e7 v8 e8 v9 e9 v10 ly v11 xQ
 have ed:decide (k=1∨k=9∨k=17∨k=18∨k=16∨k=8)=decide (Bs.gK k=true∨k=16∨k=8):=aY.2 (by
  rw [Bs.qv]
  constructor
  ·rintro (h | h | h | h | h | h) <;> simp [h]
  ·rintro ((h | h | h | h) | h | h) <;> simp [h])
 rw [ed]
 by_cases c1:Bs.gK k=true∨k=16∨k=8
 ·have hf:=Bs.oB c1
  rw [ar c1] at e0
  rw [Bs.uq rfl hf.1 hf.2.1 lw.symm] at e2
  rw [aa c1,ao,bw (aa ⟨by omega,by omega,Int.le_refl _,by show (0:Int)≤((Bs.sub b q (Bs.fixed k)).length:Int);omega,by show (Bs.sub b q (Bs.fixed k)).length≤_;omega⟩),bw (by cases decide (k=8) <;> rfl),bw (by cases decide (k=8) <;> rfl),bw (by cases decide (k=8) <;> rfl)]
  have q4:v4=decide (k=8∧1<Bs.gk (Bs.sub b q 1)):=by
   rw [e4]
   by_cases c:k=8
   ·have hl:=Bs.lk (Bs.sub b q (Bs.fixed k))
    rw [lw,hf.2.2 c] at hl
    rw [aa c,ao,e2]
    refine aY.2 ⟨fun h=>⟨c,?_⟩,fun h=>?_⟩
    ·have:=aZ.1 h
     rw [UInt64.toNat_ofNat',hf.2.2 c,Nat.mod_eq_of_lt (by omega)] at this
     exact this
    ·refine aZ.2 ?_
     rw [UInt64.toNat_ofNat',hf.2.2 c,Nat.mod_eq_of_lt (by omega)]
     exact h.2
   ·rw [ab c,af,ab (fun h=>c h.1)]
  rw [q4]
  by_cases c:k=8∧1<Bs.gk (Bs.sub b q 1)
  ·rw [aa c,ao,e0,ar c]
   exact sz n _ _ (by decide) q b a
  ·rw [ab c,af,e0,ak c,e2]
   exact rj n _ _ b a
 rw [ab c1,af]
 rw [ak c1] at e0
 by_cases c2:k=19
 ·have hf:Bs.fixed k=16:=by rw [c2];decide
  rw [hf] at lw e5 e6 e7 ⊢
  have cn:Bs.can ⟨Bs.sub b q 16,0⟩ 8=true:=Bs.xg (f:=8) rfl (by omega) (by omega) (by omega)
  have q5:v5=⟨Bs.sub b q 16,8⟩:=by rw [e5];unfold Bs.jt;rw [ar cn];rfl
  have cm:Bs.can ⟨Bs.sub b q 16,8⟩ 8=true:=aa ⟨by omega,by omega,by show (8:Int)≤((Bs.sub b q 16).length:Int) - 8;omega⟩
  have q6:v6=UInt64.ofNat (Bs.gk (Bs.sub b q 8)):=by
   rw [e6];unfold Bs.fB;rw [ar cn]
   show UInt64.ofNat (Bs.gk (((Bs.sub b q 16).drop 0).take 8))=_
   rw [aR];unfold Bs.sub;rw [List.take_take];rfl
  have q8:v8=UInt64.ofNat (Bs.gk (Bs.sub b (q+8) 8)):=by
   rw [e8,q5];unfold Bs.fB;rw [ar cm]
   show UInt64.ofNat (Bs.gk (((Bs.sub b q 16).drop 8).take 8))=_
   unfold Bs.sub;rw [List.drop_take,List.drop_drop,List.take_take];rfl
  rw [aa c2,ao,bw (aa ⟨by omega,by omega,Int.le_refl _,by show (0:Int)≤((Bs.sub b q 16).length:Int);omega,by show (Bs.sub b q 16).length≤_;omega⟩),q5,bw (aa ⟨by omega,by omega,by show (0:Int)≤8;omega,by show (8:Int)≤((Bs.sub b q 16).length:Int);omega,by show (Bs.sub b q 16).length≤_;omega⟩),e0,ar c2,q6,q8]
  exact rj n _ _ b a
 rw [ab c2,af]
 rw [ak c2] at e0
 by_cases c3:k=7
 ·have hf:Bs.fixed k=12:=by rw [c3];decide
  rw [hf] at lw ly ⊢
  have cn:Bs.re ⟨Bs.sub b q 12,0⟩ 12=true:=aa ⟨by omega,by show (12:Int)≤((Bs.sub b q 12).length:Int) - 0;omega⟩
  have Aq:v10=Bs.sub b q 12:=by
   rw [ly];unfold Bs.p8;rw [ar (show Bs.re ⟨Bs.sub b q 12,0⟩ ((12:Nat):Int)=true from cn)]
   show ((Bs.sub b q 12).drop 0).take 12=_
   rw [aR,List.take_of_length_le (by omega)]
  rw [aa c3,ao,bw (aa ⟨by omega,Int.le_refl _,by show (0:Int)≤((Bs.sub b q 12).length:Int);omega,by show (Bs.sub b q 12).length≤_;omega⟩),e0,ar c3,Aq]
  exact rj n _ _ b a
 rw [ab c3,af,e0,ak c3,xd (fun p=>bu.j3 n q z d (q+Bs.fixed k:Nat) k p (Bs.cX k) ⟨0,0,[]⟩ b a)]
 refine Dz n k h1 h2 h3 hd hn hz (fun c4 c5 c7 c9=>?_)
 have:Bs.fixed k=0:=by
  unfold Bs.fixed
  rw [ak (fun h=>c1 (.inl h)),ak (by rintro (h | h | h | h);exact c1 (.inr (.inl h));exact c4 h;exact c5 h;exact c9 h),ak (fun h=>c1 (.inr (.inr h))),ak c2,ak c3,ak c7]
 omega
theorem bu.goal (n:Nat) (r:bz) (k q z d:Int) (hp:((decide (0≤q∧q≤z∧z≤((r.b).length:Int)∧(r.b).length≤1000000000∧0≤d∧d≤1000∧r.at_≤1000∧d<r.at_))&&decide ((3 * (r.at_ - d).toNat+1)<n+1))=true):bu.F n r k q z d=Bs.told (Bs.eI (Bs.doc (r.at_ - (d+1)).toNat) r.b k q.toNat z.toNat) r.b r.at_:=by
 rw [ae] at hp
 obtain ⟨h1,h2,h3,h4,h5,h6,h7,h8⟩:=au hp.1
 have hn:=au hp.2
 obtain ⟨q,rfl⟩:∃k:Nat,q=(k:Int):=⟨q.toNat,by omega⟩
 obtain ⟨z,rfl⟩:∃k:Nat,z=(k:Int):=⟨z.toNat,by omega⟩
 refine bu.dq _ _ _ _ _ _ ?_
 rw [aq q,aq z]
 intro v1 e1 v2 e2
 have f16:=Bs.qR k
 rw [i64_in ((z:Int) - q) (by omega)]
 by_cases c:z - q<Bs.fixed k
 ·rw [aa (show (z:Int) - q<(Bs.fixed k:Nat) by omega),ao];unfold Bs.eI;rw [ar c];rfl
 have q1:v1=((q+Bs.fixed k:Nat):Int):=by rw [e1,i64_in _ (by omega)];omega
 have q2:v2=Bs.sub r.b q (Bs.fixed k):=by rw [e2,q1,aq,List.drop_take,show q+Bs.fixed k - q=Bs.fixed k by omega];rfl
 have l2:v2.length≤1099511627776:=by rw [q2];unfold Bs.sub;rw [aB];omega
 rw [ab (show ¬(z:Int) - q<(Bs.fixed k:Nat) by omega),af,bw (by rw [q1];exact hO (by omega) (by omega) (by omega)),bw (aa l2),q1,q2]
 exact (zW (fun p=>bu.j1 n k q z d (q+Bs.fixed k:Nat) (Bs.fixed k:Nat) k p (Bs.cX k) ⟨0,0,[]⟩ (Bs.sub r.b q (Bs.fixed k)) 0 r.b r.at_)).trans (DA n k (by omega) (by omega) h4 ⟨h5,h6,h7,h8⟩ hn c)
end Go.Eng
