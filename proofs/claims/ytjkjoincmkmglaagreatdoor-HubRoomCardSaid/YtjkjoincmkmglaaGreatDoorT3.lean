/- Texts of my own, one behind the other: YJ, YK, XFloatP, XNrPure, XShPure, HrUtfPure, HrTreePure, HrRegPure, HrHexaPure, HrPure, HrZPure, HrBinPure, HrGatePure, HrMpPure, HrDbPure, HrDkPure, HrLaPure, VC, HrC, HrG0, HrG1, HrG2. -/
import Derived.Test.YtjkjoincmkmglaaGreatDoorT2
import Derived.Below
import Derived.Lib.LaidTab
import Derived.Lib.ItoaNum
import Derived.Sort.Grow
import Derived.Deep.Draws
import Derived.ChangeArms
import Derived.ChangeShapes
import Derived.DataReads
import Derived.Laws.FloatArith
import Derived.Lib.SlTrimSet
import Derived.Lib.IndexAny
import Derived.Lib.TrailingZeros
import Derived.Lib.Bytealg
import Derived.Test.YtjkjoincmkmglaaGreatDoorProg
set_option linter.defProp false
set_option linter.unusedVariables false
set_option linter.unusedSimpArgs false
open Decidable renaming decide→nP
open Option renaming some→Bm
open Option renaming none→Kk
open Bool renaming true→Qf
open Bool renaming false→Qg
noncomputable section
namespace Go.Eng
open Go.RowKit Go.Sort
def sM{w w':World}{R:Reach}{io:Nat->Prop}(hR:∀b o,R b o->b<w.heap.size)(h:Below w.heap.size w w'):Ext w R io w' R:=⟨h.os,h.tape,h.output,h.size,λb hb _=>h.block b hb,λb o hr=>⟨hr,by simp only[World.cell?,h.block b (hR b o hr)]⟩,λb o hr=>.inl hr⟩
def Ie{R:Reach}{w:World}{ti:List TV}{xs:List Value}(h:CJ R w [] ti xs):hO R w ti xs:=hO.of h.1 λi x y hx hy=>h.2 i x y hx hy
def jd{P:Program}{gl:Nat->Option (List Value)}{f:Nat}{c:cX}(hb:om P f=Qf)(h:∀(ti iA:List TV)(w:World)(R:Reach)(xs:List Value),(c ti).holds iA->hO R w ti xs->(∀b o,R b o->b<w.heap.size)->GlOK gl R w->Calls P f ⟨xs⟩ w λe w'=>∃x,e=.returned x/\Below w.heap.size w w'/\∀R w',hO R w' iA [x]):fX P gl f (c,{}):=by
 refine λti iA hc=>⟨hb,λw R xs hR CQ ha _=>(h ti iA w R xs hc (Ie ha) hR CQ).mono ?_⟩;rintro e w' ⟨x,rfl,Js,hx⟩;have hl:iA.length=1:=by{simpa using(hx R w').length};match iA,hl with
 |[y],_=>refine⟨x,R,[x],[],rfl,sM hR Js,λb o hr=>Nat.lt_of_lt_of_le (hR b o hr) Js.size,?_⟩;exact⟨rfl,Nat.le_refl _,rfl,hx R w',λi hi=>(by cases hi),rfl,λi y v hy=>(by simp at hy),λi hi=>(by cases hi),λj j' i i' v v' b hj=>(by simp at hj),λi hi=>(by cases hi)⟩
def De{P:Program}{gl:Nat->Option (List Value)}{f n:Nat}{c:cX}(hb:om P f=Qf)(hn:n≠1)(h:∀(ti iA:List TV)(w:World)(R:Reach)(xs:List Value),(c ti).holds iA->hO R w ti xs->(∀b o,R b o->b<w.heap.size)->GlOK gl R w->Calls P f ⟨xs⟩ w λe w'=>∃ys,ys.length=n/\e=.returned (.tuple ⟨ys⟩)/\Below w.heap.size w w'/\∀R w',hO R w' iA ys):fX P gl f (c,{b9:=n}):=by refine λti iA hc=>⟨hb,λw R xs hR CQ ha _=>(h ti iA w R xs hc (Ie ha) hR CQ).mono ?_⟩;rintro e w' ⟨ys,hy,rfl,Js,hx⟩;have hl:iA.length=n:=by{rw[(hx R w').length,hy]};refine⟨.tuple ⟨ys⟩,R,ys,[],rfl,sM hR Js,λb o hr=>Nat.lt_of_lt_of_le (hR b o hr) Js.size,?_⟩;have e1:iA.take n=iA:=List.take_of_length_le (by omega);have e2:iA.drop n=[]:=aD (by omega);refine⟨hy,by show n<=_;omega,by show _=if n=1 then _ else _;rw[ak hn],?_,λi hi=>(by cases hi),?_,λi y v hy=>(by simp at hy),λi hi=>(by cases hi),λj j' i i' v v' b hj=>(by simp at hj),λi hi=>(by cases hi)⟩;{have e3:tE [] (iA.take n)=iA:=by{rw[e1,Dx]};show hO R w' (tE [] (iA.take n)) ys;rw[e3];exact hx R w'};{show ng [] ti (iA.drop n)=Bm [];rw[e2];rfl}
theorem kn{R:Reach}{w:World}:∀{ti:List TV}{xs ys:List Value},hO R w ti xs->ti.mapM TV.val=Bm ys->xs=ys
 |[],_,_,.nil,h=>by simpa using h
 |x::r,_,_,.cons a b,h=>by rw[List.mapM_cons]at h;obtain⟨v,hv,h⟩:=aQ.1 h;obtain⟨vs,Gk,h⟩:=aQ.1 h;cases h;rw[a.cq hv,kn b Gk]
def uz{R:Reach}{w:World}{l:bE}:Rep R w (.s l) (.string ⟨⟨l⟩⟩):=.sc rfl
def Qq{R:Reach}{w:World}{n:Int}:Rep R w (.i .i64 n) (.int .i64 n):=.sc rfl
def q9{R:Reach}{w:World}{x:TV}{v:Value}(h:Rep R w x v):hO R w [x] [v]:=.cons h .nil
def PC:List (Nat×List Value)->Nat->Option (List Value)
 |[],_=>Kk
 |(k,v)::r,n=>cond (Nat.beq n k) (Bm v) (PC r n)
def zK(k:IntKind)(zs:List Int):List Value:=zs.map λz=>Value.int k z
def Tc{P:Program}{w:World}{name:String}{k:IntKind}{zs:List Int}{g:Nat}(h:Lib.TabIs P w name k zs)(hg:P.globalNamed name=Bm g)(o:Nat):Old w g o/\w.cell? ⟨g,o,Kk⟩=(zK k zs)[o]?:=by
 have hs:g<w.heap.size:=by
  unfold Lib.TabIs World.var? at h;rw[hg]at h;simp only[Option.bind_some]at h;cases hh:w.heap[g]? with
  |none=>rw[hh]at h;cases h
  |some x=>exact(Array.getElem?_eq_some_iff.1 hh).1
 exact⟨hs,by have:=World.var?_cell hg h o;simpa[zK]using this⟩
def RH{P:Program}{gl:Nat->Option (List Value)}{R:Reach}{w:World}{name:String}{k:IntKind}{z:Int}{zs:List Int}{g:Nat}(h:GlOK gl R w)(e:gl g=Bm (zK k (z::zs)))(hg:P.globalNamed name=Bm g):Lib.TabIs P w name k (z::zs):=by
 have h2:=λo=>(h g _ e o).2;have h0:=h2 0;unfold Lib.TabIs World.var?;rw[hg];simp only[Option.bind_some];simp only[World.cell?]at h0 h2;cases hh:w.heap[g]? with
 |none=>rw[hh]at h0;cases h0
 |some x=>
  rw[hh]at h0 h2;cases x with
  |cells cs e f=>simp only at h2⊢;congr 1;apply Array.ext_getElem?;intro i;have:=h2 i;simp only[Option.isSome_none,br,if_false]at this;rw[this];simp[zK]
  |_=>cases h0
def gl_nil{R:Reach}{w:World}:GlOK (PC []) R w:=λ_ _ h=>by cases h
def gl_cons{P:Program}{w:World}{name:String}{k:IntKind}{zs:List Int}{g:Nat}{r:List (Nat×List Value)}(h:Lib.TabIs P w name k zs)(hg:P.globalNamed name=Bm g)(t:GlOK (PC r) (Old w) w):GlOK (PC ((g,zK k zs)::r)) (Old w) w:=λn vs hn o=>by
 unfold PC at hn;cases hb:Nat.beq n g with
 |true=>rw[hb]at hn;cases hn;rw[az hb];exact Tc h hg o
 |false=>rw[hb]at hn;exact t n vs hn o
def qY(w:World)(k:Nat)(os:Array Obj):Below w.heap.size w (grow (w.drewN k) os):=⟨rfl,rfl,rfl,by show w.heap.size<=(w.heap++os).size;simp,λi hi=>heap_grow_old (w.drewN k) os hi⟩
def jP(n:Nat):bE:=if h:n<10 then[UInt8.ofNat (48+n)]else jP (n/10)++[UInt8.ofNat (48+n%10)]
termination_by n
decreasing_by omega
theorem EG(n:Nat):Lib.decDigits n=jP n:=by
 induction n using Nat.strongRecOn with
 |_ n ih=>rw[Lib.decDigits,jP];by_cases h:n<10;{rw[dif_pos h,dif_pos h]};{rw[dif_neg h,dif_neg h,ih (n/10) (by omega)]}
theorem LO(n:Nat):Lib.itoa (n:Int)=jP n:=by rw[Lib.itoa,ak (by omega),aq,EG]
end Go.Eng
namespace Go.Eng
open Go.RowKit
def qu(P:Program)(n:Nat)(t:TypeId)(A:Type)(g:A->List TV):Prop:=∀(H:Type)(enc:TypeId×Value->H)(w:World)(base:Nat)(spare:Nat->Bool)(held:Bool)(cs:List Value)(x:DataW H×List MemPlace),DataW.trod enc P w base spare held n t cs=Bm x->∃a:A,dn (Old w) w (g a) cs
def UX{n:Int}(h:(Lit.int .u8 n).wf=Qf):((UInt8.ofInt n).toNat:Int)=n:=by have hx:0<=n/\n<=255:=by{simpa[Lit.wf,IntKind.min,IntKind.max,IntKind.signed,IntKind.bits]using h};rw[ug,Ud];omega
def rep_int{R:Reach}{w:World}(n:Int):Rep R w (.i .i64 n) (.int .i64 n):=.sc rfl
section
variable{P:Program}{n:Nat}{t:TypeId}
theorem Ar(ht:P.underlying t=Bm (.int .i64)):qu P n t Int λm=>[.i .i64 m]:=by intro H enc w base spare held cs x h;obtain⟨m,rfl,_,_⟩:=DataW.trod_int ht h;exact⟨m,.cons rfl (.sc rfl) .nil⟩
theorem Rx{n:Int}(h:(Lit.int .u64 n).wf=Qf):((UInt64.ofInt n).toNat:Int)=n:=by have hx:0<=n/\n<=18446744073709551615:=by{simpa[Lit.wf,IntKind.min,IntKind.max,IntKind.signed,IntKind.bits]using h};have e:IntKind.u64.wrap n=n%(18446744073709551616:Nat):=by{simp[IntKind.wrap,IntKind.bits,IntKind.signed]};rw[mj,e];omega
theorem OC{R:Reach}{w:World}{n:Int}(h:(Lit.int .u64 n).wf=Qf):Rep R w (.u64 (UInt64.ofInt n)) (.int .u64 n):=.sc (by show Bm _=Bm _;rw[Rx h])
theorem vF(ht:P.underlying t=Bm (.int .u64)):qu P n t UInt64 λm=>[.u64 m]:=by intro H enc w base spare held cs x h;obtain⟨m,rfl,_,hw⟩:=DataW.trod_int ht h;exact⟨UInt64.ofInt m,.cons rfl (OC hw) .nil⟩
theorem Lb(ht:P.underlying t=Bm (.int .u8)):qu P n t UInt8 λm=>[.u8 m]:=by intro H enc w base spare held cs x h;obtain⟨m,rfl,_,hw⟩:=DataW.trod_int ht h;exact⟨UInt8.ofInt m,.cons rfl (.sc (by show Bm _=Bm _;rw[UX hw])) .nil⟩
theorem vG(ht:P.underlying t=Bm .string):qu P n t bE λm=>[.s m]:=by intro H enc w base spare held cs x h;obtain⟨m,rfl,_,_⟩:=DataW.trod_string ht h;exact⟨m.data.toList,.cons rfl (.sc rfl) .nil⟩
theorem wF{e:TypeId}{st:eu}(ht:P.underlying t=Bm (.slice e))(hs:P.cellsOf e=st.size)(tQ:0<st.size)(he:∀m,m<n->qu P m e st.El λa=>(st.tv a).cells):qu P n t (List st.El) λl=>[.sl st l]:=by
 intro H enc w base spare held cs x h;rcases DataW.trod_slice ht h with⟨rfl,_⟩|⟨a,len,cap,elems,rest,m,rfl,rfl,_,_,h2,h3,h4,h5,_,_⟩;{exact⟨[],.cons rfl (.sn _) .nil⟩}
 ·by_cases h0:len=0;{subst h0;exact⟨[],.cons rfl (.em _ h3) .nil⟩}
  ·have get:∀i,i<len->∃ys,w.cells? base (a.add (i*st.size)) st.size=Bm ys/\∃y:st.El,dn (Old w) w (st.tv y).cells ys:=λi hi=>by{have:=h5 i hi;rw[hs]at this;have gS:i<elems.length:=by{omega};rw[au gS]at this;obtain⟨ys,h6,h7⟩:=aQ.1 this;exact⟨ys,h6,he m (Nat.lt_succ_self m) H enc w base spare held ys _ h7⟩};have QK:a.spot=Kk:=by
    obtain⟨ys,h6,_⟩:=get 0 (by omega);obtain⟨_,h7,h8⟩:=World.cells?_some h6;have h9:=h8 0 tQ;cases hy:ys[0]? with
    |none=>rw[List.getElem?_eq_none_iff]at hy;omega
    |some y=>rw[hy]at h9;simpa[Addr.add]using World.cell?_spot h9
   obtain⟨b,off,spot⟩:=a;simp only at QK;subst QK;have key:∀k i,i+k=len->∃l:List st.El,l.length=k/\mh (Old w) w st.size (l.map st.tv) b (off+i*st.size):=by
    intro k;induction k with
    |zero=>exact λi _=>⟨[],rfl,.nil _ _ _⟩
    |succ k ih=>intro i hi;obtain⟨l,hl,hE⟩:=ih (i+1) (by omega);obtain⟨ys,h6,y,h7⟩:=get i (by omega);obtain⟨_,h8,h9⟩:=World.cells?_some h6;refine⟨y::l,by simp[hl],.cons (oh.write (eu.nv st y) h7 (λj hj=>?_) (λj z hz=>?_)) ?_⟩;{have kv:=h9 j hj;have hjy:j<ys.length:=by{omega};rw[au hjy]at kv;by_cases gS:b<w.heap.size;{exact gS};{have:w.heap[b]?=Kk:=Array.getElem?_eq_none (by omega);rw[Uc,Uc]at kv;simp only[World.cell?,this]at kv;cases kv}};{have hj:j<st.size:=by{have:=(aG.1 hz).1;omega};have kv:=h9 j hj;rw[hz,Uc,Uc]at kv;exact kv};{rw[show off+i*st.size+st.size=off+(i+1)*st.size by rw[Nat.succ_mul];omega];exact hE}
   obtain⟨l,hl,hE⟩:=key len 0 (by omega);refine⟨l,.cons rfl (.sl hl.symm h2 h3 ?_) .nil⟩;simpa using hE
def qt(P:Program)(n:Nat)(fs:List (TypeId×Nat))(off:Nat)(A:Type)(g:A->List TV):Prop:=∀(H:Type)(enc:TypeId×Value->H)(w:World)(base:Nat)(spare:Nat->Bool)(held:Bool)(cs:List Value),(∀f∈fs,∃x:DataW H×List MemPlace,DataW.trod enc P w base spare held n f.1 ((cs.drop f.2).take (P.cellsOf f.1))=Bm x)->cs.length=off+(fs.map λf=>P.cellsOf f.1).sum->∃a:A,dn (Old w) w (g a) (cs.drop off)
theorem Hc{off:Nat}:qt P n [] off Unit λ_=>[]:=by intro H enc w base spare held cs _ hl;refine⟨(),?_⟩;rw[aD (by simp at hl;omega)];exact .nil
theorem lf{t:TypeId}{fs:List (TypeId×Nat)}{off c:Nat}{A B:Type}{g:A->List TV}{g':B->List TV}(hc:P.cellsOf t=c)(h:qu P n t A g)(hr:qt P n fs (off+c) B g'):qt P n ((t,off)::fs) off (A×B) λp=>g p.1++g' p.2:=by subst hc;intro H enc w base spare held cs hx hl;obtain⟨x,h1⟩:=hx (t,off) (List.mem_cons_self ..);obtain⟨a,ha⟩:=h H enc w base spare held _ x h1;obtain⟨b,hb⟩:=hr H enc w base spare held cs (λf' CR=>hx f' (List.mem_cons_of_mem _ CR)) (by simp only[bc,List.sum_cons]at hl;omega);refine⟨(a,b),?_⟩;have e:cs.drop off=(cs.drop off).take (P.cellsOf t)++cs.drop (off+P.cellsOf t):=by{rw[<-List.drop_drop];exact(List.take_append_drop _ _).symm};rw[e];exact ha.append hb
theorem uB{fs:Array Field}{l:List (TypeId×Nat)}{A B:Type}{g:A->List TV}{g':B->List TV}(ht:P.underlying t=Bm (.struct fs))(hl:(fs.toList.map λf=>(f.type,f.offset))=l)(hc:P.cellsOf t=(l.map λf=>P.cellsOf f.1).sum)(hr:∀m,m<n->qt P m l 0 A g)(f:A->B)(hf:∀a,g a=g' (f a)):qu P n t B g':=by intro H enc w base spare held cs x h;obtain⟨xs,m,rfl,_,h1,h2,h3⟩:=DataW.trod_struct ht h;obtain⟨a,ha⟩:=hr m (Nat.lt_succ_self m) H enc w base spare held cs (λp hp=>by rw[<-hl]at hp;obtain⟨f,hf,rfl⟩:=bo.1 hp;obtain⟨i,hi⟩:=List.getElem?_of_mem hf;have gS:=(aG.1 hi).1;have:=h3 i f (by simpa using hi);have SO:i<xs.length:=by{rw[h2];simpa using gS};rw[au SO]at this;exact⟨_,this⟩) (by rw[h1,hc];simp);exact⟨f a,by rw[<-hf];simpa using ha⟩
def fieldsOf(P:Program)(t:TypeId):Option (List (TypeId×Nat)):=match P.underlying t with
 |some (.struct fs)=>Bm (fs.toList.map λf=>(f.type,f.offset))
 |_=>Kk
theorem tq{l:List (TypeId×Nat)}(h:fieldsOf P t=Bm l):∃fs,P.underlying t=Bm (.struct fs)/\(fs.toList.map λf=>(f.type,f.offset))=l:=by unfold fieldsOf at h;split at h;{rename_i fs e;cases h;exact⟨fs,e,rfl⟩};{cases h}
structure ValTys (P:Program) (tv tf tk ti tu ts tb ty:TypeId):Prop where
 v:fieldsOf P tv=Bm [(ti,0),(tu,1),(tu,2),(tu,3),(ts,4),(ts,5),(ti,6),(tb,7),(tk,8)]
 f:fieldsOf P tf=Bm [(ts,0),(tv,1)]
 k:P.underlying tk=Bm (.slice tf)
 i:P.underlying ti=Bm (.int .i64)
 u:P.underlying tu=Bm (.int .u64)
 s:P.underlying ts=Bm .string
 b:P.underlying tb=Bm (.slice ty)
 y:P.underlying ty=Bm (.int .u8)
 cv:P.cellsOf tv=9
 cf:P.cellsOf tf=10
 ck:P.cellsOf tk=1
 ci:P.cellsOf ti=1
 cu:P.cellsOf tu=1
 cs:P.cellsOf ts=1
 cb:P.cellsOf tb=1
 cy:P.cellsOf ty=1
theorem DD{y:TypeId}(ht:P.underlying t=Bm (.slice y))(hy:P.underlying y=Bm (.int .u8))(hc:P.cellsOf y=1):qu P n t bE λl=>[.sl .bs l]:=wF (st:=.bs) ht hc (by decide) λ_ _=>Lb hy
theorem ValTys.val{tv tf tk ti tu ts tb ty:TypeId}(T:ValTys P tv tf tk ti tu ts tb ty):∀n,qu P n tv Val Val.cells/\qu P n tf bB bB.cells:=by
 intro n;induction n using Nat.strongRecOn with
 |_ n ih=>have hv:∀m,m<=n->(∀k,k<m->qu P k tf bB bB.cells)->qu P m tv Val Val.cells:=λm hm ihf=>by{obtain⟨fs,h1,h2⟩:=tq T.v;have R:=λ(k:Nat)(hk:k<m)=>(lf (off:=0) T.ci (Ar T.i) (lf T.cu (vF T.u) (lf T.cu (vF T.u) (lf T.cu (vF T.u) (lf T.cs (vG T.s) (lf T.cs (vG T.s) (lf T.ci (Ar T.i) (lf T.cb (DD T.b T.y T.cy) (lf T.ck (wF (st:=.fl) T.k T.cf (by decide) λj hj=>ihf j (by omega)) Hc)))))))):qt P k _ 0 _ _);exact uB h1 h2 (by simp[T.cv,T.ci,T.cu,T.cs,T.cb,T.ck]) R (λa=>(⟨a.1,a.2.1,a.2.2.1,a.2.2.2.1,a.2.2.2.2.1,a.2.2.2.2.2.1,a.2.2.2.2.2.2.1,a.2.2.2.2.2.2.2.1,a.2.2.2.2.2.2.2.2.1⟩:Val)) (λa=>rfl)};refine⟨hv n (Nat.le_refl n) λk hk=>(ih k hk).2,?_⟩;obtain⟨fs,h1,h2⟩:=tq T.f;have R:=λ(k:Nat)(hk:k<n)=>(lf (off:=0) T.cs (vG T.s) (lf T.cv (hv k (by omega) λj hj=>(ih j (by omega)).2) Hc):qt P k _ 0 _ _);exact uB h1 h2 (by simp[T.cf,T.cv,T.cs]) R (λa=>bB.of a.1 a.2.1) (λa=>by simp[bB.of,bB.cells,Val.cells,bB.name,bB.kind,bB.bits,bB.high,bB.low,bB.text,bB.more,bB.sub,bB.bytes,bB.kids])
theorem ValTys.rep{tv tf tk ti tu ts tb ty:TypeId}(T:ValTys P tv tf tk ti tu ts tb ty){H:Type}{enc:TypeId×Value->H}{w:World}{base:Nat}{spare:Nat->Bool}{held:Bool}{cs:Array Value}{d:DataW H}{p:List MemPlace}(h:DataW.Trod enc P w base spare held tv (.agg cs) d p):∃v:Val,Rep (Old w) w (.ag (Val.cells v)) (.agg cs):=by obtain⟨n,h⟩:=h;obtain⟨v,hv⟩:=(T.val n).1 H enc w base spare held _ _ h;exact⟨v,.ag (by simpa[Value.cells]using hv)⟩
end
end Go.Eng
namespace Go.Eng
open Ieee
namespace Fl
def Val(m:Nat)(p:Int)(N:Nat):Prop:=m*2^p.toNat=N*2^(-p).toNat
def W(b:Nat)(n:Int):Prop:=∃s m p,double.read b=.number s m p/\Val m p n.natAbs/\(n<0->s=Qf)/\(0<n->s=Qg)
def Bb(s:Bool)(k d:Nat)(h:d<=(k*2^d).log2+2):Toward.even.cut s (k*2^d) d=k:=by unfold Toward.cut;rw[Nat.min_eq_left h,Nat.one_shiftLeft];have hp:0<2^d:=Nat.two_pow_pos d;have h1:k*2^d/2^d=k:=Nat.mul_div_cancel k hp;have h2:k*2^d%2^d=0:=Nat.mul_mod_left k (2^d);simp only[h1,h2];have h3:¬(2^d<2*0):=by{omega};have h4:(2^d==2*0)=Qg:=by{rw[beq_eq_false_iff_ne];omega};simp[h3,h4]
def cut0(s:Bool)(n:Nat):Toward.even.cut s n 0=n:=by have:=Bb s n 0 (Nat.zero_le _);rwa[Nat.pow_zero,Nat.mul_one]at this
def qN(N k:Nat)(h:N≠0):(N*2^k).log2=N.log2+k:=by have hp:0<2^k:=Nat.two_pow_pos k;have hn:N*2^k≠0:=Nat.mul_ne_zero h (by omega);refine(Nat.log2_eq_iff hn).2 ⟨?_,?_⟩;{rw[Nat.pow_add];exact aA _ (Nat.log2_self_le h)};{rw[show N.log2+k+1=N.log2+1+k by omega,Nat.pow_add];exact Nat.mul_lt_mul_of_pos_right Nat.lt_log2_self hp}
set_option maxRecDepth 10000 in
def CX(s:Bool)(m:Nat)(p:Int)(N:Nat)(hN:N<=9007199254740992)(hv:Val m p N):∃K q,double.read (double.write (.number s m p))=.number s K q/\Val K q N:=by have hw:double.signWeight=2^63:=rfl;have hB:double.binade=4503599627370496:=rfl;have hI:double.infRung=2047*4503599627370496:=rfl;have Xp:double.leastPlace=-1074:=by{decide};have QL:∀rE,rE<2^63->double.read (double.word s rE)=(if rE<4503599627370496 then .number s rE (-1074)else if rE<2047*4503599627370496 then .number s (4503599627370496+rE%4503599627370496) (-1074+(rE/4503599627370496 -1:Nat))else if rE=2047*4503599627370496 then .infinity s else .nan s (rE -2047*4503599627370496)):=by{intro rE hr;unfold Format.read Format.word;simp only[hw,hB,hI,Xp];have e1:(if s=Qf then 2^63+rE else rE)%2^63=rE:=by{cases s<;>simp<;>omega};have e2:((if s=Qf then 2^63+rE else rE)/2^63%2==1)=s:=by{cases s;{have:rE/2^63=0:=Nat.div_eq_of_lt hr;simp only[br,if_false];rw[this];rfl};{have:(2^63+rE)/2^63=1:=by{rw[Nat.add_div_left _ (by decide),Nat.div_eq_of_lt hr]};simp only[if_true];rw[this];rfl}};rw[e1,e2]};by_cases hm:m=0;{subst hm;refine⟨0,-1074,?_,?_⟩;{unfold Format.write Format.nearest;simp only[if_true];rw[QL 0 (by decide),ar (by decide)]};{unfold Val at hv⊢;have QU:N=0:=by{rw[Nat.zero_mul]at hv;rcases Nat.mul_eq_zero.1 hv.symm with h|h;{exact h};{exact absurd h (Nat.pos_iff_ne_zero.1 (Nat.two_pow_pos _))}};rw[QU,Nat.zero_mul,Nat.zero_mul]}};{have QU:N≠0:=λh=>by{unfold Val at hv;rw[h,Nat.zero_mul]at hv;rcases Nat.mul_eq_zero.1 hv with h|h;{exact hm h};{exact absurd h (Nat.pos_iff_ne_zero.1 (Nat.two_pow_pos _))}};have hlog:p+m.log2=N.log2:=by{unfold Val at hv;have h1:=qN m p.toNat hm;have h2:=qN N (-p).toNat QU;rw[hv]at h1;omega};have hl:N.log2<=53:=by{have:=Nat.log2_self_le QU;have h3:2^N.log2<2^54:=by{omega};have:=(Nat.pow_lt_pow_iff_right (show 1<2 by decide)).1 h3;omega};have Gl:=Nat.log2_self_le QU;have AV:N<2^(N.log2+1):=Nat.lt_log2_self;obtain⟨L,hL⟩:∃L:Int,L=(N.log2:Int) -52:=⟨_,rfl⟩;obtain⟨K,k1,k2,k3,k4,k5⟩:∃K:Nat,Val K L N/\4503599627370496<=K/\K<9007199254740992/\(L<=p->m*2^(p -L).toNat=K)/\(p<L->m=K*2^(L -p).toNat):=by{unfold Val at hv;by_cases hc:N.log2<=52;{have eL:L.toNat=0:=by{omega};have eL2:(-L).toNat=52 -N.log2:=by{omega};refine⟨N*2^(52 -N.log2),?_,?_,?_,λh=>?_,λh=>?_⟩;{unfold Val;rw[eL,eL2,Nat.pow_zero,Nat.mul_one]};{have:=aA (2^(52 -N.log2)) Gl;rw[<-Nat.pow_add,show N.log2+(52 -N.log2)=52 by omega]at this;exact this};{have:=Nat.mul_lt_mul_of_pos_right AV (Nat.two_pow_pos (52 -N.log2));rw[<-Nat.pow_add,show N.log2+1+(52 -N.log2)=53 by omega]at this;exact this};{by_cases h0:0<=p;{rw[show(-p).toNat=0 by omega,Nat.pow_zero,Nat.mul_one]at hv;rw[show(p -L).toNat=p.toNat+(52 -N.log2) by omega,Nat.pow_add,<-Nat.mul_assoc,hv]};{rw[show p.toNat=0 by omega,Nat.pow_zero,Nat.mul_one]at hv;rw[hv,Nat.mul_assoc,<-Nat.pow_add,show(-p).toNat+(p -L).toNat=52 -N.log2 by omega]}};{rw[show p.toNat=0 by omega,Nat.pow_zero,Nat.mul_one]at hv;rw[hv,Nat.mul_assoc,<-Nat.pow_add,show 52 -N.log2+(L -p).toNat=(-p).toNat by omega]}};{have e53:N.log2=53:=by{omega};have eN:N=9007199254740992:=by{rw[e53]at Gl;omega};have eL:L=1:=by{omega};subst eL;refine⟨4503599627370496,?_,by decide,by decide,λh=>?_,λh=>?_⟩;{unfold Val;rw[eN];rfl};{rw[show(-p).toNat=0 by omega,Nat.pow_zero,Nat.mul_one,show p.toNat=(p -1).toNat+1 by omega,Nat.pow_succ,eN,<-Nat.mul_assoc]at hv;omega};{rw[show p.toNat=0 by omega,Nat.pow_zero,Nat.mul_one,eN]at hv;rw[hv,show(1 -p).toNat=(-p).toNat+1 by omega,Nat.pow_succ];omega}}};have VJ:Toward.even.cut s (m<<<(p -L).toNat) (L -p).toNat=K:=by{rw[Nat.shiftLeft_eq];by_cases h:L<=p;{rw[k4 h,show(L -p).toNat=0 by omega];exact cut0 s K};{have e:=k5 (by omega);rw[show(p -L).toNat=0 by omega,Nat.pow_zero,Nat.mul_one,e];refine Bb s K _ ?_;rw[<-e];omega}};have hrg:(L+1074).toNat*4503599627370496+K<2047*4503599627370496:=by{omega};refine⟨K,L,?_,k1⟩;unfold Format.write Format.nearest;simp only[ak hm,hB,hI,Xp,show double.fractionBits=52 from rfl];rw[show max (p+(m.log2:Int) -((52:Nat):Int)) (-1074)=L by omega,VJ,show L - -1074=L+1074 by omega,Nat.min_eq_left (by omega),QL _ (by omega),ak (by omega),ar (by omega)];have r1:((L+1074).toNat*4503599627370496+K)%4503599627370496=K -4503599627370496:=by{omega};have r2:((L+1074).toNat*4503599627370496+K)/4503599627370496=(L+1074).toNat+1:=by{omega};have r3:4503599627370496+(K -4503599627370496)=K:=by{omega};have r4:-1074+(((L+1074).toNat+1 -1:Nat):Int)=L:=by{omega};rw[r1,r2,r3,r4]}
def WD(d:Datum)(n:Int):Prop:=∃s m p,d=.number s m p/\Val m p n.natAbs/\(n<0->s=Qf)/\(0<n->s=Qg)
def WD.write{d:Datum}{n:Int}(h:WD d n)(hn:n.natAbs<=9007199254740992):W (double.write d) n:=by obtain⟨s,m,p,rfl,hv,h1,h2⟩:=h;obtain⟨K,q,hr,hk⟩:=CX s m p n.natAbs hn hv;exact⟨s,K,q,hr,hk,h1,h2⟩
theorem W.map{d:Datum}{n:Int}{o:Option Datum}(ho:o=Bm d)(h:WD d n)(hn:n.natAbs<=9007199254740992):∃r,o.map double.write=Bm r/\W r n:=⟨_,by rw[ho];rfl,h.write hn⟩
def WD.product{d e:Datum}{x y:Int}(hx:WD d x)(hy:WD e y):∃r,d.product e=Bm r/\WD r (x*y):=by
 obtain⟨s,m,i,rfl,hv,h1,h2⟩:=hx;obtain⟨t,n,j,rfl,hw,g1,g2⟩:=hy;refine⟨_,rfl,_,_,_,rfl,?_,?_,?_⟩
 ·unfold Val at*;rw[Int.natAbs_mul];obtain⟨c,Kd,Gp⟩:∃c:Nat,i.toNat+j.toNat=(i+j).toNat+c/\(-i).toNat+(-j).toNat=(-(i+j)).toNat+c:=by{refine⟨i.toNat+j.toNat -(i+j).toNat,?_,?_⟩<;>omega};have h:m*n*2^(i.toNat+j.toNat)=x.natAbs*y.natAbs*2^((-i).toNat+(-j).toNat):=by
   rw[Nat.pow_add,Nat.pow_add];calc m*n*(2^i.toNat*2^j.toNat)=(m*2^i.toNat)*(n*2^j.toNat):=by ac_rfl
    _=(x.natAbs*2^(-i).toNat)*(y.natAbs*2^(-j).toNat):=by rw[hv,hw]
    _=x.natAbs*y.natAbs*(2^(-i).toNat*2^(-j).toNat):=by ac_rfl
  rw[Kd,Gp,Nat.pow_add,Nat.pow_add,<-Nat.mul_assoc,<-Nat.mul_assoc]at h;exact Nat.eq_of_mul_eq_mul_right (Nat.two_pow_pos c) h
 {intro h;rcases Int.lt_or_lt_of_ne (show x≠0 from λe=>by rw[e,Int.zero_mul]at h;omega)with a|a;{have:0<y:=by{rcases Int.lt_or_lt_of_ne (show y≠0 from λe=>by rw[e,Int.mul_zero]at h;omega)with b|b;{have:=Int.mul_pos_of_neg_of_neg a b;omega};{exact b}};rw[h1 a,g2 this];rfl};{have:y<0:=by{rcases Int.lt_or_lt_of_ne (show y≠0 from λe=>by rw[e,Int.mul_zero]at h;omega)with b|b;{exact b};{have:=Int.mul_pos a b;omega}};rw[h2 a,g1 this];rfl}};{intro h;rcases Int.lt_or_lt_of_ne (show x≠0 from λe=>by rw[e,Int.zero_mul]at h;omega)with a|a;{have:y<0:=by{rcases Int.lt_or_lt_of_ne (show y≠0 from λe=>by rw[e,Int.mul_zero]at h;omega)with b|b;{exact b};{have:=Int.mul_neg_of_neg_of_pos a b;omega}};rw[h1 a,g1 this];rfl};{have:0<y:=by{rcases Int.lt_or_lt_of_ne (show y≠0 from λe=>by rw[e,Int.mul_zero]at h;omega)with b|b;{have:=Int.mul_neg_of_pos_of_neg a b;omega};{exact b}};rw[h2 a,g2 this];rfl}}
def oD{s:Bool}{m:Nat}{i base:Int}{x:Int}(hv:Val m i x.natAbs)(h1:x<0->s=Qf)(h2:0<x->s=Qg)(hb:base<=i):Ieee.signed s m (i -base).toNat*(2:Int)^base.toNat=x*(2:Int)^(-base).toNat:=by
 unfold Val at hv;have hN:m*2^(i -base).toNat*2^base.toNat=x.natAbs*2^(-base).toNat:=by
  obtain⟨c,Kd,Gp⟩:∃c:Nat,(i -base).toNat+base.toNat+c=i.toNat+((i -base).toNat+base.toNat+c -i.toNat)/\c=(-i).toNat:=⟨_,by omega,rfl⟩;have e1:(i -base).toNat+base.toNat+(-i).toNat=i.toNat+(-base).toNat:=by{omega};have h:m*2^(i -base).toNat*2^base.toNat*2^(-i).toNat=x.natAbs*2^(-base).toNat*2^(-i).toNat:=by
   calc m*2^(i -base).toNat*2^base.toNat*2^(-i).toNat=m*2^((i -base).toNat+base.toNat+(-i).toNat):=by rw[Nat.pow_add,Nat.pow_add];ac_rfl
    _=m*2^i.toNat*2^(-base).toNat:=by rw[e1,Nat.pow_add];ac_rfl
    _=x.natAbs*2^(-base).toNat*2^(-i).toNat:=by rw[hv];ac_rfl
  exact Nat.eq_of_mul_eq_mul_right (Nat.two_pow_pos _) h
 have hZ:((m*2^(i -base).toNat:Nat):Int)*(2:Int)^base.toNat=(x.natAbs:Int)*(2:Int)^(-base).toNat:=by{have:=congrArg (Nat.cast (R:=Int)) hN;simpa using this};unfold Ieee.signed;rw[Nat.shiftLeft_eq];rcases Int.lt_trichotomy x 0 with a|a|a;{rw[h1 a,ar rfl,Int.neg_mul,hZ,show(x.natAbs:Int)=-x by omega,Int.neg_mul,Int.neg_neg]};{subst a;have h0:((m*2^(i -base).toNat:Nat):Int)*(2:Int)^base.toNat=0:=by{rw[hZ];simp};cases s;{rw[ak (by decide),h0];simp};{rw[ar rfl,Int.neg_mul,h0];simp}};{rw[h2 a,ak (by decide),hZ,show(x.natAbs:Int)=x by omega]}
def WD.sum{d e:Datum}{x y:Int}(hx:WD d x)(hy:WD e y):∃r,d.sum e=Bm r/\WD r (x+y):=by
 obtain⟨s,m,i,rfl,hv,h1,h2⟩:=hx;obtain⟨t,n,j,rfl,hw,g1,g2⟩:=hy;have e1:=oD hv h1 h2 (show min i j<=i by omega);have e2:=oD hw g1 g2 (show min i j<=j by omega);refine⟨_,rfl,_,_,_,rfl,?_,?_,?_⟩;(all_goals generalize min i j=base at e1 e2⊢);all_goals
  have e3:(Ieee.signed s m (i -base).toNat+Ieee.signed t n (j -base).toNat)*(2:Int)^base.toNat=(x+y)*(2:Int)^(-base).toNat:=by rw[Int.add_mul,Int.add_mul,e1,e2]
  generalize Ieee.signed s m (i -base).toNat+Ieee.signed t n (j -base).toNat=T at e3⊢
  have p1:(0:Int)<(2:Int)^base.toNat:=by exact_mod_cast Nat.two_pow_pos base.toNat
  have p2:(0:Int)<(2:Int)^(-base).toNat:=by exact_mod_cast Nat.two_pow_pos (-base).toNat
 {unfold Val;have:=congrArg Int.natAbs e3;rw[Int.natAbs_mul,Int.natAbs_mul,Int.natAbs_pow,Int.natAbs_pow]at this;exact this};{intro h;have hT:T<0:=by{have h3:=Int.mul_neg_of_neg_of_pos h p2;rw[<-e3]at h3;exact Int.not_le.1 λL7=>by have:=Int.mul_nonneg L7 (Int.le_of_lt p1);omega};rw[ak (by omega)];exact aa hT};{intro h;have hT:0<T:=by{have h3:=Int.mul_pos h p2;rw[<-e3]at h3;exact Int.not_le.1 λL7=>by have:=Int.mul_nonneg (show 0<=-T by omega) (Int.le_of_lt p1);rw[Int.neg_mul]at this;omega};rw[ak (by omega)];exact ab (by omega)}
def WD.opposite{d:Datum}{x:Int}(hx:WD d x):WD d.opposite (-x):=by obtain⟨s,m,i,rfl,hv,h1,h2⟩:=hx;exact⟨!s,m,i,rfl,by rw[Int.natAbs_neg];exact hv,λh=>by rw[h2 (by omega)];rfl,λh=>by rw[h1 (by omega)];rfl⟩
def J4{a b:Nat}{x y:Int}(ha:W a x)(hb:W b y)(h:(x+y).natAbs<=9007199254740992):∃r,double.add a b=Bm r/\W r (x+y):=by obtain⟨d,e,hd⟩:=WD.sum ha hb;exact W.map e hd h
def Iw{a b:Nat}{x y:Int}(ha:W a x)(hb:W b y)(h:(x -y).natAbs<=9007199254740992):∃r,double.sub a b=Bm r/\W r (x -y):=by obtain⟨d,e,hd⟩:=WD.sum ha (WD.opposite hb);exact W.map e hd h
def I2{a b:Nat}{x y:Int}(ha:W a x)(hb:W b y)(h:(x*y).natAbs<=9007199254740992):∃r,double.mul a b=Bm r/\W r (x*y):=by obtain⟨d,e,hd⟩:=WD.product ha hb;exact W.map e hd h
def DE(n:Int)(h:n.natAbs<=9007199254740992):W (double.write (.number (n<0) n.natAbs 0)) n:=WD.write ⟨_,_,_,rfl,by unfold Val;simp,λh=>aa h,λh=>ab (by omega)⟩ h
def mr{a b:Nat}{x y:Int}(ha:W a x)(hb:W b y):double.order a b=Bm (compare x y):=by obtain⟨s,m,i,hr,hv,h1,h2⟩:=ha;obtain⟨t,n,j,hq,hw,g1,g2⟩:=hb;have e1:=oD hv h1 h2 (show min i j<=i by omega);have e2:=oD hw g1 g2 (show min i j<=j by omega);unfold Format.order;rw[hr,hq];show Bm (compare (Ieee.signed s m (i -min i j).toNat) (Ieee.signed t n (j -min i j).toNat))=_;generalize min i j=base at e1 e2⊢;have p1:(0:Int)<(2:Int)^base.toNat:=by{exact_mod_cast Nat.two_pow_pos base.toNat};have p2:(0:Int)<(2:Int)^(-base).toNat:=by{exact_mod_cast Nat.two_pow_pos (-base).toNat};generalize Ieee.signed s m (i -base).toNat=A at e1⊢;generalize Ieee.signed t n (j -base).toNat=B at e2⊢;congr 1;rcases Int.lt_trichotomy x y with c|c|c;{have h3:=Int.mul_lt_mul_of_pos_right c p2;rw[<-e1,<-e2]at h3;have h4:A<B:=Int.lt_of_mul_lt_mul_right h3 (Int.le_of_lt p1);rw[Int.compare_eq_lt.2 h4,Int.compare_eq_lt.2 c]};{subst c;rw[<-e2]at e1;have h4:A=B:=Int.eq_of_mul_eq_mul_right (by omega) e1;rw[h4];simp};{have h3:=Int.mul_lt_mul_of_pos_right c p2;rw[<-e1,<-e2]at h3;have h4:B<A:=Int.lt_of_mul_lt_mul_right h3 (Int.le_of_lt p1);rw[Int.compare_eq_gt.2 h4,Int.compare_eq_gt.2 c]}
end Fl
end Go.Eng
namespace Go.Eng
namespace Nt
def val:List UInt16->Nat
 |[]=>0
 |d::r=>d.toNat+65536*val r
def fix:Nat->Nat->List UInt16
 |0,_=>[]
 |k+1,n=>UInt16.ofNat n::fix k (n/65536)
def of(n:Nat):List UInt16:=if n=0 then[]else UInt16.ofNat n::of (n/65536)
termination_by n
decreasing_by exact Nat.div_lt_self (by omega) (by omega)
def norm(a:List UInt16):Bool:=nP (a.getLast?≠Bm 0)
def is(a:List UInt16):Bool:=nP (a.length<=256)&&norm a
def bits(n:Nat):Nat:=if n=0 then 0 else n.log2+1
def cmp(a b:Nat):Int:=if a<b then -1 else if a=b then 0 else 1
end Nt
namespace Gz
def UU:List Cx:=[(4607182418800017408,0),(0,4607182418800017408),(13830554455654793216,0),(0,13830554455654793216)]
def mul(z w:Cx):Cx:=(Fl.wi z.1 z.2 w.1 w.2,Fl.wk z.1 z.2 w.1 w.2)
def add(z w:Cx):Cx:=(Fl.add z.1 w.1,Fl.add z.2 w.2)
def unit(k:Int):Cx:=UU.getD (k%4).toNat (0,0)
def jN(z:Cx)(k:Int):Cx:=mul z (unit k)
def part(l:Qd)(way:Int)(k:Nat):Nat->Cx
 |0=>(0,0)
 |j+1=>add (part l way k j) (jN (l.get j) (j*k*way))
def qz(l:Qd)(way:Int):Qd:=⟨part l way 0 4,part l way 1 4,part l way 2 4,part l way 3 4⟩
def quarter(z:Cx):Cx:=(Fl.ofInt ((Fl.toInt z.1).tdiv 4),Fl.ofInt ((Fl.toInt z.2).tdiv 4))
def back(l:Qd):Qd:=⟨quarter (part l (-1) 0 4),quarter (part l (-1) 1 4),quarter (part l (-1) 2 4),quarter (part l (-1) 3 4)⟩
def CK(n:Int):Cx:=(Fl.ofInt n,Fl.ofInt 0)
def jA:List Int->List Qd
 |[]=>[]
 |[a]=>[qz ⟨CK a,(0,0),(0,0),(0,0)⟩ 1]
 |a::b::r=>qz ⟨CK a,CK b,(0,0),(0,0)⟩ 1::jA r
def Is(z:Cx)(x y:Int):Prop:=Fl.W z.1 x/\Fl.W z.2 y
def In(z:Cx)(M:Nat):Prop:=∃x y:Int,Is z x y/\x.natAbs<=M/\y.natAbs<=M
def Rq(l:Qd)(M:Nat):Prop:=In l.c0 M/\In l.c1 M/\In l.c2 M/\In l.c3 M
def In4(z:Cx):Prop:=∃x y:Int,Is z (4*x) (4*y)/\x.natAbs<=562949953421312/\y.natAbs<=562949953421312
open Classical in
def zR(z:Cx)(M:Nat):Bool:=nP (In z M)
open Classical in
def CL(l:Qd)(M:Nat):Bool:=nP (Rq l M)
open Classical in
def Su(l:Qd):Bool:=nP (∀k,k<4->In4 (part l (-1) k 4))
open Classical in
def Ss(z:Cx)(b:Nat):Bool:=nP (∃x y m:Int,Is z x y/\Fl.W b m/\(x.natAbs:Int)<=m/\(y.natAbs:Int)<=m/\m<=9007199254740992)
open Classical in
def QD(b:Nat):Bool:=nP (∃n:Int,Fl.W b n/\n.natAbs<=1125899906842624)
def JS(a b:List Int)(m:Nat):Int:=(List.range (m+1)).foldl (λs i=>s+a.getD i 0*b.getD (m -i) 0) 0
def conv (a b:List Int):List Int:=if a=[]\/b=[]then[]else(List.range (a.length+b.length -1)).map (JS a b)
def jP(a:List Int):Bool:=a.all λx=>nP (0<=x/\x<=65535)
end Gz
namespace Nr
def fu(c:UInt8):Bool:=nP (48<=c/\c<=57)
def num(d:bE):Nat:=d.foldl (λn c=>10*n+(c.toNat -48)) 0
def dec(n:Nat):bE:=if n<10 then[UInt8.ofNat (48+n)]else dec (n/10)++[UInt8.ofNat (48+n%10)]
termination_by n
decreasing_by exact Nat.div_lt_self (by omega) (by omega)
def QC:{f:Int->bE//∀v,f v=if v<0 then 45::dec v.natAbs else dec v.natAbs}:=Classical.choice ⟨⟨λv=>if v<0 then 45::dec v.natAbs else dec v.natAbs,λ_=>rfl⟩⟩
def itoa(v:Int):bE:=QC.1 v
theorem pC(v:Int):itoa v=if v<0 then 45::dec v.natAbs else dec v.natAbs:=QC.2 v
def iE(d:bE):bE:=(d.reverse.dropWhile (· ==48)).reverse
def yq(d:bE):bE:=d.dropWhile (· ==48)
def rj(p:Nat):Nat:=if p<4503599627370496 then p else p%4503599627370496+4503599627370496
def sh(p:Nat):Nat:=p/4503599627370496 -1
def sU(p:Nat):Nat:=(2*rj p+1)*2^sh p
def lV:Nat:=2*2^1074
def iZ(a b p:Nat):Prop:=sU p*b<a*lV\/(sU p*b=a*lV/\p%2=1)
def top:Nat:=9218868437227405311
open Classical in
def kz(a b:Nat):Option Nat:=if h:∃p,p<=top/\¬iZ a b p/\∀q,q<p->iZ a b q then Bm h.choose else Kk
def valid(d:bE):Bool:=nP (1<=d.length/\d.length<=300)&&d.all fu
def rd(n:Nat)(k:Int):Option Nat:=kz (n*10^k.toNat) (10^(-k).toNat)
def read(d:bE)(x:Int):Option Nat:=if valid d then rd (num d) (x -d.length)else Kk
def pat(r:Option Nat):UInt64:=UInt64.ofNat (r.getD 0)
def split(b:UInt64):Int×Bool×UInt64×Int:=
 let x:=b.toNat/4503599627370496%2048
 let f:=b.toNat%4503599627370496
 let neg:=nP (9223372036854775808<=b.toNat)
 if x=2047 then(if f=0 then(3,neg,0,0)else(4,neg,0,0))
 else if x=0 then(if f=0 then(1,neg,0,0)else(2,neg,UInt64.ofNat f,-1074))
 else(2,neg,UInt64.ofNat (4503599627370496+f),x -1075)
def UA(m:Nat)(e:Int):Nat:=m*2^e.toNat*5^(-e).toNat
def exX(m:Nat)(e:Int):Int:=(dec (UA m e)).length+min e 0
def times:List UInt64->UInt64->UInt64->List UInt64
 |[],_,c=>if c>0 then[c]else[]
 |a::r,b,c=>(c+a*b)%100000000::times r b ((c+a*b)/100000000)
def zD(a b:Nat):Nat:=if b<2*(a% b)\/(b=2*(a% b)/\a/b%2=1)then a/b+1 else a/b
def pr(a b:Nat):Bool:=nP (zD a b=a/b+1/\zD a b=9007199254740992)
def lP(a:Nat)(e:Int):Nat:=a*2^(-e).toNat
def lB(b:Nat)(e:Int):Nat:=b*2^e.toNat
def run(s:bE):Nat:=(s.takeWhile fu).length
def tN(s:bE)(k:Int):Int:=
 match s with
 |[]=>k
 |c::r=>if c=101\/c=69 then
   let r:=match r with|d::q=>if d=43\/d=45 then q else r|[]=>r
   if run r=0\/run r<r.length then 0 else 2
  else 0
def pA(s:bE):Int:=
 match s with
 |46::r=>if run r=0 then 0 else tN (r.drop (run r)) 2
 |s=>tN s 1
def kA(s:bE):Int:=
 let t:=match s with|45::r=>r|s=>s
 if run t=0\/(t.getD 0 0=48/\1<run t)then 0 else pA (t.drop (run t))
open Classical in
def i64(v:Int):Bool:=nP (-9223372036854775808<=v/\v<=9223372036854775807)
def Gj{v:Int}(h:i64 v=Qf):nP (-9223372036854775808<=v/\v<=9223372036854775807)=Qf:=aa (ao h)
def signed(s:bE):bE:=match s with|c::r=>if c=43\/c=45 then r else s|[]=>[]
def Ez(s:bE):Int:=
 let n:Nat:=num (signed s)
 if s.getD 0 0=45 then -(n:Int)else n
def body(s:bE):bE:=match s with|45::r=>r|s=>s
def isE(c:UInt8):Bool:=nP (c=101\/c=69)
open Classical in
def join(neg:Bool)(m:Nat)(e:Int):Option Nat:=if h:∃p,p<=top/\rj p*2^sh p*2^(-(e+1074)).toNat=m*2^(e+1074).toNat then Bm (h.choose+if neg then 9223372036854775808 else 0)else Kk
end Nr
namespace Sh
def tA(a:Nat)(k:Int):Nat:=a*10^k.toNat
def tB(b:Nat)(k:Int):Nat:=b*10^(-k).toNat
open Classical in
def reads(p N:Nat)(k:Int):Option (bE×Int):=if Nr.rd N k=Bm p then Bm (Nr.iE (Nr.dec N),(Nr.dec N).length+k)else Kk
def some_(p a b:Nat)(x n:Int):Option (bE×Int):=
 let P:=tA a (n -x)
 let Q:=tB b (n -x)
 let u:=reads p (P/Q) (x -n)
 let o:=reads p (P/Q+1) (x -n)
 if u.isSome=Qf/\(o.isSome=Qg\/2*(P% Q)<Q\/(2*(P% Q)=Q/\P/Q%2=0))then u else o
def mB(p:Nat):Nat:=Nr.rj p*2^((Nr.sh p:Int) -1074).toNat
def jM(p:Nat):Nat:=2^(-((Nr.sh p:Int) -1074)).toNat
def dx(p:Nat):Int:=Nr.exX (Nr.rj p) ((Nr.sh p:Int) -1074)
def go(p:Nat):Nat->Nat->bE×Int
 |0,_=>([],0)
 |f+1,i=>(some_ p (mB p) (jM p) (dx p) i).getD (go p f (i+1))
theorem go_succ(p f i:Nat):go p (f+1) i=(some_ p (mB p) (jM p) (dx p) i).getD (go p f (i+1)):=rfl
def digits(p:Nat):bE×Int:=go p 17 1
def mX(b:UInt64):Nat:=b.toNat%9223372036854775808
def X6(b:UInt64):bE×Int×Bool:=if(Nr.split b).1=2 then((digits (mX b)).1,(digits (mX b)).2,Qf)else([],0,Qg)
def dgX:{f:UInt64->bE×Int×Bool//∀b,f b=X6 b}:=Classical.choice ⟨⟨X6,λ_=>rfl⟩⟩
def dg(b:UInt64):bE×Int×Bool:=dgX.1 b
theorem Q5(b:UInt64):dg b=X6 b:=dgX.2 b
def fk(n:Int):bE:=List.replicate n.toNat 48
def laid(d:bE)(x:Int):bE:=
 if 1<=x/\x<=21/\(d.length:Int)<=x then d++fk (x -d.length)
 else if 1<=x/\x<=21 then d.take x.toNat++([46]++d.drop x.toNat)
 else if -5<=x/\x<=0 then[48,46]++(fk (-x)++d)
 else(d.take 1++(if 1<d.length then 46::d.drop 1 else[]))++(if x<1 then[101,45]++Nr.itoa (1 -x)else[101,43]++Nr.itoa (x -1))
def G3:{f:Nat->bE//∀n,f n=Nr.dec n}:=Classical.choice ⟨⟨Nr.dec,λ_=>rfl⟩⟩
def vq(n:Nat):bE:=G3.1 n
theorem Ac(n:Nat):vq n=Nr.dec n:=G3.2 n
def Hf:{f:Nat->Nat->Int->Option (bE×Int)//∀p N k,f p N k=reads p N k}:=Classical.choice ⟨⟨reads,λ_ _ _=>rfl⟩⟩
def nn(p N:Nat)(k:Int):Option (bE×Int):=Hf.1 p N k
theorem Aj(p N:Nat)(k:Int):nn p N k=reads p N k:=Hf.2 p N k
def KG:{f:Nat->Nat->Nat->Int->Int->Option (bE×Int)//∀p a b x n,f p a b x n=some_ p a b x n}:=Classical.choice ⟨⟨some_,λ_ _ _ _ _=>rfl⟩⟩
def tg(p a b:Nat)(x n:Int):Option (bE×Int):=KG.1 p a b x n
theorem xU(p a b:Nat)(x n:Int):tg p a b x n=some_ p a b x n:=KG.2 p a b x n
open Classical in
def sz(a b:Nat)(x n:Int):Bool:=nP (1<=n/\n<=17/\-380<=x/\x<=380/\0<a/\a<2^1100/\0<b/\b<2^1100/\tB b (n -x)<=tA a (n -x)/\tA a (n -x)<10^17*tB b (n -x))
def LF:{f:bE->Int->bE//∀d x,f d x=laid d x}:=Classical.choice ⟨⟨laid,λ_ _=>rfl⟩⟩
def yE(d:bE)(x:Int):bE:=LF.1 d x
theorem DY(d:bE)(x:Int):yE d x=laid d x:=LF.2 d x
def sign(b:UInt64):bE:=if(Nr.split b).2.1 then[45]else[]
def Ad(b:UInt64):bE:=
 if(Nr.split b).1=4 then[78,97,78]
 else if(Nr.split b).1=3 then sign b++[73,110,102,105,110,105,116,121]
 else if(Nr.split b).1=1 then sign b++[48]
 else sign b++laid (dg b).1 (dg b).2.1
def KB:{f:UInt64->bE//∀b,f b=Ad b}:=Classical.choice ⟨⟨Ad,λ_=>rfl⟩⟩
def text(b:UInt64):bE:=KB.1 b
theorem Bw(b:UInt64):text b=Ad b:=KB.2 b
end Sh
set_option maxRecDepth 20000
namespace fJ
def qR(r:Int):Bool:=nP (0<=r/\r<=1114111/\(r<55296\/57343<r))
def cont:Nat->Nat->bE->Option Nat
 |r,0,_=>Bm r
 |_,_+1,[]=>Kk
 |r,k+1,c::l=>if 128<=c.toNat/\c.toNat<192 then cont (r*64+(c.toNat -128)) k l else Kk
def rQ(r more least:Nat)(l:bE):Int×Int:=
 match cont r more l with
 |some r=>if r<least\/qR r=Qg then(0,0)else((r:Int),(more+1:Int))
 |none=>(0,0)
def rune:bE->Int×Int
 |[]=>(0,0)
 |c::l=>
  if c.toNat<128 then((c.toNat:Int),1)
  else if 192<=c.toNat/\c.toNat<224 then rQ (c.toNat -192) 1 128 l
  else if 224<=c.toNat/\c.toNat<240 then rQ (c.toNat -224) 2 2048 l
  else if 240<=c.toNat/\c.toNat<248 then rQ (c.toNat -240) 3 65536 l
  else(0,0)
def qB(b:bE)(i:Int):Int×Int:=if i<0\/(b.length:Int)<=i then(0,0)else rune (b.drop i.toNat)
def uH:Nat->bE->Nat×Nat
 |0,_=>(0,0)
 |n+1,l=>if(rune l).2=0 then(0,0)else let q:=uH n (l.drop (rune l).2.toNat);(q.1+(rune l).2.toNat,q.2+1)
def look(l:bE):Nat×Nat:=uH l.length l
def whole(l:bE):Bool:=nP ((look l).1=l.length)
def zero(l:bE):Bool:=l.contains 0
end fJ
mutual
def bB.bC:bB->Nat
 |.mk n _ _ _ _ t m _ y ks=>1+n.length+t.length+m.length+y.length+bB.bD ks
def bB.bD:List bB->Nat
 |[]=>0
 |f::r=>bB.bC f+bB.bD r
end
namespace Tree
def I1:List bE:=[[],[100,111,117,98,108,101],[115,116,114,105,110,103],[100,111,99,117,109,101,110,116],[97,114,114,97,121],[98,105,110,97,114,121],[117,110,100,101,102,105,110,101,100],[111,98,106,101,99,116,105,100],[98,111,111,108],[100,97,116,101],[110,117,108,108],[114,101,103,101,120],[112,111,105,110,116,101,114],[99,111,100,101],[115,121,109,98,111,108],[115,99,111,112,101,100],[105,110,116,51,50],[116,105,109,101,115,116,97,109,112],[105,110,116,54,52],[100,101,99,105,109,97,108]]
def name(k:Int):bE:=
 if k=127 then[109,97,120,107,101,121]
 else if k=255 then[109,105,110,107,101,121]
 else if k<0\/20<=k then[]
 else I1.getD k.toNat []
def kinds:List Int:=[1,2,3,4,5,6,7,8,9,10,11,12,13,14,15,16,17,18,19,127,255]
def sX(i:Nat)(k:Int):Bool:=
 match i with
 |0=>nP (k∈[1,9,17,18,16,8])
 |1=>nP (k=19)
 |2=>nP (k∈[2,13,14,11,12,15])
 |3=>nP (k=11)
 |4=>nP (k=5)
 |5=>nP (k∈[5,7,12])
 |_=>nP (k∈[3,4,15])
def dV(v:Val):Bool:=
 (sX 0 v.kind||nP (v.bits=0))&&(sX 1 v.kind||(nP (v.high=0)&&nP (v.low=0)))&&(sX 2 v.kind||nP (v.text=[]))&&(sX 3 v.kind||nP (v.more=[]))&&
 (sX 4 v.kind||nP (v.sub=0))&&(sX 5 v.kind||nP (v.bytes=[]))&&(sX 6 v.kind||nP (v.kids=[]))&&
 (!decide (v.kind=16)||nP (v.bits<4294967296))&&(!decide (v.kind=8)||nP (v.bits<2))&&(nP (0<=v.sub)&&nP (v.sub<=255))&&(!(nP (v.kind=7)||nP (v.kind=12))||nP (v.bytes.length=12))
def gP(s:bE)(plain:Bool):Bool:=fJ.whole s&&!(plain&&fJ.zero s)
def own(v:Val):Int:=
 if name v.kind=[]then 5
 else if dV v=Qg then 1
 else if gP v.text (nP (v.kind=11))=Qg\/gP v.more (nP (v.kind=11))=Qg then 4
 else 0
def qH(v:Val)(n:bE):Int:=if own v≠0 then own v else if gP n Qf=Qg then 4 else 0
mutual
def gw:bB->List Int->List Int×Int
 |.mk n k b h l t m s y ks,p=>if qH ⟨k,b,h,l,t,m,s,y,ks⟩ n≠0 then(p,qH ⟨k,b,h,l,t,m,s,y,ks⟩ n)else mf ks 0 p
def mf:List bB->Nat->List Int->List Int×Int
 |[],_,_=>([],0)
 |f::r,i,p=>if(gw f (p++[(i:Int)])).2≠0 then gw f (p++[(i:Int)])else mf r (i+1) p
end
mutual
def depth:bB->Nat
 |.mk _ k _ _ _ _ _ _ _ ks=>if k=3\/k=4\/k=15 then qW ks+1 else 0
def qW:List bB->Nat
 |[]=>0
 |f::r=>max (depth f) (qW r)
end
def sB(a b:Val):Bool:=nP (a.kind=b.kind)&&nP (a.bits=b.bits)&&nP (a.high=b.high)&&nP (a.low=b.low)&&nP (a.text=b.text)&&nP (a.more=b.more)&&nP (a.sub=b.sub)&&nP (a.bytes=b.bytes)
end Tree
namespace fL
def room(left:Int):List Int->Int
 |[]=>left
 |s::r=>if left<0\/left<s then -1 else room (left -s) r
mutual
def value(left:Int):bB->Int
 |.mk _ _ _ _ _ t m _ y ks=>values (room left [2,t.length,m.length,y.length]) ks
def values(left:Int):List bB->Int
 |[]=>left
 |f::r=>if left<0 then left else values (value (room left [(f.name.length:Int)]) f) r
end
end fL
namespace Tree
def px:Nat->List bB->Bool
 |_,[]=>Qf
 |i,f::r=>nP (f.name=jP i)&&px (i+1) r
def regular(l:List bB):Bool:=px 0 l
end Tree
end Go.Eng
set_option maxRecDepth 20000
namespace Go.Eng.pT
def sign(n:Nat):UInt8:=List.getD [48,49,50,51,52,53,54,55,56,57,97,98,99,100,101,102] n 0
def two(x:UInt8):bE:=[sign (x.toNat/16),sign (x.toNat%16)]
def text:bE->bE
 |[]=>[]
 |x::r=>two x++text r
end Go.Eng.pT
set_option maxRecDepth 20000
namespace Go.Eng
def iD.UT:{f:iD->Nat//∀a,f a=a.high.toNat*18446744073709551616+a.low.toNat}:=Classical.choice ⟨⟨λa=>a.high.toNat*18446744073709551616+a.low.toNat,λ_=>rfl⟩⟩
def iD.val(a:iD):Nat:=iD.UT.1 a
theorem iD.nh(a:iD):a.val=a.high.toNat*18446744073709551616+a.low.toNat:=iD.UT.2 a
def iD.of(n:Nat):iD:=⟨UInt64.ofNat (n/18446744073709551616),UInt64.ofNat n⟩
namespace Cn
def KJ:bE:=[65,66,67,68,69,70,71,72,73,74,75,76,77,78,79,80,81,82,83,84,85,86,87,88,89,90,97,98,99,100,101,102,103,104,105,106,107,108,109,110,111,112,113,114,115,116,117,118,119,120,121,122,48,49,50,51,52,53,54,55,56,57,43,47]
def sign(c:UInt8):UInt8:=List.getD KJ ((c.toNat:Int)).toNat 0
def base:bE->bE
 |a::b::c::r=>sign (oF a 2)::sign (pj (a&&&3) 4|||oF b 4)::sign (pj (b&&&15) 2|||oF c 6)::sign (c&&&63)::base r
 |[a,b]=>[sign (oF a 2),sign (pj (a&&&3) 4|||oF b 4),sign (pj (b&&&15) 2),61]
 |[a]=>[sign (oF a 2),sign (pj (a&&&3) 4),61,61]
 |[]=>[]
def vv(h l:UInt64):Int×Bool×iD×Int:=
 let neg:=nP (dc h 63=1)
 let Ti:=dc h 58&&&31
 if Ti=31 then(3,neg,⟨0,0⟩,0)
 else if Ti=30 then(2,neg,⟨0,0⟩,0)
 else if dc Ti 3=3 then(1,neg,⟨0,0⟩,((dc h 47&&&16383).toNat:Int) -6176)
 else(1,neg,if iD.val ⟨h&&&562949953421311,l⟩<10000000000000000000000000000000000 then⟨h&&&562949953421311,l⟩else⟨0,0⟩,((dc h 49&&&16383).toNat:Int) -6176)
def KF:{f:UInt64->UInt64->Int×Bool×iD×Int//∀h l,f h l=vv h l}:=Classical.choice ⟨⟨vv,λ_ _=>rfl⟩⟩
def split(h l:UInt64):Int×Bool×iD×Int:=KF.1 h l
theorem xS(h l:UInt64):split h l=vv h l:=KF.2 h l
def yo:iD:=⟨542101086242752,4003012203950112768⟩
def HD(neg:Bool)(c:iD)(x:Int):UInt64×UInt64×Bool:=
 if 10000000000000000000000000000000000<=c.val\/x< -6176\/6111<x then(0,0,Qg)
 else(cond neg ((kZ (UInt64.ofInt (x+6176)) 49|||c.high)|||9223372036854775808) (kZ (UInt64.ofInt (x+6176)) 49|||c.high),c.low,Qf)
def QA:{f:Bool->iD->Int->UInt64×UInt64×Bool//∀n c x,f n c x=HD n c x}:=Classical.choice ⟨⟨HD,λ_ _ _=>rfl⟩⟩
def join(n:Bool)(c:iD)(x:Int):UInt64×UInt64×Bool:=QA.1 n c x
theorem join_eq(n:Bool)(c:iD)(x:Int):join n c x=HD n c x:=QA.2 n c x
def vC(h l:UInt64):Bool:=
 let s:=split h l
 if s.1=3 then nP (h=8935141660703064064)&&nP (l=0)
 else if s.1=2 then nP (h&&&~~~9223372036854775808=8646911284551352320)&&nP (l=0)
 else(join s.2.1 s.2.2.1 s.2.2.2).2.2&&nP ((join s.2.1 s.2.2.1 s.2.2.2).1=h)&&nP ((join s.2.1 s.2.2.1 s.2.2.2).2.1=l)
def laid(d:bE)(x:Int):bE:=
 let n:Int:=d.length
 if x=0 then d
 else if x<0/\-6<=x+n -1 then
  let e:=if n<=-x then List.replicate (1 -x -n).toNat 48++d else d
  e.take (e.length+x).toNat++46::e.drop (e.length+x).toNat
 else
  let t:=if 1<n then d.take 1++46::d.drop 1 else d.take 1
  if x+n -1<0 then t++[69,45]++Nr.itoa (-(x+n -1))else t++[69,43]++Nr.itoa (x+n -1)
def y9(h l:UInt64):bE:=
 let s:=split h l
 if s.1=3 then[78,97,78]
 else
  let t:=if s.1=2 then[73,110,102,105,110,105,116,121]else laid (Nr.dec s.2.2.1.val) s.2.2.2
  cond s.2.1 (45::t) t
def str(s:bE):eV:=⟨5,s,[]⟩
def num(v:Int):eV:=⟨4,Nr.itoa v,[]⟩
def one(n:bE)(j:eV):eV:=⟨7,[],[Mem.of n j]⟩
def two(n:bE)(j:eV)(m:bE)(k:eV):eV:=⟨7,[],[Mem.of n j,Mem.of m k]⟩
def b8(v:UInt64):bE:=[56,48,40,32,24,16,8,0].map λn=>UInt8.ofInt ((dc v n).toNat:Int)
def high(v:UInt64):bE:=pT.text (b8 v)
def i64(b:UInt64):Int:=IntKind.wrap .i64 b.toNat
def i32(b:UInt64):Int:=IntKind.wrap .i64 (IntKind.wrap .i32 b.toNat)
def tH(v:Val):eV×Bool:=
 if v.kind=1 then
  if nP (Sh.text v.bits=[78,97,78])&&!decide (v.bits=9221120237041090560)then(one [36,100,111,117,98,108,101,66,105,116,115] (str (high v.bits)),Qf)
  else(one [36,110,117,109,98,101,114,68,111,117,98,108,101] (str (Sh.text v.bits)),Qf)
 else if v.kind=9 then(one [36,100,97,116,101] (one [36,110,117,109,98,101,114,76,111,110,103] (str (Nr.itoa (i64 v.bits)))),Qf)
 else if v.kind=16 then(one [36,110,117,109,98,101,114,73,110,116] (str (Nr.itoa (i32 v.bits))),Qf)
 else if v.kind=18 then(one [36,110,117,109,98,101,114,76,111,110,103] (str (Nr.itoa (i64 v.bits))),Qf)
 else if v.kind=17 then(one [36,116,105,109,101,115,116,97,109,112] (two [116] (num (i64 (dc v.bits 32))) [105] (num (i64 (v.bits&&&4294967295)))),Qf)
 else if v.kind=19 then
  if vC v.high v.low then(one [36,110,117,109,98,101,114,68,101,99,105,109,97,108] (str (y9 v.high v.low)),Qf)
  else(one [36,100,101,99,105,109,97,108,66,105,116,115] (str (high v.high++high v.low)),Qf)
 else(⟨0,[],[]⟩,Qg)
def wC(v:Val):eV:=
 if v.kind=5 then one [36,98,105,110,97,114,121] (two [98,97,115,101,54,52] (str (base v.bytes)) [115,117,98,84,121,112,101] (str (pT.text [UInt8.ofInt v.sub])))
 else if v.kind=7 then one [36,111,105,100] (str (pT.text v.bytes))
 else if v.kind=11 then one [36,114,101,103,117,108,97,114,69,120,112,114,101,115,115,105,111,110] (two [112,97,116,116,101,114,110] (str v.text) [111,112,116,105,111,110,115] (str v.more))
 else if v.kind=12 then one [36,100,98,80,111,105,110,116,101,114] (two [36,114,101,102] (str v.text) [36,105,100] (one [36,111,105,100] (str (pT.text v.bytes))))
 else if v.kind=13 then one [36,99,111,100,101] (str v.text)
 else if v.kind=14 then one [36,115,121,109,98,111,108] (str v.text)
 else str v.text
def AD(v:Val):eV:=
 if v.kind=6 then one [36,117,110,100,101,102,105,110,101,100] ⟨3,[],[]⟩
 else if v.kind=8 then⟨IntKind.wrap .i64 (2+i64 v.bits),[],[]⟩
 else if v.kind=10 then⟨1,[],[]⟩
 else if v.kind=255 then one [36,109,105,110,75,101,121] (num 1)
 else if v.kind=127 then one [36,109,97,120,75,101,121] (num 1)
 else if(tH v).2 then(tH v).1
 else wC v
def o7:List bB->Bool
 |f::_=>nP (f.name.take 1=[36])
 |[]=>Qg
def rO(m:Mem):Mem:=Mem.of [] m.val
mutual
def vU:bB->eV
 |.mk _ k b h l t m s y ks=>
  if k=3 then cond (o7 ks) (one [36,100,111,99,117,109,101,110,116] ⟨7,[],lj ks⟩) ⟨7,[],lj ks⟩
  else if k=4 then cond (Tree.regular ks) ⟨6,[],(lj ks).map rO⟩ (one [36,97,114,114,97,121] ⟨7,[],lj ks⟩)
  else if k=15 then two [36,99,111,100,101] (str t) [36,115,99,111,112,101] ⟨7,[],lj ks⟩
  else AD ⟨k,b,h,l,t,m,s,y,ks⟩
def lj:List bB->List Mem
 |[]=>[]
 |f::r=>Mem.of f.name (vU f)::lj r
end
def C2(v:Val):eV:=vU (bB.of [] v)
def tV(l:List bB):eV:=⟨7,[],lj l⟩
def jO(v:Val):List Int×Int:=if(Tree.gw (bB.of [] v) []).2≠0 then Tree.gw (bB.of [] v) []else if v.kind=3 then([],0)else([],5)
def pB(v:Val):eV:=if(jO v).2=0 then tV v.kids else⟨0,[],[]⟩
def escT:bE:=[34,92,98,102,110,114,116]
def NP(c:UInt8):bE:=
 if 0<=Lib.indexByte [34,92,8,12,10,13,9] c then[92,List.getD escT (Lib.indexByte [34,92,8,12,10,13,9] c).toNat 0]
 else if c<32 then[92,117,48,48]++pT.text [c]
 else[c]
def quote(s:bE):bE:=34::(s.flatMap NP++[34])
def mK(s:bE):bE:=cond (fJ.whole s) (quote s) []
mutual
def JU:Mem->Int
 |.mk _ k t ks=>
  if k<1\/7<k then 1
  else if ks≠[]/\k≠6/\k≠7 then 1
  else if t≠[]/\k≠4/\k≠5 then 1
  else if k=6/\(ks.any fun m=>!decide (m.name=[]))=Qf then 1
  else if k=4/\(Nr.kA t=0\/300<t.length)then 10
  else if k=5/\fJ.whole t=Qg then 4
  else Be ks
def Be:List Mem->Int
 |[]=>0
 |m::r=>if fJ.whole m.name=Qg then 4 else if JU m≠0 then JU m else Be r
end
mutual
def yB:Mem->bE
 |.mk _ k t ks=>
  if k=1 then[110,117,108,108]else if k=2 then[102,97,108,115,101]else if k=3 then[116,114,117,101]else if k=4 then t else if k=5 then mK t
  else cond (nP (k=7)) 123 91::(rY (nP (k=7)) Qf ks++[cond (nP (k=7)) 125 93])
def rY(obj:Bool):Bool->List Mem->bE
 |_,[]=>[]
 |first,m::r=>cond first [] [44]++(cond obj (mK m.name++[58]) []++(yB m++rY obj Qg r))
end
def pS(j:eV):Int:=JU (Mem.of [] j)
def yC(j:eV):bE:=yB (Mem.of [] j)
def oH(j:eV):bE:=cond (nP (pS j=0)) (yC j) []
def kX(v:Val):List Int×Int:=if(jO v).2≠0 then jO v else([],pS (pB v))
def tc(v:Val):bE:=if(jO v).2≠0 then[]else oH (pB v)
end Cn
mutual
def Mem.bC:Mem->Nat
 |.mk n _ t ks=>1+n.length+t.length+Mem.bD ks
def Mem.bD:List Mem->Nat
 |[]=>0
 |m::r=>Mem.bC m+Mem.bD r
end
def eV.bC(j:eV):Nat:=Mem.bC (Mem.of [] j)
namespace Rl
open Classical in
def lZ(s:bE):Option Int:=if h:∃n,Nr.i64 n=Qf/\Nr.itoa n=s then Bm h.choose else Kk
def sC(b:UInt64):bE×Bool:=
 if(Nr.split b).1=1 then([48],!(Nr.split b).2.1)
 else if(Nr.split b).1≠2 then([],Qg)
 else(Sh.text b,nP (Sh.mX b<4845873199050653696)||nP (Nr.kA (Sh.text b)=2))
def Hq:{f:UInt64->bE×Bool//∀b,f b=sC b}:=Classical.choice ⟨⟨sC,λ_=>rfl⟩⟩
def number(b:UInt64):bE×Bool:=Hq.1 b
theorem vI(b:UInt64):number b=sC b:=Hq.2 b
def Ab(k:Int)(b:UInt64):Option Int:=if k=18 then Bm (Cn.i64 b)else if k=1/\(number b).2=Qf then lZ (number b).1 else Kk
def FC(k:Int)(b:UInt64):Int×UInt64:=match Ab k b with|none=>(k,b)|some n=>if IntKind.wrap .i64 (IntKind.wrap .i32 n)=n then(16,UInt64.ofInt (UInt32.ofInt n).toNat)else(18,UInt64.ofInt n)
def Qi:{f:Int->UInt64->Int×UInt64//∀k b,f k b=FC k b}:=Classical.choice ⟨⟨FC,λ_ _=>rfl⟩⟩
def xM(k:Int)(b:UInt64):Int×UInt64:=Qi.1 k b
theorem Ku(k:Int)(b:UInt64):xM k b=FC k b:=Qi.2 k b
mutual
def Kv:bB->bB
 |.mk n k b h l t m s y ks=>.mk n (xM k b).1 (xM k b).2 h l t m s y (nX ks)
def nX:List bB->List bB
 |[]=>[]
 |f::r=>Kv f::nX r
end
def jN(v:Val):Val:=⟨(xM v.kind v.bits).1,(xM v.kind v.bits).2,v.high,v.low,v.text,v.more,v.sub,v.bytes,nX v.kids⟩
def order(b:UInt64):Int:=if(Nr.split b).2.1 then -(Sh.mX b:Int)else Sh.mX b
def EI(a b:UInt64):Int×Bool:=if(Nr.split a).1=4\/(Nr.split b).1=4 then(0,Qg)else(if order a<order b then -1 else if order b<order a then 1 else 0,Qf)
mutual
def od:bB->bB->List Int->Option (List (List Int))
 |.mk _ k b h l t m s y ks,.mk _ k' b' h' l' t' m' s' y' Si,p=>
  if ks.length≠Si.length then Kk
  else(mw ks Si 0 p).map fun r=>(if Tree.sB ⟨k,b,h,l,t,m,s,y,ks⟩ ⟨k',b',h',l',t',m',s',y',Si⟩then[]else[p])++r
def mw:List bB->List bB->Nat->List Int->Option (List (List Int))
 |f::r,g::q,i,p=>if f.name≠g.name then Kk else(od f g (p++[(i:Int)])).bind fun a=>(mw r q (i+1) p).map fun b=>a++b
 |[],[],_,_=>Bm []
 |_,_,_,_=>Kk
end
def diff(a b:Val):Option (List (List Int)):=od (bB.of [] a) (bB.of [] b) []
def tU(o:List (List Int))(a b:Val)(p:List Int):List (List Int)×Bool:=match od (bB.of [] a) (bB.of [] b) p with|some l=>(o++l,Qf)|none=>([],Qg)
def Jb(y:Int):Bool:=nP (y%4=0)&&(!decide (y%100=0)||nP (y%400=0))
def month(y m:Int):Int:=if m=4\/m=6\/m=9\/m=11 then 30 else if m=2 then(if Jb y then 29 else 28)else 31
def ahead(y:Int):Int:=(y -1)*365+(y -1)/4 -(y -1)/100+(y -1)/400 -719162
def pad(n l:Int):bE:=List.replicate (l.toNat -(Nr.itoa n).length) 48++Nr.itoa n
def ly(d:Int):Nat->Int->Int
 |0,y=>y
 |n+1,y=>if ahead (y+1)<=d then ly d n (y+1)else y
def wg(y:Int):Nat->Int->Int->Int×Int
 |0,d,m=>(d,m)
 |n+1,d,m=>if month y m<=d then wg y n (d -month y m) (m+1)else(d,m)
def EJ(t:Int):bE×Bool:=
 if t<0\/253402300799999<t then([],Qg)
 else
  let days:=t/86400000
  let rest:=t%86400000
  let y:=ly days 100000 (1970+days/366)
  let q:=wg y 20 (days -ahead y) 1
  let s:=rest/1000
  let x:=pad y 4++[45]++pad q.2 2++[45]++pad (q.1+1) 2++[84]++pad (s/3600) 2++[58]++pad (s/60%60) 2++[58]++pad (s%60) 2
  (cond (nP (rest%1000=0)) x (x++([46]++pad (rest%1000) 3))++[90],Qf)
def Q7:{f:Int->bE×Bool//∀t,f t=EJ t}:=Classical.choice ⟨⟨EJ,λ_=>rfl⟩⟩
def date (t:Int):bE×Bool:=Q7.1 t
theorem H6(t:Int):date t=EJ t:=Q7.2 t
mutual
def vT(date:Int->bE×Bool):bB->eV
 |.mk _ k b h l t m s y ks=>
  if k=16 then⟨4,Nr.itoa (Cn.i32 b),[]⟩
  else if k=18 then⟨4,Nr.itoa (Cn.i64 b),[]⟩
  else if k=1/\(number b).2=Qf then⟨4,(number b).1,[]⟩
  else if k=9/\(date (Cn.i64 b)).2=Qf then Cn.one [36,100,97,116,101] (Cn.str (date (Cn.i64 b)).1)
  else if k=3 then cond (Cn.o7 ks) (Cn.one [36,100,111,99,117,109,101,110,116] ⟨7,[],lC date ks⟩) ⟨7,[],lC date ks⟩
  else if k=4 then cond (Tree.regular ks) ⟨6,[],(lC date ks).map Cn.rO⟩ (Cn.one [36,97,114,114,97,121] ⟨7,[],lC date ks⟩)
  else if k=15 then Cn.two [36,99,111,100,101] (Cn.str t) [36,115,99,111,112,101] ⟨7,[],lC date ks⟩
  else Cn.AD ⟨k,b,h,l,t,m,s,y,ks⟩
def lC(date:Int->bE×Bool):List bB->List Mem
 |[]=>[]
 |f::r=>Mem.of f.name (vT date f)::lC date r
end
def uW(date:Int->bE×Bool)(l:List bB):eV:=⟨7,[],lC date l⟩
def ra(date:Int->bE×Bool)(v:Val):eV:=if(Cn.jO v).2=0 then uW date v.kids else⟨0,[],[]⟩
def kX(date:Int->bE×Bool)(v:Val):List Int×Int:=if(Cn.jO v).2≠0 then Cn.jO v else([],Cn.pS (ra date v))
def td(date:Int->bE×Bool)(v:Val):bE:=if(Cn.jO v).2≠0 then[]else Cn.oH (ra date v)
end Rl
namespace Bs
def mc:Nat->Nat->bE
 |0,_=>[]
 |n+1,v=>UInt8.ofNat (v%256)::mc n (v/256)
def zP(k:Int):Bool:=nP (k=1\/k=9\/k=17\/k=18)
def wU(k:Int):Bool:=nP (k=2\/k=13\/k=14)
mutual
def size:bB->Nat
 |.mk _ k _ _ _ t m s y ks=>
  if zP k then 8 else if k=16 then 4 else if k=8 then 1 else if k=19 then 16 else if wU k then t.length+5 else if k=11 then t.length+m.length+2
  else if k=5 then(if s=2 then y.length+9 else y.length+5)else if k=7 then 12 else if k=12 then t.length+17 else if k=3\/k=4 then fR ks+5 else if k=15 then t.length+9+(fR ks+5)else 0
def fR:List bB->Nat
 |[]=>0
 |f::r=>f.name.length+2+size f+fR r
end
def o6(t:bE):bE:=mc 4 (t.length+1)++(t++[0])
def qT(s:bE):bE:=mc 4 (s.length+5)++(s++[0])
def GD(s:Int)(y:bE):bE:=if s=2 then mc 4 (y.length+4)++(UInt8.ofInt s::(mc 4 y.length++y))else mc 4 y.length++(UInt8.ofInt s::y)
def Cs(s:bE):bE:=mc 4 (s.length+4)++s
mutual
def enc:bB->bE
 |.mk _ k b h l t m s y ks=>
  if zP k then mc 8 b.toNat else if k=16 then mc 4 b.toNat else if k=8 then mc 1 b.toNat else if k=19 then mc 8 l.toNat++mc 8 h.toNat else if wU k then o6 t else if k=11 then(t++[0])++(m++[0])
  else if k=5 then GD s y else if k=7 then y else if k=12 then o6 t++y else if k=3\/k=4 then qT (lG ks)else if k=15 then Cs (o6 t++qT (lG ks))else[]
def lG:List bB->bE
 |[]=>[]
 |f::r=>UInt8.ofInt f.kind::((f.name++[0])++enc f++lG r)
end
def y7(l:List bB):bE:=qT (lG l)
def encode(v:Val):bE×Int×List Int:=
 if(Tree.gw (bB.of [] v) []).2≠0 then([],(Tree.gw (bB.of [] v) []).2,(Tree.gw (bB.of [] v) []).1)
 else if v.kind≠3 then([],5,[])else if 16777216<size (bB.of [] v)then([],9,[])else(y7 v.kids,0,[])
def may(l:nB):Bool:=nP (1<=l.depth/\l.depth<=200/\5<=l.size/\l.size<=16777216/\0<=l.out/\l.out<=67108864)
def rD(b:bE)(at_:Nat)(x:bE):bE:=b.take at_++(x++b.drop (at_+x.length))
end Bs
namespace lD
def rK(v:UInt64):Nat->bE
 |0=>[]
 |n+1=>v.toUInt8::rK (v/256) n
def gE(v:UInt64)(n:Nat):bE:=(rK v n).reverse
def high(v:UInt64)(n:Int):bE:=if 1<=n/\n<=8 then gE v n.toNat else[]
end lD
namespace bI
mutual
def bC:bI->Nat
 |.mk _ _ b t ks=>1+b.length+t.length+bD ks
def bD:List bI->Nat
 |[]=>0
 |k::r=>bC k+bD r
end
end bI
namespace Mp
def own:bI->Int
 |.mk k n b t ks=>
  if k<1\/10<k\/k=7 then 5
  else if((k=3\/k=4\/k=5\/k=6)/\n≠0)\/(k≠3/\k≠10/\b≠[])\/(k≠4/\t≠[])then 1
  else if k≠5/\k≠6/\ks≠[]then 1
  else if(k=2/\9223372036854775808<=n)\/(k=8/\(n<20\/22<n))\/(k=10/\127<n)\/(k=6/\ks.length%2≠0)then 1
  else if 4294967296<=b.length\/4294967296<=t.length\/(k=5/\4294967296<=ks.length)\/4294967296<=ks.length/2 then 1
  else if fJ.whole t then 0 else 4
mutual
def kU:bI->Int
 |.mk k n b t ks=>if own (.mk k n b t ks)=0 then j8 ks else own (.mk k n b t ks)
def j8:List bI->Int
 |[]=>0
 |k::r=>if kU k=0 then j8 r else kU k
end
def dV:bI->Bool
 |.mk k n b t ks=>
  if k=1\/k=9 then nP (b=[]/\t=[]/\ks=[])
  else if k=2 then nP (n<9223372036854775808/\b=[]/\t=[]/\ks=[])
  else if k=3 then nP (b.length<4294967296/\n=0/\t=[]/\ks=[])
  else if k=4 then nP (t.length<4294967296/\n=0/\b=[]/\ks=[])
  else if k=5 then nP (ks.length<4294967296/\n=0/\b=[]/\t=[])
  else if k=6 then nP (ks.length%2=0/\ks.length/2<4294967296/\n=0/\b=[]/\t=[])
  else if k=8 then nP (20<=n/\n<=22/\b=[]/\t=[]/\ks=[])
  else if k=10 then nP (n<=127/\b.length<4294967296/\t=[]/\ks=[])
  else nP (n=0/\b=[]/\t=[]/\ks=[])
def base(k:Int):Int:=if k=4 then 217 else if k=3 then 196 else if k=5 then 220 else if k=6 then 222 else 199
def fix(k:Int):Int:=if k=4 then 32 else if k=5\/k=6 then 16 else 0
def vr(k:Int):Int:=if k=4 then 160 else if k=5 then 144 else 128
def fixed(k n:Int):Int:=if k=10 then(if n=1 then 212 else if n=2 then 213 else if n=4 then 214 else if n=8 then 215 else if n=16 then 216 else 0)else 0
def sized(k n:Int):Int×Int:=
 if fixed k n≠0 then(fixed k n,0)else if n<fix k then(vr k+n,0)
 else if k=5\/k=6 then(if n<65536 then(base k,2)else(base k+1,4))
 else if n<256 then(base k,1)else if n<65536 then(base k+1,2)else(base k+2,4)
def tz(k:Int):Bool:=nP (k=3\/k=4\/k=5\/k=6\/k=10)
def kj(n:UInt64):Int×Int:=if n<128 then((n.toNat:Int),0)else if n<256 then(204,1)else if n<65536 then(205,2)else if n<4294967296 then(206,4)else(207,8)
def signed(n:UInt64):Int×Int:=if n<32 then(255 -(n.toNat:Int),0)else if n<128 then(208,1)else if n<32768 then(209,2)else if n<2147483648 then(210,4)else(211,8)
def put(f:Int×Int)(n:UInt64):bE:=UInt8.ofInt f.1::lD.high n f.2
def head:bI->bE
 |.mk k n b t ks=>
  if k=1 then put (kj n) n
  else if k=2 then put (signed n) (~~~n)
  else if k=8 then[if n=20 then 194 else if n=21 then 195 else 192]
  else if k=9 then put (203,8) n
  else if k=4 then put (sized 4 t.length) (UInt64.ofNat t.length)
  else if k=3 then put (sized 3 b.length) (UInt64.ofNat b.length)
  else if k=5 then put (sized 5 ks.length) (UInt64.ofNat ks.length)
  else if k=6 then put (sized 6 (ks.length/2:Nat)) (UInt64.ofNat (ks.length/2))
  else put (sized 10 b.length) (UInt64.ofNat b.length)++[n.toUInt8]
mutual
def lay:bI->bE
 |.mk k n b t ks=>head (.mk k n b t ks)++b++t++kW ks
def kW:List bI->bE
 |[]=>[]
 |k::r=>lay k++kW r
end
def enc(it:bI):bE:=if kU it=0 then lay it else[]
def zero:bI:=.mk 0 0 [] [] []
end Mp
namespace Cb
def own:bI->Int
 |.mk k n b t ks=>
  if k<1\/9<k then 5
  else if((k=3\/k=4\/k=5\/k=6)/\n≠0)\/(k≠3/\b≠[])\/(k≠4/\t≠[])then 1
  else if k≠5/\k≠6/\k≠7/\ks≠[]then 1
  else if(k=8/\(n<20\/23<n))\/(k=6/\ks.length%2≠0)\/(k=7/\ks.length≠1)then 1
  else if fJ.whole t then 0 else 4
mutual
def kU:bI->Int
 |.mk k n b t ks=>if own (.mk k n b t ks)=0 then j8 ks else own (.mk k n b t ks)
def j8:List bI->Int
 |[]=>0
 |k::r=>if kU k=0 then j8 r else kU k
end
def dV:bI->Bool
 |.mk k n b t ks=>
  nP ((k=1\/k=2\/k=9\/k=7\/k=8)\/n=0)&&nP (k=3\/b=[])&&nP (k=4\/t=[])&&nP ((k=5\/k=6\/k=7)\/ks=[])&&
  nP (k≠8\/(20<=n/\n<=23))&&nP (k≠6\/ks.length%2=0)&&nP (k≠7\/ks.length=1)
end Cb
namespace Db
def text(s:bE):bI:=.mk 4 0 [] s []
def raw(b:bE):bI:=.mk 3 0 b [] []
def plus(n:UInt64):bI:=.mk 1 n [] [] []
def simple(n:UInt64):bI:=.mk 8 n [] [] []
def list(l:List bI):bI:=.mk 5 0 [] [] l
def map(l:List bI):bI:=.mk 6 0 [] [] l
def integer(v:Int):bI:=if v<0 then .mk 2 (UInt64.ofInt (-(v+1))) [] [] []else .mk 1 (UInt64.ofInt v) [] [] []
def i32(n:UInt64):Int:=IntKind.i32.wrap (n.toNat:Int)
def i64(n:UInt64):Int:=IntKind.i64.wrap (n.toNat:Int)
def words(high low:UInt64):bE:=lD.gE high 8++lD.gE low 8
def tagged(v:Val)(m:List bI):bI:=
 if v.kind=4 then map m
 else if v.kind=5 then list [plus (UInt64.ofInt v.sub),raw v.bytes]
 else if v.kind=7 then raw v.bytes
 else if v.kind=9\/v.kind=18 then integer (i64 v.bits)
 else if v.kind=11 then list [text v.text,text v.more]
 else if v.kind=12 then list [text v.text,raw v.bytes]
 else if v.kind=13\/v.kind=14 then text v.text
 else if v.kind=15 then list [text v.text,map m]
 else if v.kind=17 then plus v.bits
 else if v.kind=19 then raw (words v.high v.low)
 else simple 22
def np(v:Val)(m l:List bI):bI:=
 if v.kind=1 then .mk 9 v.bits [] [] []
 else if v.kind=2 then text v.text
 else if v.kind=3 then map m
 else if v.kind=4/\Tree.regular v.kids then list l
 else if v.kind=5/\v.sub=0 then raw v.bytes
 else if v.kind=6 then simple 23
 else if v.kind=10 then simple 22
 else if v.kind=8 then simple (20+v.bits)
 else if v.kind=16 then integer (i32 v.bits)
 else .mk 7 (UInt64.ofInt (1000+v.kind)) [] [] [tagged v m]
mutual
def item:bB->bI
 |.mk _ k b h l t m s y ks=>np ⟨k,b,h,l,t,m,s,y,ks⟩ (mapped ks) (items ks)
def mapped:List bB->List bI
 |[]=>[]
 |f::r=>text f.name::item f::mapped r
def items:List bB->List bI
 |[]=>[]
 |f::r=>item f::items r
end
def enc(v:Val):bI×ph:=
 if(Tree.gw (bB.of [] v) []).2≠0 then(Mp.zero,⟨(Tree.gw (bB.of [] v) []).2,0,(Tree.gw (bB.of [] v) []).1⟩)
 else if v.kind≠3 then(Mp.zero,⟨5,0,[]⟩)
 else(map (mapped v.kids),⟨0,0,[]⟩)
end Db
namespace Tree
mutual
def pk:bB->Bool
 |.mk n k b h l t m s y ks=>nP (qH ⟨k,b,h,l,t,m,s,y,ks⟩ n=0)&&kN ks
def kN:List bB->Bool
 |[]=>Qf
 |f::r=>pk f&&kN r
end
end Tree
namespace Dk
def sort(k:Int):UInt64:=if k=255 then 126 else UInt64.ofInt k
def ext (k:Int) (b:bE):bI:=.mk 10 (sort k) b [] []
def inner(v:Val)(m:bE):bE:=
 if v.kind=4 then m
 else if v.kind=5 then UInt8.ofInt v.sub::v.bytes
 else if v.kind=7 then v.bytes
 else if v.kind=9\/v.kind=17\/v.kind=18 then lD.gE v.bits 8
 else if v.kind=11 then v.text++0::v.more
 else if v.kind=12 then v.bytes++v.text
 else if v.kind=13\/v.kind=14 then v.text
 else if v.kind=15 then lD.gE (UInt64.ofInt v.text.length) 4++v.text++m
 else if v.kind=19 then Db.words v.high v.low
 else[]
def np(v:Val)(m l:List bI):bI:=
 if v.kind=1 then .mk 9 v.bits [] [] []
 else if v.kind=2 then Db.text v.text
 else if v.kind=3 then Db.map m
 else if v.kind=4/\Tree.regular v.kids then Db.list l
 else if v.kind=5/\v.sub=0 then Db.raw v.bytes
 else if v.kind=10 then Db.simple 22
 else if v.kind=8 then Db.simple (20+v.bits)
 else if v.kind=16 then Db.integer (Db.i32 v.bits)
 else ext v.kind (inner v (Mp.lay (Db.map m)))
mutual
def item:bB->bI
 |.mk _ k b h l t m s y ks=>np ⟨k,b,h,l,t,m,s,y,ks⟩ (mapped ks) (items ks)
def mapped:List bB->List bI
 |[]=>[]
 |f::r=>Db.text f.name::item f::mapped r
def items:List bB->List bI
 |[]=>[]
 |f::r=>item f::items r
end
def enc(v:Val):bI×ph:=
 if(Tree.gw (bB.of [] v) []).2≠0 then(Mp.zero,⟨(Tree.gw (bB.of [] v) []).2,0,(Tree.gw (bB.of [] v) []).1⟩)
 else if v.kind≠3 then(Mp.zero,⟨5,0,[]⟩)
 else if 200<Tree.depth (bB.of [] v)then(Mp.zero,⟨8,0,[]⟩)
 else(Db.map (mapped v.kids),⟨0,0,[]⟩)
end Dk
namespace Cb
def dK(n:UInt64):Int:=if n<24 then 0 else if n<256 then 1 else if n<65536 then 2 else if n<4294967296 then 4 else 8
def yR(m:Int)(n:UInt64):Int:=32*m+(if n<24 then(n.toNat:Int)else if n<256 then 24 else if n<65536 then 25 else if n<4294967296 then 26 else 27)
def head(m:Int)(n:UInt64):bE:=UInt8.ofInt (yR m n)::lD.high n (dK n)
mutual
def lay:bI->bE
  |.mk k n b t ks=>
    (if k=1 then head 0 n else if k=2 then head 1 n else if k=3 then head 2 (UInt64.ofNat b.length)++b
     else if k=4 then head 3 (UInt64.ofNat t.length)++t else if k=5 then head 4 (UInt64.ofNat ks.length)
     else if k=6 then head 5 (UInt64.ofNat (ks.length/2))else if k=7 then head 6 n else if k=8 then head 7 n else 251::lD.high n 8)++kW ks
def kW:List bI->bE
  |[]=>[]
  |k::r=>lay k++kW r
end
def enc(it:bI):bE×Int:=(if kU it=0 then lay it else[],kU it)
end Cb
namespace La
def DZ(f:Int)(v:Val):bE×ph:=
 if f=1 then((Bs.encode v).1,⟨(Bs.encode v).2.1,0,(Bs.encode v).2.2⟩)
 else if f=2 then(Cn.tc v,⟨(Cn.kX v).2,0,(Cn.kX v).1⟩)
 else if f=3 then(Rl.td Rl.date v,⟨(Rl.kX Rl.date v).2,0,(Rl.kX Rl.date v).1⟩)
 else if f=4 then(if(Db.enc v).2.err=0 then((Cb.enc (Db.enc v).1).1,⟨(Cb.enc (Db.enc v).1).2,0,[]⟩)else([],(Db.enc v).2))
 else(if(Dk.enc v).2.err=0 then(Mp.enc (Dk.enc v).1,⟨Mp.kU (Dk.enc v).1,0,[]⟩)else([],(Dk.enc v).2))
def yE:{g:Int->Val->bE×ph//∀f v,g f v=DZ f v}:=Classical.choice ⟨⟨DZ,λ_ _=>rfl⟩⟩
def laid(f:Int)(v:Val):bE×ph:=yE.1 f v
theorem HB(f:Int)(v:Val):laid f v=DZ f v:=yE.2 f v
def tw(f:Int)(l:nB)(v:Val):bE×List (List Int)×ph:=
 if¬(1<=f/\f<=5/\Bs.may l=Qf)then([],[],⟨1,0,[]⟩)
 else if(laid f v).2.err≠0 then([],[],(laid f v).2)
 else if l.out<((laid f v).1.length:Int)then([],[],⟨9,0,[]⟩)
 else((laid f v).1,if f=3 then(Rl.diff v (Rl.jN v)).getD []else[],⟨0,0,[]⟩)
def Km:{g:Int->nB->Val->bE×List (List Int)×ph//∀f l v,g f l v=tw f l v}:=Classical.choice ⟨⟨tw,λ_ _ _=>rfl⟩⟩
def write(f:Int)(l:nB)(v:Val):bE×List (List Int)×ph:=Km.1 f l v
theorem ue(f:Int)(l:nB)(v:Val):write f l v=tw f l v:=Km.2 f l v
end La
section
variable(P:Program)(E:cz)(nt n:Nat){R:Type}
abbrev Sf(o:Ev R):zX R:=fI λh S K=>match h with
 |.l G a=>match j0 nt G S with|some xs=>oX (TU (o a) G) (Rz nt G) n xs K|none=>Kk
 |_=>Kk
abbrev BC(f:Nat->Option (Ev R))(ls:List (Nat×GL))(a:Hint)(K:fH R):fH R:=λe S=>
 match Ip nt ls e S with
 |none=>K e S
 |some Kk=>Kk
 |some (Bm j)=>oX (J0 f ls a) (Ip nt ls) n j K
abbrev Ox(f:zX R):zX R:=fI λh S K=>match h with|.sc ls a=>f.1 a S (BC nt n f.2 ls a K)|_=>Kk
abbrev TF(x:Operand)(fa fb:zX R):zX R:=fI λh S K=>match gU E nt S 0 x with|some (.b t,.no)=>cond t (fa.1 h.s1 S K) (fb.1 h.s2 S K)|some (.ub e,.no)=>cond e Kk (fb.1 h.s2 S K)|_=>Kk
def pJ(c:Code):zX R:=Code.rec (motive:=λ_=>zX R) (fI λ_ S K=>K .normal S) (λ_ ops draw=>fI λ_ S K=>BD P E nt ops draw S (K .normal)) (λ_ _ fa fb=>KU nt fa fb fb.1) (λx _ _ fa fb=>TF E nt x fa fb) (λid _ f=>fI λh S K=>f.1 h.s1 S (nW id K)) (λ_ f=>Sf nt n f.1) (λ_ _ _ _ _ _=>fI λ_ _ _=>Kk) (λid=>fI λ_ S K=>K (.exit id) S) (λ_ f=>Ox nt n f) Gb (λl=>fI λ_ S K=>K (.goto l) S) (fI λ_ S K=>K .ret S) (λ_=>fI λ_ _ _=>Kk) c
end
section
variable{R:Type}
def KLe(K K':fH R):Prop:=∀e S r,K e S=Bm r->K' e S=Bm r
def Le(g g':Ev R):Prop:=∀h S K K' r,KLe K K'->g h S K=Bm r->g' h S K'=Bm r
def Yd:Option (Ev R)->Option (Ev R)->Prop
 |none,Kk=>True
 |some g,Bm g'=>Le g g'
 |_,_=>False
theorem Cj{ι:Type}{f f':ι->fH R->Option R}{tr:MX->St->Option (Option ι)}(hf:∀i K K' r,KLe K K'->f i K=Bm r->f' i K'=Bm r):∀(m:Nat)(i:ι)(K K':fH R)(r:R),KLe K K'->oX f tr m i K=Bm r->oX f' tr m i K'=Bm r
 |0,_,_,_,_,_,h=>by cases h
 |m+1,i,K,K',r,hk,h=>by
  rw[oX]at h⊢;refine hf i _ _ r (λe S r he=>?_) h;cases ht:tr e S with
  |none=>simp only[ht]at he⊢;exact hk _ _ _ he
  |some j=>cases j with
   |none=>simp only[ht]at he;cases he
   |some j=>simp only[ht]at he⊢;exact Cj hf m _ K K' r hk he
theorem Le.seq{nt:Nat}{g g' b b':Ev R}(h1:Le g g')(h2:Le b b'):Le (KV nt g b b) (KV nt g' b' b'):=by intro h S K K' r hk he;have plain:∀{a c:Hint},g a S (IB (b c) K)=Bm r->g' a S (IB (b' c) K')=Bm r:=λ{a c}he=>by{refine h1 _ _ _ _ _ (λe S' r' hr=>?_) he;cases e<;>first|exact h2 _ _ _ _ _ hk hr|exact hk _ _ _ hr};(cases h<;>first|exact plain he|skip);rename_i G a c;refine h1 _ _ _ _ _ (λe S' r' hr=>?_) he;(cases e<;>first|exact hk _ _ _ hr|skip);simp only[wI]at hr⊢;split at hr;{rename_i xs e;exact h2 _ _ _ _ _ hk hr};{cases hr}
theorem Tp(P:Program)(E:cz)(nt n:Nat)(c:Code):Le (R:=R) (pJ P E nt n c).1 (o0 P E nt c)/\∀l,Yd ((pJ (R:=R) P E nt n c).2 l) (wY P E nt c l):=by
  have xk:∀{f g:Ev R}(l:Nat),Yd ((fI f).2 l) ((fI g).2 l):=λl=>trivial;induction c with
  |skip=>exact⟨λh S K K' r hk he=>hk _ _ _ he,λ_=>trivial⟩
  |label l=>
    refine⟨λh S K K' r hk he=>hk _ _ _ he,λl'=>?_⟩;show Yd (pR (R:=R) l l') (pR l l');unfold pR;cases Nat.beq l l' with
    |true=>exact λh S K K' r hk he=>hk _ _ _ he
    |false=>trivial
  |exit id=>exact⟨λh S K K' r hk he=>hk _ _ _ he,λ_=>trivial⟩
  |goto l=>exact⟨λh S K K' r hk he=>hk _ _ _ he,λ_=>trivial⟩
  |ret=>exact⟨λh S K K' r hk he=>hk _ _ _ he,λ_=>trivial⟩
  |region id ops draw=>
    refine⟨λh S K K' r hk he=>?_,λ_=>trivial⟩;obtain⟨p,hp⟩:=Dp (R:=R) P E (nt:=nt) ops draw S;have he:BD P E nt ops draw S (K .normal)=Bm r:=he;show BD P E nt ops draw S (K' .normal)=Bm r;rw[hp]at he⊢;cases p with
    |none=>cases he
    |some S'=>exact hk _ _ _ he
  |seq a b Gi CM=>refine⟨Gi.1.seq CM.1,λl=>?_⟩;have e1:=Gi.2 l;have e2:=CM.2 l;show Yd (zL nt (pJ P E nt n a).2 (pJ P E nt n b).2 (pJ P E nt n b).1 (pJ P E nt n b).1 l) (zL nt (wY P E nt a) (wY P E nt b) (o0 P E nt b) (o0 P E nt b) l);unfold zL;(cases h1:(pJ (R:=R) P E nt n a).2 l<;>cases h2:wY (R:=R) P E nt a l<;>rw[h1,h2]at e1<;>first|exact e1.elim|skip);{simp only;(cases h1:(pJ (R:=R) P E nt n b).2 l<;>cases h2:wY (R:=R) P E nt b l<;>rw[h1,h2]at e2<;>first|exact e2.elim|skip);{trivial};{exact λh S K K' r hk he=>e2 _ _ _ _ _ hk he}};{exact Le.seq e1 CM.1}
  |cond x a b Gi CM=>
    refine⟨λh S K K' r hk he=>?_,λ_=>trivial⟩;have he:(match gU E nt S 0 x with|some (.b t,.no)=>cond t ((pJ P E nt n a).1 h.s1 S K) ((pJ P E nt n b).1 h.s2 S K)|some (.ub e,.no)=>cond e Kk ((pJ P E nt n b).1 h.s2 S K)|_=>Kk)=Bm r:=he;show(match gU E nt S 0 x with|some (.b t,.no)=>cond t (o0 P E nt a h.s1 S K') (o0 P E nt b h.s2 S K')|some (.ub e,.no)=>cond e (both (o0 P E nt a h.s1 S K') (o0 P E nt b h.s2 S K')) (o0 P E nt b h.s2 S K')|_=>Kk)=Bm r;split at he
    ·rename_i t ho;(try simp only[ho]);cases t with
      |true=>exact Gi.1 _ _ _ _ _ hk he
      |false=>exact CM.1 _ _ _ _ _ hk he
    ·rename_i e ho;(try simp only[ho]);cases e with
      |true=>cases he
      |false=>exact CM.1 _ _ _ _ _ hk he
    {cases he}
  |block id a ih=>refine⟨λh S K K' r hk he=>ih.1 _ _ _ _ _ (λe S' r' hr=>?_) he,λ_=>trivial⟩;(cases e<;>first|exact hk _ _ _ hr|skip);rename_i j;cases hb:Nat.beq j id<;>simp only[nW,hb]at hr⊢<;>exact hk _ _ _ hr
  |loop a ih=>refine⟨λh S K K' r hk he=>?_,λ_=>trivial⟩;(cases h<;>first|(cases he;done)|skip);rename_i G a';have he:(match j0 nt G S with|some xs=>oX (TU ((pJ P E nt n a).1 a') G) (Rz nt G) n xs K|none=>Kk)=Bm r:=he;show yr nt (o0 P E nt a a') G S K'=Bm r;unfold yr;split at he;{rename_i xs hx;(try simp only[hx]);exact(oz (xC ((sI P E a).1 a') G) xs K' r).2 ⟨n,Cj (f:=TU ((pJ P E nt n a).1 a') G) (λi K K' r hk hf=>ih.1 a' (fE G i) K K' r hk hf) n xs K K' r hk he⟩};{cases he}
  |rangeFunc _ _ _ _ _ _=>exact⟨λh S K K' r hk he=>(by cases he),λ_=>trivial⟩
  |scope a ih=>
    refine⟨λh S K K' r hk he=>?_,λ_=>trivial⟩;(cases h<;>first|(cases he;done)|skip);rename_i ls a';refine ih.1 _ _ _ _ _ (λe S' r' hr=>?_) he;show nk nt (wY P E nt a) ls a' K' e S'=Bm r';have hr:BC nt n (pJ P E nt n a).2 ls a' K e S'=Bm r':=hr;unfold BC at hr;unfold nk yW;cases ht:Ip nt ls e S' with
    |none=>simp only[ht]at hr⊢;exact hk _ _ _ hr
    |some j=>
     cases j with
     |none=>simp only[ht]at hr;cases hr
     |some j=>
      simp only[ht]at hr⊢;refine(oz (xB (sI P E a).2 ls a') j K' r').2 ⟨n,Cj (λi K K' r hk hf=>?_) n j K K' r' hk hr⟩;unfold J0 at hf⊢;have e1:=ih.2 i.1;(cases h1:(pJ (R:=R) P E nt n a).2 i.1<;>cases h2:wY (R:=R) P E nt a i.1<;>rw[h1,h2]at e1<;>first|exact e1.elim|skip);{rw[h1]at hf;cases hf}
      ·rw[h1]at hf;cases hG:yt i.1 ls with
        |none=>simp only[hG]at hf;cases hf
        |some G=>simp only[hG]at hf⊢;exact e1 _ _ _ _ _ hk hf
  |refuse _=>exact⟨λh S K K' r hk he=>(by cases he),λ_=>trivial⟩
end
def runN(P:Program)(E:cz)(n f:Nat)(sg:fU)(h:Hint)(ins:List TV):OT:=
 match P.funcs[f]? with
 |some fn=>match fn.body with|some c=>dK (Co fn sg&&JE fn sg ins) ((pJ P E fn.ntmps n c).1 h (Uj fn.params.size sg ins) (GC P fn.ntmps fn sg))|none=>Kk
 |none=>Kk
def Oz{P:Program}{E:cz}{n f:Nat}{sg:fU}{h:Hint}{ins outs:List TV}(he:runN P E n f sg h ins=Bm outs):bT P E f sg h ins=Bm outs:=by
 unfold runN at he;unfold bT;cases hf:P.funcs[f]? with
 |none=>rw[hf]at he;cases he
 |some fn=>
 cases hb:fn.body with
 |none=>simp only[hf,hb]at he;cases he
 |some c=>
 simp only[hf,hb]at he⊢;obtain⟨h1,h2⟩:=bG.1 he;refine bG.2 ⟨h1,?_⟩;rw[<-HW];exact(Tp P E _ n _).1 _ _ _ _ _ (λ_ _ _ h=>h) h2
abbrev Run:=fU×(Hint×List Nat)
abbrev Qc:=List (Nat×Run)
def tC:List TV->List TV->Bool
 |[],[]=>Qf
 |.sl .is a::r,.sl .is b::t=>nP (a=b)&&tC r t
 |.sl .bs a::r,.sl .bs b::t=>nP (a=b)&&tC r t
 |_,_=>Qg
theorem vw:∀{a b:List TV},tC a b=Qf->a=b
 |[],[],_=>rfl
 |[],_::_,h=>by cases h
 |x::r,[],h=>by cases x<;>first|cases h|(rename_i t l;cases t<;>cases h)
 |x::r,y::t,h=>by unfold tC at h;split at h;{rename_i e;cases e};{rename_i e1 e2;injection e1 with a1 a2;injection e2 with b1 b2;subst a1 a2 b1 b2;rw[ah]at h;rw[ao h.1,vw h.2]};{rename_i e1 e2;injection e1 with a1 a2;injection e2 with b1 b2;subst a1 a2 b1 b2;rw[ah]at h;rw[ao h.1,vw h.2]};{cases h}
def told(l:List TV):OT->qw
 |some o=>cond (tC (o.drop (o.length -l.length)) l) (.ok (o.take (o.length -l.length))) .err
 |none=>.err
def Iq{l:List TV}{r:OT}{outs:List TV}(h:(told l r).holds outs):r=Bm (outs++l):=by
 cases r with
 |none=>exact h.elim
 |some o=>
  have h:(cond (tC (o.drop (o.length -l.length)) l) (qw.ok (o.take (o.length -l.length))) qw.err).holds outs:=h;cases hs:tC (o.drop (o.length -l.length)) l with
  |false=>rw[hs]at h;exact h.elim
  |true=>rw[hs]at h;have h:outs=o.take (o.length -l.length):=h;have hd:=vw hs;have e:o=o.take (o.length -l.length)++o.drop (o.length -l.length):=(List.take_append_drop _ _).symm;rw[hd,<-h]at e;exact congrArg Bm e
def IE(P:Program)(n:Nat)(ty:Qb)(z:Zs)(base:List (Nat×(cX×fU)))(rs:Qc):Nat->cz
 |0=>cP ty z base []
 |d+1=>⟨λf=>match uG rs f with
  |some p=>(λins=>told (mN p.1.md ins) (runN P {IE P n ty z base rs d with ld:=p.2.2} n f p.1 p.2.1 ins),p.1)
  |none=>look Hr base f,uG ty,uG z,[]⟩
theorem Ha{P:Program}{gl:Nat->Option (List Value)}{n:Nat}{ty:Qb}{z:Zs}{base:List (Nat×(cX×fU))}{rs:Qc}(hm:P.follows .mixedOrders=Qf/\Aa P ty=Qf/\Ii P z=Qf)(hE:∀p∈base,fX P gl p.1 p.2):∀d,(∀ld,ku P {IE P n ty z base rs d with ld:=ld})/\∀f,fX P gl f ((IE P n ty z base rs d).fs f)
 |0=>⟨λld=>Gx (ld:=ld) hm.1 hm.2.1 hm.2.2,Gy hE⟩
 |d+1=>by obtain⟨h1,h2⟩:=Ha (n:=n) (rs:=rs) hm hE d;refine⟨λld=>?_,λf=>?_⟩;{have h0:=Gx (l:=base) (ld:=ld) hm.1 hm.2.1 hm.2.2;exact⟨h0.mixed,h0.ty,h0.z⟩};show fX P gl f (match uG rs f with|some p=>_|none=>_);split;{rename_i p hp;refine G5 (h1 p.2.2) h2 p.2.1 λins outs hc=>?_;refine Oz (n:=n) ?_;have hc:(told (mN p.1.md ins) (runN P {IE P n ty z base rs d with ld:=p.2.2} n f p.1 p.2.1 ins)).holds outs:=hc;exact Iq hc};{exact Gy hE f}
def azH{P:Program}{gl:Nat->Option (List Value)}{n d:Nat}{ty:Qb}{z:Zs}{base:List (Nat×(cX×fU))}{rs:Qc}(hm:P.follows .mixedOrders=Qf/\Aa P ty=Qf/\Ii P z=Qf)(hE:∀p∈base,fX P gl p.1 p.2)(f:Nat):fX P gl f ((IE P n ty z base rs d).fs f):=(Ha hm hE d).2 f
set_option maxRecDepth 100000
abbrev PG:=Go.Proofs.Tryz.prog
open Go.Proofs
def sc(l:List Nat):GL:=l.map λk=>(k,.no)
@[reducible] def gz:Qb:=[(23,.bs,1),(24,.fl,136),(32,.pD,24),(34,.is,8),(79,.il,80),(103,.ml,64),(256,.ws,2),(368,.ss,16),(408,.qd,64)]
@[reducible] def zs:Zs:=[(26,[(.i .i64 (0:Int)),(.u64 (0:UInt64)),(.u64 (0:UInt64)),(.u64 (0:UInt64)),(.s ([]:bE)),(.s ([]:bE)),(.i .i64 (0:Int)),(.nl .bs),(.nl .fl)]),(30,[(.i .i64 (0:Int)),(.i .i64 (0:Int)),(.i .i64 (0:Int))]),(36,[(.i .i64 (0:Int)),(.i .i64 (0:Int)),(.nl .is)]),(75,[(.s ([]:bE)),(.i .i64 (0:Int)),(.u64 (0:UInt64)),(.u64 (0:UInt64)),(.u64 (0:UInt64)),(.s ([]:bE)),(.s ([]:bE)),(.i .i64 (0:Int)),(.nl .bs),(.nl .fl)]),(81,[(.i .i64 (0:Int)),(.u64 (0:UInt64)),(.nl .bs),(.s ([]:bE)),(.nl .il)]),(105,[(.i .i64 (0:Int)),(.s ([]:bE)),(.nl .ml)]),(130,[(.nl .bs)]),(147,[(.i .i64 (0:Int)),(.i .i64 (0:Int))]),(149,[(.i .i64 (0:Int)),(.i .i64 (0:Int)),(.i .i64 (0:Int))]),(191,[(.s ([]:bE)),(.i .i64 (0:Int)),(.s ([]:bE)),(.nl .ml)]),(215,[(.s ([]:bE)),(.s ([]:bE)),(.s ([]:bE)),(.s ([]:bE)),(.s ([]:bE)),(.s ([]:bE)),(.s ([]:bE)),(.s ([]:bE)),(.s ([]:bE)),(.s ([]:bE)),(.s ([]:bE)),(.s ([]:bE)),(.s ([]:bE)),(.s ([]:bE)),(.s ([]:bE)),(.s ([]:bE)),(.s ([]:bE)),(.s ([]:bE)),(.s ([]:bE)),(.s ([]:bE))]),(340,[(.u64 (0:UInt64)),(.u64 (0:UInt64))]),(411,[(.c (.complex .f64 ((0,0):Cx).1 ((0,0):Cx).2)),(.c (.complex .f64 ((0,0):Cx).1 ((0,0):Cx).2)),(.c (.complex .f64 ((0,0):Cx).1 ((0,0):Cx).2)),(.c (.complex .f64 ((0,0):Cx).1 ((0,0):Cx).2))])]
def bF:PG.follows .mixedOrders=Qf/\Aa PG gz=Qf/\Ii PG zs=Qf:=⟨by kernel_rfl,by kernel_rfl,by kernel_rfl⟩
def Errs:Type:={p:Value×Value//(p.1=.nilIface\/∃te pe,p.1=.iface te pe)/\(p.2=.nilIface\/∃te pe,p.2=.iface te pe)}
def cnGl(ee:Errs):Nat->Option (List Value):=PC [(5,zK .u8 (Lib.deBruijn64tab.map Int.ofNat)),(3,zK .u64 Lib.pow10Tab),(0,[ee.1.1]),(1,[ee.1.2])]
abbrev KO(ee:Errs)(n:Nat)(c:cX)(s:fU):Prop:=fX PG (cnGl ee) n (c,s)
def bz:fU:={}
def aeu:cX
 |[.sl .bs b]=>.dG (nP (b.length<=1099511627776)) [.s (pT.text b)]
 |_=>.err
def alC:cX
 |[.i .i64 r]=>.ok [.b (fJ.qR r)]
 |_=>.err
def bP:fU:={b9:=2}
def aoB:cX
 |[.sl .bs b,.i .i64 at_]=>.dG (nP (b.length<=1099511627776)) [.i .i64 (fJ.qB b at_).1,.i .i64 (fJ.qB b at_).2]
 |_=>.err
def an4:cX
 |[.sl .bs b]=>.dG (nP (b.length<=1099511627776)) [.i .i64 ((fJ.look b).1:Int),.i .i64 ((fJ.look b).2:Int)]
 |_=>.err
def adE:cX
 |[.sl .bs b]=>.dG (nP (b.length<=1099511627776)) [.i .i64 ((fJ.look b).1:Int),.b (fJ.whole b)]
 |_=>.err
def ahe:cX
 |[.s s,.u8 c]=>.ok [.i .i64 (Lib.indexByte s c)]
 |_=>.err
def al8:cX
 |[.s s,.s t]=>.dG (nP (t.length=1)) [.i .i64 (Lib.indexByte s (t.getD 0 0))]
 |_=>.err
def al9:cX
 |[.s s,.s t]=>.dG (nP (t.length=1)) [.i .i64 (Lib.indexByte s (t.getD 0 0))]
 |_=>.err
def amy:cX
 |[.s s,.s t]=>.dG (nP (t.length=1)) [.b (nP (0<=Lib.indexByte s (t.getD 0 0)))]
 |_=>.err
def aaR:fU:={md:=[.sm]}
def aef:cX
 |[.sl .is l]=>.dG (dU l.length 8) [.sl .is l]
 |_=>.err
def amc:cX
 |[.i .i64 k]=>.ok [.s (Tree.name k)]
 |_=>.err
def aoE:cX
 |[.ag [.i .i64 gi,.u64 gm,.u64 gj,.u64 gh,.s fZ,.s gg,.i .i64 gf,.sl .bs fY,.sl .fl gk]]=>.ok [.b (Tree.dV (Val.mk gi gm gj gh fZ gg gf fY gk))]
 |_=>.err
def amA:cX
 |[.s s,.b plain]=>.dG (nP (s.length<=1099511627776)) [.b (Tree.gP s plain)]
 |_=>.err
def aas:fU:={md:=[.pl,.pl,.sm],b9:=2}
def anY:cX
 |[.ag [.i .i64 gi,.u64 gm,.u64 gj,.u64 gh,.s fZ,.s gg,.i .i64 gf,.sl .bs fY,.sl .fl gk],.s name,.sl .is path]=>.dG (nP ((bB.of name (Val.mk gi gm gj gh fZ gg gf fY gk)).bC+path.length<=1099511627776)) [.sl .is (Tree.gw (bB.of name (Val.mk gi gm gj gh fZ gg gf fY gk)) path).1,.i .i64 (Tree.gw (bB.of name (Val.mk gi gm gj gh fZ gg gf fY gk)) path).2]
 |_=>.err
def abg(n:Nat):cX
 |[.ag [.i .i64 gi,.u64 gm,.u64 gj,.u64 gh,.s fZ,.s gg,.i .i64 gf,.sl .bs fY,.sl .fl gk],.s name,.sl .is path]=>.dG ((nP ((bB.of name (Val.mk gi gm gj gh fZ gg gf fY gk)).bC+path.length<=1099511627776))&&nP ((bB.of name (Val.mk gi gm gj gh fZ gg gf fY gk)).bC<n)) [.sl .is (Tree.gw (bB.of name (Val.mk gi gm gj gh fZ gg gf fY gk)) path).1,.i .i64 (Tree.gw (bB.of name (Val.mk gi gm gj gh fZ gg gf fY gk)) path).2]
 |_=>.err
def abG:cX
 |[.ag [.i .i64 gi,.u64 gm,.u64 gj,.u64 gh,.s fZ,.s gg,.i .i64 gf,.sl .bs fY,.sl .fl gk]]=>.dG (nP ((bB.of [] (Val.mk gi gm gj gh fZ gg gf fY gk)).bC<=1099511627776)) [.sl .is (Tree.gw (bB.of [] (Val.mk gi gm gj gh fZ gg gf fY gk)) []).1,.i .i64 (Tree.gw (bB.of [] (Val.mk gi gm gj gh fZ gg gf fY gk)) []).2]
 |_=>.err
def aoj:cX
 |[.ag [.i .i64 gi,.u64 gm,.u64 gj,.u64 gh,.s fZ,.s gg,.i .i64 gf,.sl .bs fY,.sl .fl gk]]=>.dG (nP ((bB.of [] (Val.mk gi gm gj gh fZ gg gf fY gk)).bC<=1099511627776)) [.i .i64 (Tree.depth (bB.of [] (Val.mk gi gm gj gh fZ gg gf fY gk)):Int)]
 |_=>.err
def abn(n:Nat):cX
 |[.ag [.i .i64 gi,.u64 gm,.u64 gj,.u64 gh,.s fZ,.s gg,.i .i64 gf,.sl .bs fY,.sl .fl gk]]=>.dG ((nP ((bB.of [] (Val.mk gi gm gj gh fZ gg gf fY gk)).bC<=1099511627776))&&nP ((bB.of [] (Val.mk gi gm gj gh fZ gg gf fY gk)).bC<n)) [.i .i64 (Tree.depth (bB.of [] (Val.mk gi gm gj gh fZ gg gf fY gk)):Int)]
 |_=>.err
def alO:cX
 |[.sl .bs a,.sl .bs b]=>.ok [.b (nP (a=b))]
 |_=>.err
def aoo:cX
 |[.sl .is a,.sl .is b]=>.dG (nP (a.length<=1099511627776)) [.b (nP (a=b))]
 |_=>.err
def am0:cX
 |[.i .i64 left,.sl .is fR]=>.dG (nP (left<=1200/\fR.length<=10)&&fR.all (λs=>nP (0<=s))) [.i .i64 (fL.room left fR)]
 |_=>.err
def aoh:cX
 |[.i .i64 left,.ag [.i .i64 gi,.u64 gm,.u64 gj,.u64 gh,.s fZ,.s gg,.i .i64 gf,.sl .bs fY,.sl .fl gk]]=>.dG (nP (left<=1200)) [.i .i64 (fL.value left (bB.of [] (Val.mk gi gm gj gh fZ gg gf fY gk)))]
 |_=>.err
def abm(n:Nat):cX
 |[.i .i64 left,.ag [.i .i64 gi,.u64 gm,.u64 gj,.u64 gh,.s fZ,.s gg,.i .i64 gf,.sl .bs fY,.sl .fl gk]]=>.dG ((nP (left<=1200))&&nP ((bB.of [] (Val.mk gi gm gj gh fZ gg gf fY gk)).bC<n)) [.i .i64 (fL.value left (bB.of [] (Val.mk gi gm gj gh fZ gg gf fY gk)))]
 |_=>.err
def amz:cX
 |[.ag [.i .i64 gi,.u64 gm,.u64 gj,.u64 gh,.s fZ,.s gg,.i .i64 gf,.sl .bs fY,.sl .fl gk]]=>.ok [.b (nP (0<=fL.value 1200 (bB.of [] (Val.mk gi gm gj gh fZ gg gf fY gk))))]
 |_=>.err
def ady:cX
 |[.i .i64 v]=>.dG (Nr.i64 v) [.s (Nr.itoa v)]
 |_=>.err
def adI:cX
 |[.sl .fl l]=>.dG (nP (l.length<=1099511627776)) [.b (Tree.regular l)]
 |_=>.err
def ahJ:cX
 |[.u16 x]=>.ok [.i .i64 (Nt.bits x.toNat:Int)]
 |_=>.err
def WC:cX
 |[.u64 x]=>.ok [.i .i64 (Nt.bits x.toNat:Int)]
 |_=>.err
def alq:cX
 |[.u64 x]=>.ok [.i .i64 (Lib.ctz 64 x.toNat:Int)]
 |_=>.err
def alu:cX
 |[.s s,.s c]=>.dG (nP (s.length<=1099511627776/\c.length<=100)&&c.all (λb=>nP (b.toNat<128))) [.s (Lib.trimS s c)]
 |_=>.err
def afn:cX
 |[.s s,.s c]=>.dG (nP (s.length<=1099511627776/\c.length<=100)&&c.all (λb=>nP (b.toNat<128))) [.s (Lib.trimLeftS s c)]
 |_=>.err
def afm:cX
 |[.s s,.s c]=>.dG (nP (s.length<=1099511627776/\c.length<=100)&&c.all (λb=>nP (b.toNat<128))) [.s (Lib.trimRightS s c)]
 |_=>.err
def lA:fU:={own:=[0]}
def af2:cX
 |[.sl .ws a]=>.dG (dU a.length 2) [.sl .ws a]
 |_=>.err
def ami:cX
 |[.c (.float .f64 x)]=>.dG (Fl.num x) [.c (.float .f64 (Fl.nD x))]
 |_=>.err
def adQ:cX
 |[.c (.complex .f64 Fv Fu),.c (.float .f64 m)]=>.dG (Gz.Ss ((Fv,Fu):Cx) m) [.b Qf]
 |_=>.err
def amf:cX
 |[.c (.complex .f64 Fv Fu)]=>.dG (Gz.zR ((Fv,Fu):Cx) 33554432) [.b Qf]
 |_=>.err
def alw:cX
 |[.i .i64 x,.i .i64 y]=>.dG (nP (-33554432<=x/\x<=33554432/\-33554432<=y/\y<=33554432)) [.c (.complex .f64 ((Fl.ofInt x,Fl.ofInt y):Cx).1 ((Fl.ofInt x,Fl.ofInt y):Cx).2)]
 |_=>.err
def jh:fU:={b9:=3}
def agl:cX
 |[.c (.complex .f64 Fv Fu)]=>.dG (Gz.zR ((Fv,Fu):Cx) 4503599627370496) [.i .i64 (Fl.toInt ((Fv,Fu):Cx).1),.i .i64 (Fl.toInt ((Fv,Fu):Cx).2),.b Qf]
 |_=>.err
def alX:cX
 |[.c (.complex .f64 Fv Fu),.i .i64 k]=>.dG (Gz.zR ((Fv,Fu):Cx) 1125899906842624&&nP (-100<=k/\k<=100)) [.c (.complex .f64 (Gz.jN ((Fv,Fu):Cx) k).1 (Gz.jN ((Fv,Fu):Cx) k).2)]
 |_=>.err
def ame:cX
 |[.c (.complex .f64 Fv Fu),.c (.complex .f64 Yq Yp)]=>.dG (Gz.zR ((Fv,Fu):Cx) 33554432&&Gz.zR ((Yq,Yp):Cx) 33554432) [.c (.complex .f64 (Gz.mul ((Fv,Fu):Cx) ((Yq,Yp):Cx)).1 (Gz.mul ((Fv,Fu):Cx) ((Yq,Yp):Cx)).2)]
 |_=>.err
def al5:cX
 |[.c (.float .f64 x)]=>.dG (Gz.QD x) [.b Qf]
 |_=>.err
def agN:cX
 |[.ag [.c (.complex .f64 oS oR),.c (.complex .f64 oQ oP),.c (.complex .f64 oO oN),.c (.complex .f64 oM oL)]]=>.dG (Gz.CL (Qd.mk ((oS,oR):Cx) ((oQ,oP):Cx) ((oO,oN):Cx) ((oM,oL):Cx)) 1125899906842624) [.b Qf]
 |_=>.err
def ahC:cX
 |[.ag [.c (.complex .f64 oS oR),.c (.complex .f64 oQ oP),.c (.complex .f64 oO oN),.c (.complex .f64 oM oL)],.i .i64 w]=>.dG (Gz.CL (Qd.mk ((oS,oR):Cx) ((oQ,oP):Cx) ((oO,oN):Cx) ((oM,oL):Cx)) 1125899906842624&&nP (w=1\/w=-1)) [.ag (Qd.cells (Gz.qz (Qd.mk ((oS,oR):Cx) ((oQ,oP):Cx) ((oO,oN):Cx) ((oM,oL):Cx)) w))]
 |_=>.err
def al4:cX
 |[.ag [.c (.complex .f64 oS oR),.c (.complex .f64 oQ oP),.c (.complex .f64 oO oN),.c (.complex .f64 oM oL)]]=>.dG (Gz.CL (Qd.mk ((oS,oR):Cx) ((oQ,oP):Cx) ((oO,oN):Cx) ((oM,oL):Cx)) 1125899906842624) [.ag (Qd.cells (Gz.qz (Qd.mk ((oS,oR):Cx) ((oQ,oP):Cx) ((oO,oN):Cx) ((oM,oL):Cx)) 1))]
 |_=>.err
def amS:cX
 |[.ag [.c (.complex .f64 oS oR),.c (.complex .f64 oQ oP),.c (.complex .f64 oO oN),.c (.complex .f64 oM oL)]]=>.dG (Gz.CL (Qd.mk ((oS,oR):Cx) ((oQ,oP):Cx) ((oO,oN):Cx) ((oM,oL):Cx)) 1125899906842624&&Gz.Su (Qd.mk ((oS,oR):Cx) ((oQ,oP):Cx) ((oO,oN):Cx) ((oM,oL):Cx))) [.ag (Qd.cells (Gz.back (Qd.mk ((oS,oR):Cx) ((oQ,oP):Cx) ((oO,oN):Cx) ((oM,oL):Cx)))),.b Qf]
 |_=>.err
def anD:cX
 |[.sl .is l]=>.dG (nP (l.length<=256)&&Gz.jP l) [.b Qf]
 |_=>.err
def anx:cX
 |[.sl .is l]=>.dG (nP (l.length<=256)&&Gz.jP l) [.sl .qd (Gz.jA l)]
 |_=>.err
def aot:cX
 |[.sl .is a,.sl .is b]=>.dG (nP (a.length<=256/\b.length<=256)&&(Gz.jP a&&Gz.jP b)) [.sl .is (Gz.conv a b),.b Qf]
 |_=>.err
def adD:cX
 |[.sl .ws a]=>.dG (nP (a.length<=1099511627776)) [.sl .ws (Nt.of (Nt.val a))]
 |_=>.err
def Yh:cX
 |[.sl .ws a]=>.dG (nP (a.length<=1099511627776)) [.b (Nt.is a)]
 |_=>.err
def abF:cX
 |[.u64 v]=>.ok [.sl .ws (Nt.of v.toNat)]
 |_=>.err
def am6:cX
 |[.sl .ws a]=>.dG (nP (Nt.is a=Qf/\a.length<=4)) [.u64 (UInt64.ofNat (Nt.val a)),.b Qf]
 |_=>.err
def afT:cX
 |[.sl .ws a]=>.dG (Nt.is a) [.i .i64 (Nt.bits (Nt.val a):Int)]
 |_=>.err
def agb:cX
 |[.sl .ws a,.sl .ws b]=>.dG (nP (a.length<=1099511627776/\b.length<=1099511627776)&&(Nt.norm a&&Nt.norm b)) [.i .i64 (Nt.cmp (Nt.val a) (Nt.val b))]
 |_=>.err
def adY:cX
 |[.sl .ws a,.sl .ws b]=>.dG (Nt.is a&&Nt.is b) [.i .i64 (Nt.cmp (Nt.val a) (Nt.val b))]
 |_=>.err
def anQ:cX
 |[.sl .ws a]=>.dG (nP (a.length<=256)) [.sl .is (a.map λd=>(d.toNat:Int))]
 |_=>.err
def ahk:cX
 |[.sl .ws a,.sl .ws b]=>.dG (Nt.is a&&Nt.is b) [.sl .ws (Nt.of (Nt.val a*Nt.val b))]
 |_=>.err
def agL:cX
 |[.sl .ws a,.u16 d]=>.dG (nP (a.length<=1000000/\d≠0)) [.sl .ws (Nt.of (Nt.val a/d.toNat)),.u16 (UInt16.ofNat (Nt.val a% d.toNat))]
 |_=>.err
def agB:cX
 |[.sl .ws a,.i .i64 n]=>.dG (nP (a.length<=1000000/\0<=n/\n<16)&&Nt.norm a) [.sl .ws (Nt.of (Nt.val a*2^n.toNat))]
 |_=>.err
def anG:cX
 |[.sl .ws a,.i .i64 n]=>.dG (nP (a.length<=1000000/\0<=n/\n<16)) [.sl .ws (Nt.of (Nt.val a/2^n.toNat))]
 |_=>.err
def Yf:fU:={md:=[.gv],b9:=2}
def aoD:cX
 |[.sl .ws u,.sl .ws v]=>.dG (nP (u.length<=1000000/\2<=v.length/\v.length<=u.length/\32768<=(v.getLast?.getD 0).toNat)) [.sl .ws (Nt.fix (u.length+1 -v.length) (Nt.val u/Nt.val v)),.sl .ws (Nt.fix v.length (Nt.val u% Nt.val v))]
 |_=>.err
def afa:cX
 |[.sl .ws a,.sl .ws b]=>.dG (Nt.is a&&Nt.is b&&nP (b≠[])) [.sl .ws (Nt.of (Nt.val a/Nt.val b)),.sl .ws (Nt.of (Nt.val a% Nt.val b)),.b Qf]
 |_=>.err
def adO:cX
 |[.sl .ws a,.i .i64 n]=>.dG (nP (0<=n/\n<=4096)&&Nt.is a) [.sl .ws (Nt.of (Nt.val a*2^n.toNat))]
 |_=>.err
def ahw:cX
 |[.sl .ws a,.i .i64 b,.i .i64 c]=>.dG (nP (a.length<=1000000/\1<=b/\b<=65535/\0<=c/\c<=65535)&&Nt.norm a) [.sl .ws (Nt.of (Nt.val a*b.toNat+c.toNat))]
 |_=>.err
def ahS:cX
 |[.i .i64 b,.i .i64 e]=>.dG (nP (2<=b/\b<=65535/\0<=e/\e<=1000/\b.toNat^e.toNat<2^4096)) [.sl .ws (Nt.of (b.toNat^e.toNat)),.b Qf]
 |_=>.err
def am4:cX
 |[.s s]=>.dG (nP (1<=s.length/\s.length<=300/\s.getD 0 0≠48)&&s.all Nr.fu) [.sl .ws (Nt.of (Nr.num s)),.b Qf]
 |_=>.err
def amU:cX
 |[.b n,.u64 m,.i .i64 e]=>.dG (nP (-1100<=e/\e<=2000)) [.u64 (Nr.pat (Nr.join n m.toNat e)),.b (Nr.join n m.toNat e).isSome]
 |_=>.err
def anw:cX
 |[.sl .ws a,.sl .ws b,.i .i64 e]=>.dG (Nt.is a&&Nt.is b&&nP (-4096<=e/\e<=4096/\0<Nt.val b/\Nr.lP (Nt.val a) e<2^4090/\Nr.lB (Nt.val b) e<2^4090/\Nr.lP (Nt.val a) e<2^60*Nr.lB (Nt.val b) e)) [.u64 (UInt64.ofNat (Nr.zD (Nr.lP (Nt.val a) e) (Nr.lB (Nt.val b) e))),.b (Nr.pr (Nr.lP (Nt.val a) e) (Nr.lB (Nt.val b) e))]
 |_=>.err
def anf:cX
 |[.sl .ws a,.sl .ws b]=>.dG (Nt.is a&&Nt.is b&&nP (0<Nt.val a/\0<Nt.val b/\Nt.val a<2^1100/\Nt.val b<2^2200)) [.u64 (Nr.pat (Nr.kz (Nt.val a) (Nt.val b))),.b (Nr.kz (Nt.val a) (Nt.val b)).isSome]
 |_=>.err
def amW:cX
 |[.s d,.i .i64 x]=>.ok [.u64 (Nr.pat (Nr.read d x)),.b (Nr.read d x).isSome]
 |_=>.err
def aly:cX
 |[.s s,.i .i64 at_,.u8 c,.u8 d]=>.dG (nP (s.length<=1099511627776)&&nP (0<=at_)) [.b (nP (at_<s.length)&&(nP (s.getD at_.toNat 0=c)||nP (s.getD at_.toNat 0=d)))]
 |_=>.err
def anB:cX
 |[.s s,.i .i64 at_]=>.dG (nP (s.length<=1099511627776)&&nP (0<=at_/\at_<=1099511627776)) [.i .i64 (at_+(Nr.run (s.drop at_.toNat):Int))]
 |_=>.err
def aiW:cX
 |[.s s]=>.dG (nP (s.length<=1099511627776)) [.i .i64 (Nr.kA s)]
 |_=>.err
def aam:fU:={b9:=4}
def adC:cX
 |[.u64 b]=>.ok [.i .i64 (Nr.split b).1,.b (Nr.split b).2.1,.u64 (Nr.split b).2.2.1,.i .i64 (Nr.split b).2.2.2]
 |_=>.err
def ant:cX
 |[.sl .ws a,.sl .ws b]=>.dG (Nt.is a&&Nt.is b) [.sl .ws (Nt.of (Nt.val a+Nt.val b))]
 |_=>.err
def anI:cX
 |[.sl .ws a]=>.dG (Nt.is a) [.s (Sh.vq (Nt.val a))]
 |_=>.err
def adA:cX
 |[.s s,.i .i64 n]=>.dG (nP (s=[48]/\0<=n/\n<=100)) [.s (Sh.fk n)]
 |_=>.err
def als:cX
 |[.sl .ss l,.s s]=>.dG (nP (s=[]/\l.length<=100000/\l.flatten.length<=100000)) [.s l.flatten]
 |_=>.err
def alI:cX
 |[.i .i64 v,.i .i64 b]=>.dG (Nr.i64 v&&nP (b=10)) [.s (Nr.itoa v)]
 |_=>.err
def acR:fU:={md:=[.sl],b9:=0}
def an7:cX
 |[.sl .ss l]=>.dG (nP (l.length<=100000)) [.sl .ss l.reverse]
 |_=>.err
def adB:cX
 |[.i .i64 v]=>.dG (Nr.i64 v) [.s (Nr.itoa v)]
 |_=>.err
def af0:cX
 |[.sl .ws a,.sl .ws b,.i .i64 k]=>.dG (Nt.is a&&Nt.is b&&nP (-400<=k/\k<=400/\Nt.val a<2^1100/\Nt.val b<2^1100)) [.sl .ws (Nt.of (Sh.tA (Nt.val a) k)),.sl .ws (Nt.of (Sh.tB (Nt.val b) k))]
 |_=>.err
def al6:cX
 |[.sl .ws a,.sl .ws b,.i .i64 x]=>.dG (Nt.is a&&Nt.is b&&nP (-400<=x/\x<=400/\Nt.val a<2^1100/\Nt.val b<2^1100)) [.b (nP (Sh.tB (Nt.val b) (-x)<=Sh.tA (Nt.val a) (-x)))]
 |_=>.err
def al7:cX
 |[.u64 b,.sl .ws a,.i .i64 p]=>.dG (Nt.is a&&nP (-1000<=p/\p<=1000/\0<Nt.val a/\Nt.val a<10^200)) [.s ((Sh.nn b.toNat (Nt.val a) p).getD ([],0)).1,.i .i64 ((Sh.nn b.toNat (Nt.val a) p).getD ([],0)).2,.b (Sh.nn b.toNat (Nt.val a) p).isSome]
 |_=>.err
def al3:cX
 |[.u64 b,.sl .ws p,.sl .ws q,.i .i64 x,.i .i64 n]=>.dG (Nt.is p&&Nt.is q&&Sh.sz (Nt.val p) (Nt.val q) x n) [.s ((Sh.tg b.toNat (Nt.val p) (Nt.val q) x n).getD ([],0)).1,.i .i64 ((Sh.tg b.toNat (Nt.val p) (Nt.val q) x n).getD ([],0)).2,.b (Sh.tg b.toNat (Nt.val p) (Nt.val q) x n).isSome]
 |_=>.err
def aoy:cX
 |[.u64 b]=>.ok [.s (Sh.dg b).1,.i .i64 (Sh.dg b).2.1,.b (Sh.dg b).2.2]
 |_=>.err
def amY:cX
 |[.s d,.i .i64 x]=>.dG (nP (1<=d.length/\d.length<=17/\-900<=x/\x<=900)) [.s (Sh.yE d x)]
 |_=>.err
def ag1:cX
 |[.u64 b]=>.ok [.s (Sh.text b)]
 |_=>.err
def alr:cX
 |[.u64 v,.i .i64 b]=>.dG (nP (b=10)) [.s (Nr.dec v.toNat)]
 |_=>.err
def amN:cX
 |[.u64 v,.i .i64 b]=>.dG (nP (b=10)) [.s (Nr.dec v.toNat)]
 |_=>.err
def amF:cX
 |[.s s,.s t]=>.ok [.b (List.isPrefixOf t s)]
 |_=>.err
def ahh:cX
 |[.s s,.s t]=>.ok [.b (List.isPrefixOf t s)]
 |_=>.err
def amH:cX
 |[.s s,.u8 c]=>.ok [.i .i64 (Lib.indexByte s c)]
 |_=>.err
def alQ:cX
 |[.u64 a,.u64 b]=>.ok [.u64 (UInt64.ofNat (a.toNat*b.toNat/18446744073709551616)),.u64 (UInt64.ofNat (a.toNat*b.toNat))]
 |_=>.err
def amr:cX
 |[.u64 v]=>.dG (nP (9223372036854775808<=v.toNat)) [.i .i64 (0)]
 |_=>.err
def aoC:cX
 |[.u64 a,.u64 b,.u64 y]=>.dG (nP (9223372036854775808<=y.toNat/\a.toNat<y.toNat)) [.u64 (UInt64.ofNat ((a.toNat*18446744073709551616+b.toNat)/y.toNat)),.u64 (UInt64.ofNat ((a.toNat*18446744073709551616+b.toNat)% y.toNat))]
 |_=>.err
def ae2:cX
 |[.ag [.u64 xE,.u64 xD],.ag [.u64 JZ,.u64 JY]]=>.ok [.i .i64 (cond (nP ((iD.mk xE xD).val=(iD.mk JZ JY).val)) 0 (cond (nP ((iD.mk xE xD).val<(iD.mk JZ JY).val)) (-1) 1))]
 |_=>.err
def alK:cX
 |[.u64 a,.u64 b]=>.ok [.ag (iD.of (a.toNat*b.toNat)).cells]
 |_=>.err
def alJ:cX
 |[.ag [.u64 xE,.u64 xD],.u64 b]=>.dG (nP (9223372036854775808<=b.toNat)) [.ag (iD.of ((iD.mk xE xD).val/b.toNat)).cells,.u64 (UInt64.ofNat ((iD.mk xE xD).val% b.toNat)),.b Qf]
 |_=>.err
def anN:cX
 |[.ag [.u64 xE,.u64 xD]]=>.ok [.s (Nr.dec (iD.mk xE xD).val)]
 |_=>.err
def afY:cX
 |[]=>.ok [.ag (Cn.yo).cells]
 |_=>.err
def aa9:fU:={b9:=4}
def ah0:cX
 |[.u64 h,.u64 l]=>.ok [.i .i64 (Cn.split h l).1,.b (Cn.split h l).2.1,.ag (Cn.split h l).2.2.1.cells,.i .i64 (Cn.split h l).2.2.2]
 |_=>.err
def amt:cX
 |[.b n,.ag [.u64 GK,.u64 M9],.i .i64 x]=>.dG (Nr.i64 x) [.u64 (Cn.join n (iD.mk GK M9) x).1,.u64 (Cn.join n (iD.mk GK M9) x).2.1,.b (Cn.join n (iD.mk GK M9) x).2.2]
 |_=>.err
def amd:cX
 |[.u64 h,.u64 l]=>.ok [.b (Cn.vC h l)]
 |_=>.err
def anb:cX
 |[.s d,.i .i64 x]=>.dG (nP (1<=d.length/\d.length<=40/\-10000<=x/\x<=100000)) [.s (Cn.laid d x)]
 |_=>.err
def amx:cX
 |[.u64 h,.u64 l]=>.ok [.s (Cn.y9 h l)]
 |_=>.err
def anE:cX
 |[.sl .bs b]=>.dG (nP (b.length<=1099511627776)) [.s (Cn.base b)]
 |_=>.err
def adU:cX
 |[.s s]=>.ok [.ag (Cn.str s).cells]
 |_=>.err
def afc:cX
 |[.i .i64 v]=>.dG (Nr.i64 v) [.ag (Cn.num v).cells]
 |_=>.err
def adS:cX
 |[.s s,.ag [.i .i64 jf,.s je,.sl .ml jg]]=>.ok [.ag (Cn.one s (eV.mk jf je jg)).cells]
 |_=>.err
def adW:cX
 |[.s s,.ag [.i .i64 jf,.s je,.sl .ml jg],.s t,.ag [.i .i64 Sl,.s Sk,.sl .ml Sm]]=>.ok [.ag (Cn.two s (eV.mk jf je jg) t (eV.mk Sl Sk Sm)).cells]
 |_=>.err
def amK:cX
 |[.u64 v]=>.ok [.s (Cn.high v)]
 |_=>.err
def amq:cX
 |[.ag [.i .i64 gi,.u64 gm,.u64 gj,.u64 gh,.s fZ,.s gg,.i .i64 gf,.sl .bs fY,.sl .fl gk]]=>.ok [.ag (Cn.tH (Val.mk gi gm gj gh fZ gg gf fY gk)).1.cells,.b (Cn.tH (Val.mk gi gm gj gh fZ gg gf fY gk)).2]
 |_=>.err
def alU:cX
 |[.ag [.i .i64 gi,.u64 gm,.u64 gj,.u64 gh,.s fZ,.s gg,.i .i64 gf,.sl .bs fY,.sl .fl gk]]=>.dG (nP ((bB.of [] (Val.mk gi gm gj gh fZ gg gf fY gk)).bC<=1099511627776)) [.ag (Cn.wC (Val.mk gi gm gj gh fZ gg gf fY gk)).cells]
 |_=>.err
def oE:fU:={own:=[1002]}
def ano:cX
 |[.sl .fl l]=>.dG (nP (bB.bD l<=1099511627776)) [.ag (Cn.tV l).cells]
 |_=>.err
def aa2(n:Nat):cX
 |[.sl .fl l]=>.dG ((nP (bB.bD l<=1099511627776))&&nP ((2*bB.bD l+1)<n)) [.ag (Cn.tV l).cells]
 |_=>.err
def acg(n:Nat):cX
 |[.ag [.i .i64 gi,.u64 gm,.u64 gj,.u64 gh,.s fZ,.s gg,.i .i64 gf,.sl .bs fY,.sl .fl gk]]=>.dG ((nP ((bB.of [] (Val.mk gi gm gj gh fZ gg gf fY gk)).bC<=1099511627776))&&nP ((2*(bB.of [] (Val.mk gi gm gj gh fZ gg gf fY gk)).bC)<n)) [.ag (Cn.C2 (Val.mk gi gm gj gh fZ gg gf fY gk)).cells]
 |_=>.err
def afV:cX
 |[.ag [.i .i64 gi,.u64 gm,.u64 gj,.u64 gh,.s fZ,.s gg,.i .i64 gf,.sl .bs fY,.sl .fl gk]]=>.dG (nP ((bB.of [] (Val.mk gi gm gj gh fZ gg gf fY gk)).bC<=1099511627776)) [.ag (Cn.pB (Val.mk gi gm gj gh fZ gg gf fY gk)).cells,.ag [.i .i64 (Cn.jO (Val.mk gi gm gj gh fZ gg gf fY gk)).2,.i .i64 0,.sl .is (Cn.jO (Val.mk gi gm gj gh fZ gg gf fY gk)).1]]
 |_=>.err
def aeS:cX
 |[.s s]=>.dG (nP (s.length<=1099511627776)) [.b (fJ.whole s)]
 |_=>.err
def aop:cX
 |[.ag [.i .i64 jf,.s je,.sl .ml jg]]=>.dG (nP ((eV.mk jf je jg).bC<=1099511627776)) [.i .i64 (Cn.pS (eV.mk jf je jg))]
 |_=>.err
def abp(n:Nat):cX
 |[.ag [.i .i64 jf,.s je,.sl .ml jg]]=>.dG ((nP ((eV.mk jf je jg).bC<=1099511627776))&&nP ((eV.mk jf je jg).bC<n)) [.i .i64 (Cn.pS (eV.mk jf je jg))]
 |_=>.err
def anZ:cX
 |[.s s]=>.dG (nP (s.length<=1000000000000)) [.s (Cn.mK s),.b (fJ.whole s)]
 |_=>.err
def aeb:fU:={md:=[.gv],own:=[0]}
def amG:cX
 |[.sl .bs b,.s s]=>.dG (nP (b.length+6*s.length<=5000000000000)) [.sl .bs (b++Cn.mK s)]
 |_=>.err
def Ya:fU:={md:=[.gv],own:=[0]}
def aom:cX
 |[.sl .bs b,.ag [.i .i64 jf,.s je,.sl .ml jg]]=>.dG (nP (b.length+12*(eV.mk jf je jg).bC<=4000000000000)) [.sl .bs (b++Cn.yC (eV.mk jf je jg))]
 |_=>.err
def abo(n:Nat):cX
 |[.sl .bs b,.ag [.i .i64 jf,.s je,.sl .ml jg]]=>.dG ((nP (b.length+12*(eV.mk jf je jg).bC<=4000000000000))&&nP ((eV.mk jf je jg).bC<n)) [.sl .bs (b++Cn.yC (eV.mk jf je jg))]
 |_=>.err
def agn:cX
 |[.ag [.i .i64 jf,.s je,.sl .ml jg]]=>.dG (nP (12*(eV.mk jf je jg).bC<=1000000000000)) [.s (Cn.oH (eV.mk jf je jg)),.i .i64 (Cn.pS (eV.mk jf je jg))]
 |_=>.err
def alT:cX
 |[.ag [.i .i64 gi,.u64 gm,.u64 gj,.u64 gh,.s fZ,.s gg,.i .i64 gf,.sl .bs fY,.sl .fl gk]]=>.dG (nP ((bB.of [] (Val.mk gi gm gj gh fZ gg gf fY gk)).bC<=100000)) [.s (Cn.tc (Val.mk gi gm gj gh fZ gg gf fY gk)),.ag [.i .i64 (Cn.kX (Val.mk gi gm gj gh fZ gg gf fY gk)).2,.i .i64 0,.sl .is (Cn.kX (Val.mk gi gm gj gh fZ gg gf fY gk)).1]]
 |_=>.err
def aaQ:cX
 |[.sl .bs a]=>.dG (dU a.length 1) [.sl .bs a]
 |_=>.err
def alv:cX
 |[.s s]=>.dG (nP (s.length<=281474976710656)) [.i .i64 ((Rl.lZ s).getD 0),.b (Rl.lZ s).isSome]
 |_=>.err
def alP:cX
 |[.u64 b]=>.ok [.i .i64 (Rl.order b)]
 |_=>.err
def alE:cX
 |[.u64 a,.u64 b]=>.ok [.i .i64 (Rl.EI a b).1,.b (Rl.EI a b).2]
 |_=>.err
def alA:cX
 |[.s t]=>.ok [.ag (eV.mk 4 t []).cells]
 |_=>.err
def agj:cX
 |[.u64 b]=>.ok [.s (Rl.number b).1,.b (Rl.number b).2]
 |_=>.err
def alH:cX
 |[.s s,.ag [.i .i64 jf,.s je,.sl .ml jg]]=>.ok [.ag (Cn.one s (eV.mk jf je jg)).cells]
 |_=>.err
def aor:cX
 |[.ag [.i .i64 gi,.u64 gm,.u64 gj,.u64 gh,.s fZ,.s gg,.i .i64 gf,.sl .bs fY,.sl .fl gk]]=>.dG (nP ((bB.of [] (Val.mk gi gm gj gh fZ gg gf fY gk)).bC<=1000000000000)) [.ag (Rl.jN (Val.mk gi gm gj gh fZ gg gf fY gk)).cells]
 |_=>.err
def abr(n:Nat):cX
 |[.ag [.i .i64 gi,.u64 gm,.u64 gj,.u64 gh,.s fZ,.s gg,.i .i64 gf,.sl .bs fY,.sl .fl gk]]=>.dG ((nP ((bB.of [] (Val.mk gi gm gj gh fZ gg gf fY gk)).bC<=1000000000000))&&nP ((bB.of [] (Val.mk gi gm gj gh fZ gg gf fY gk)).bC<n)) [.ag (Rl.jN (Val.mk gi gm gj gh fZ gg gf fY gk)).cells]
 |_=>.err
def amh:cX
 |[.ag [.i .i64 Fq,.u64 Ft,.u64 xE,.u64 xD,.s Fm,.s Fp,.i .i64 Fo,.sl .bs Fk,.sl .fl Fs],.ag [.i .i64 NW,.u64 NZ,.u64 JZ,.u64 JY,.s NT,.s NV,.i .i64 NU,.sl .bs NS,.sl .fl NY]]=>.ok [.b (Tree.sB (Val.mk Fq Ft xE xD Fm Fp Fo Fk Fs) (Val.mk NW NZ JZ JY NT NV NU NS NY))]
 |_=>.err
def aad:fU:={md:=[.gv,.pl,.pl,.sm],b9:=2,own:=[0]}
def aoz:cX
 |[.sl .pD o,.ag [.i .i64 Fq,.u64 Ft,.u64 xE,.u64 xD,.s Fm,.s Fp,.i .i64 Fo,.sl .bs Fk,.sl .fl Fs],.ag [.i .i64 NW,.u64 NZ,.u64 JZ,.u64 JY,.s NT,.s NV,.i .i64 NU,.sl .bs NS,.sl .fl NY],.sl .is p]=>.dG (nP (o.length+(bB.of [] (Val.mk Fq Ft xE xD Fm Fp Fo Fk Fs)).bC<=1000000000/\p.length+(bB.of [] (Val.mk Fq Ft xE xD Fm Fp Fo Fk Fs)).bC<=1000000000)) [.sl .pD (Rl.tU o (Val.mk Fq Ft xE xD Fm Fp Fo Fk Fs) (Val.mk NW NZ JZ JY NT NV NU NS NY) p).1,.b (Rl.tU o (Val.mk Fq Ft xE xD Fm Fp Fo Fk Fs) (Val.mk NW NZ JZ JY NT NV NU NS NY) p).2]
 |_=>.err
def abx(n:Nat):cX
 |[.sl .pD o,.ag [.i .i64 Fq,.u64 Ft,.u64 xE,.u64 xD,.s Fm,.s Fp,.i .i64 Fo,.sl .bs Fk,.sl .fl Fs],.ag [.i .i64 NW,.u64 NZ,.u64 JZ,.u64 JY,.s NT,.s NV,.i .i64 NU,.sl .bs NS,.sl .fl NY],.sl .is p]=>.dG ((nP (o.length+(bB.of [] (Val.mk Fq Ft xE xD Fm Fp Fo Fk Fs)).bC<=1000000000/\p.length+(bB.of [] (Val.mk Fq Ft xE xD Fm Fp Fo Fk Fs)).bC<=1000000000))&&nP ((bB.of [] (Val.mk Fq Ft xE xD Fm Fp Fo Fk Fs)).bC<n)) [.sl .pD (Rl.tU o (Val.mk Fq Ft xE xD Fm Fp Fo Fk Fs) (Val.mk NW NZ JZ JY NT NV NU NS NY) p).1,.b (Rl.tU o (Val.mk Fq Ft xE xD Fm Fp Fo Fk Fs) (Val.mk NW NZ JZ JY NT NV NU NS NY) p).2]
 |_=>.err
def alZ:cX
 |[.ag [.i .i64 Fq,.u64 Ft,.u64 xE,.u64 xD,.s Fm,.s Fp,.i .i64 Fo,.sl .bs Fk,.sl .fl Fs],.ag [.i .i64 NW,.u64 NZ,.u64 JZ,.u64 JY,.s NT,.s NV,.i .i64 NU,.sl .bs NS,.sl .fl NY]]=>.dG (nP ((bB.of [] (Val.mk Fq Ft xE xD Fm Fp Fo Fk Fs)).bC<=100000000)) [.sl .pD ((Rl.diff (Val.mk Fq Ft xE xD Fm Fp Fo Fk Fs) (Val.mk NW NZ JZ JY NT NV NU NS NY)).getD []),.b (Rl.diff (Val.mk Fq Ft xE xD Fm Fp Fo Fk Fs) (Val.mk NW NZ JZ JY NT NV NU NS NY)).isSome]
 |_=>.err
def al1:cX
 |[.ag [.i .i64 gi,.u64 gm,.u64 gj,.u64 gh,.s fZ,.s gg,.i .i64 gf,.sl .bs fY,.sl .fl gk]]=>.dG (nP ((bB.of [] (Val.mk gi gm gj gh fZ gg gf fY gk)).bC<=10000000)) [.sl .pD ((Rl.diff (Val.mk gi gm gj gh fZ gg gf fY gk) (Rl.jN (Val.mk gi gm gj gh fZ gg gf fY gk))).getD [])]
 |_=>.err
def alN:cX
 |[.i .i64 y]=>.dG (nP (0<=y/\y<=100000)) [.b (Rl.Jb y)]
 |_=>.err
def anh:cX
 |[.i .i64 y,.i .i64 m]=>.dG (nP (0<=y/\y<=100000)) [.i .i64 (Rl.month y m)]
 |_=>.err
def alR:cX
 |[.i .i64 y]=>.dG (nP (1<=y/\y<=100000)) [.i .i64 (Rl.ahead y)]
 |_=>.err
def amC:cX
 |[.i .i64 n,.i .i64 l]=>.dG (nP (0<=n/\n<=1000000/\0<=l/\l<=10)) [.s (Rl.pad n l)]
 |_=>.err
def aof:cX
 |[.i .i64 t]=>.dG (Nr.i64 t) [.s (Rl.date t).1,.b (Rl.date t).2]
 |_=>.err
def ans:cX
 |[.sl .fl l]=>.dG (nP (bB.bD l<=1000000000000)&&nP ((Tree.mf l 0 []).2=0)) [.ag (Rl.uW Rl.date l).cells]
 |_=>.err
def aa5(n:Nat):cX
 |[.sl .fl l]=>.dG ((nP (bB.bD l<=1000000000000)&&nP ((Tree.mf l 0 []).2=0))&&nP ((2*bB.bD l+1)<n)) [.ag (Rl.uW Rl.date l).cells]
 |_=>.err
def acW(n:Nat):cX
 |[.ag [.i .i64 gi,.u64 gm,.u64 gj,.u64 gh,.s fZ,.s gg,.i .i64 gf,.sl .bs fY,.sl .fl gk]]=>.dG ((nP ((bB.of [] (Val.mk gi gm gj gh fZ gg gf fY gk)).bC<=1000000000000)&&nP ((Tree.gw (bB.of [] (Val.mk gi gm gj gh fZ gg gf fY gk)) []).2=0))&&nP ((2*(bB.of [] (Val.mk gi gm gj gh fZ gg gf fY gk)).bC)<n)) [.ag (Rl.vT Rl.date (bB.of [] (Val.mk gi gm gj gh fZ gg gf fY gk))).cells]
 |_=>.err
def al0:cX
 |[.ag [.i .i64 gi,.u64 gm,.u64 gj,.u64 gh,.s fZ,.s gg,.i .i64 gf,.sl .bs fY,.sl .fl gk]]=>.dG (nP ((bB.of [] (Val.mk gi gm gj gh fZ gg gf fY gk)).bC<=1000000000000)) [.ag (Rl.ra Rl.date (Val.mk gi gm gj gh fZ gg gf fY gk)).cells,.ag [.i .i64 (Cn.jO (Val.mk gi gm gj gh fZ gg gf fY gk)).2,.i .i64 0,.sl .is (Cn.jO (Val.mk gi gm gj gh fZ gg gf fY gk)).1]]
 |_=>.err
def al2:cX
 |[.ag [.i .i64 gi,.u64 gm,.u64 gj,.u64 gh,.s fZ,.s gg,.i .i64 gf,.sl .bs fY,.sl .fl gk]]=>.dG (nP ((bB.of [] (Val.mk gi gm gj gh fZ gg gf fY gk)).bC<=100000)) [.s (Rl.td Rl.date (Val.mk gi gm gj gh fZ gg gf fY gk)),.ag [.i .i64 (Rl.kX Rl.date (Val.mk gi gm gj gh fZ gg gf fY gk)).2,.i .i64 0,.sl .is (Rl.kX Rl.date (Val.mk gi gm gj gh fZ gg gf fY gk)).1]]
 |_=>.err
def aox:cX
 |[.sl .pD a,.sl .pD b]=>.dG (nP (a.length<=1000000000)&&a.all (λl=>nP (l.length<=1099511627776))) [.b (nP (a=b))]
 |_=>.err
def ad8:cX
 |[.i .i64 n]=>.ok [.b (nP (1<=n/\n<=8))]
 |_=>.err
def aaJ:fU:={kd:=.nw (Bm 0)}
def ad2:cX
 |[]=>.ok [.ag [.pt],.sl .bs ([]:List UInt8)]
 |_=>.err
def dJ:fU:={b9:=0,kd:=.wr 0 0 Qf}
def aaG:cX
 |[.ag [.pt],.i .i64 v,.sl .bs b]=>.dG (nP (b.length<=1099511627776)) [.ag [.pt],.sl .bs (b++[UInt8.ofInt v])]
 |_=>.err
def adz:cX
 |[.ag [.pt],.sl .bs x,.sl .bs b]=>.dG (nP (b.length+x.length<=2199023255552)) [.ag [.pt],.sl .bs (b++x)]
 |_=>.err
def aeh:cX
 |[.ag [.pt],.u64 v,.i .i64 n,.sl .bs b]=>.dG (nP (1<=n/\n<=8/\b.length<=1099511627776)) [.ag [.pt],.sl .bs (b++Bs.mc n.toNat v.toNat)]
 |_=>.err
def aaL:fU:={kd:=.wr 0 0 Qf}
def agV:cX
 |[.ag [.pt],.i .i64 at_,.u64 v,.i .i64 n,.sl .bs b]=>.dG (nP (1<=n/\n<=8/\0<=at_/\at_+n<=(b.length:Int)/\b.length<=2199023255552)) [.b Qf,.ag [.pt],.sl .bs (Bs.rD b at_.toNat (Bs.mc n.toNat v.toNat))]
 |_=>.err
def abM:fU:={kd:=.wr 0 0 Qf}
def afl:cX
 |[.ag [.pt],.sl .bs b]=>.ok [.i .i64 (b.length:Int),.ag [.pt],.sl .bs b]
 |_=>.err
def aaU:fU:={md:=[.rf]}
def aej:cX
 |[.ag [.sl .bs Yo]]=>.dG (nP ((Bk.mk Yo).b.length<=2199023255552)) [.sl .bs (Bk.mk Yo).b,.ag (Bk.cells (Bk.mk Yo))]
 |_=>.err
def ab1(n:Nat):cX
 |[.sl .fl l]=>.dG ((nP (bB.bD l<=1000000000000))&&nP ((2*bB.bD l+1)<n)) [.i .i64 ((Bs.fR l+5:Nat):Int)]
 |_=>.err
def amO:cX
 |[.ag [.i .i64 gi,.u64 gm,.u64 gj,.u64 gh,.s fZ,.s gg,.i .i64 gf,.sl .bs fY,.sl .fl gk]]=>.dG (nP ((bB.of [] (Val.mk gi gm gj gh fZ gg gf fY gk)).bC<=1000000000000)) [.i .i64 ((Bs.size (bB.of [] (Val.mk gi gm gj gh fZ gg gf fY gk)):Nat):Int)]
 |_=>.err
def aaO(n:Nat):cX
 |[.ag [.i .i64 gi,.u64 gm,.u64 gj,.u64 gh,.s fZ,.s gg,.i .i64 gf,.sl .bs fY,.sl .fl gk]]=>.dG ((nP ((bB.of [] (Val.mk gi gm gj gh fZ gg gf fY gk)).bC<=1000000000000))&&nP ((2*(bB.of [] (Val.mk gi gm gj gh fZ gg gf fY gk)).bC)<n)) [.i .i64 ((Bs.size (bB.of [] (Val.mk gi gm gj gh fZ gg gf fY gk)):Nat):Int)]
 |_=>.err
def alB:cX
 |[.ag [.i .i64 qQ,.i .i64 tO,.i .i64 yF]]=>.ok [.b (Bs.may (nB.mk qQ tO yF))]
 |_=>.err
def ad6:cX
 |[.ag [.pt],.s s,.sl .bs b]=>.dG (nP (b.length+s.length<=1099511627776)) [.ag [.pt],.sl .bs (b++(s++[0]))]
 |_=>.err
def alS:cX
 |[.ag [.pt],.s s,.sl .bs b]=>.dG (nP (b.length+s.length+10<=1099511627776)) [.ag [.pt],.sl .bs (b++Bs.o6 s)]
 |_=>.err
def anV:cX
 |[.ag [.pt],.sl .fl l,.sl .bs b]=>.dG (nP (b.length+30*bB.bD l+50<=1000000000000)) [.ag [.pt],.sl .bs (b++Bs.y7 l)]
 |_=>.err
def abe(n:Nat):cX
 |[.ag [.pt],.sl .fl l,.sl .bs b]=>.dG ((nP (b.length+30*bB.bD l+50<=1000000000000))&&nP ((2*bB.bD l+1)<n)) [.ag [.pt],.sl .bs (b++Bs.y7 l)]
 |_=>.err
def aAJ:cX
 |[.ag [.pt],.ag [.i .i64 gi,.u64 gm,.u64 gj,.u64 gh,.s fZ,.s gg,.i .i64 gf,.sl .bs fY,.sl .fl gk],.sl .bs b]=>.dG (nP (b.length+30*(bB.of [] (Val.mk gi gm gj gh fZ gg gf fY gk)).bC+30<=1000000000000)) [.ag [.pt],.sl .bs (b++Bs.enc (bB.of [] (Val.mk gi gm gj gh fZ gg gf fY gk)))]
 |_=>.err
def acO(n:Nat):cX
 |[.ag [.pt],.ag [.i .i64 gi,.u64 gm,.u64 gj,.u64 gh,.s fZ,.s gg,.i .i64 gf,.sl .bs fY,.sl .fl gk],.sl .bs b]=>.dG ((nP (b.length+30*(bB.of [] (Val.mk gi gm gj gh fZ gg gf fY gk)).bC+30<=1000000000000))&&nP ((2*(bB.of [] (Val.mk gi gm gj gh fZ gg gf fY gk)).bC)<n)) [.ag [.pt],.sl .bs (b++Bs.enc (bB.of [] (Val.mk gi gm gj gh fZ gg gf fY gk)))]
 |_=>.err
def amo:cX
 |[.ag [.i .i64 gi,.u64 gm,.u64 gj,.u64 gh,.s fZ,.s gg,.i .i64 gf,.sl .bs fY,.sl .fl gk]]=>.dG (nP ((bB.of [] (Val.mk gi gm gj gh fZ gg gf fY gk)).bC<=10000000000)) [.sl .bs (Bs.encode (Val.mk gi gm gj gh fZ gg gf fY gk)).1,.ag (ph.mk (Bs.encode (Val.mk gi gm gj gh fZ gg gf fY gk)).2.1 0 (Bs.encode (Val.mk gi gm gj gh fZ gg gf fY gk)).2.2).cells]
 |_=>.err
def amk:cX
 |[]=>.ok [.ag (nB.cells (nB.mk 200 65536 262144))]
 |_=>.err
def ael:cX
 |[.ag [.pt],.u64 v,.i .i64 n,.sl .bs b]=>.dG (nP (b.length<=1099511627776)) [.ag [.pt],.sl .bs (b++lD.high v n)]
 |_=>.err
def anW:cX
 |[.ag [.i .i64 jo,.u64 jm,.sl .bs jk,.s jl,.sl .il jq]]=>.dG (nP ((bI.of (cm.mk jo jm jk jl jq)).bC<=1099511627776)) [.b (Cb.dV (bI.of (cm.mk jo jm jk jl jq)))]
 |_=>.err
def anm:cX
 |[.ag [.i .i64 jo,.u64 jm,.sl .bs jk,.s jl,.sl .il jq]]=>.dG (nP ((bI.of (cm.mk jo jm jk jl jq)).bC<=1099511627776)) [.i .i64 (Cb.kU (bI.of (cm.mk jo jm jk jl jq)))]
 |_=>.err
def aa1(n:Nat):cX
 |[.ag [.i .i64 jo,.u64 jm,.sl .bs jk,.s jl,.sl .il jq]]=>.dG ((nP ((bI.of (cm.mk jo jm jk jl jq)).bC<=1099511627776))&&nP ((bI.of (cm.mk jo jm jk jl jq)).bC<n)) [.i .i64 (Cb.kU (bI.of (cm.mk jo jm jk jl jq)))]
 |_=>.err
def ad4:cX
 |[.s s]=>.ok [.ag (Db.text s).val.cells]
 |_=>.err
def ad0:cX
 |[.sl .bs b]=>.dG (nP (b.length<=1099511627776)) [.ag (Db.raw b).val.cells]
 |_=>.err
def aft:cX
 |[.u64 n]=>.ok [.ag (Db.plus n).val.cells]
 |_=>.err
def agu:cX
 |[.u64 n]=>.ok [.ag (Db.simple n).val.cells]
 |_=>.err
def ag3:cX
 |[.i .i64 v]=>.dG (nP (-9223372036854775808<=v/\v<=9223372036854775807)) [.ag (Db.integer v).val.cells]
 |_=>.err
def aok:cX
 |[.ag [.i .i64 gi,.u64 gm,.u64 gj,.u64 gh,.s fZ,.s gg,.i .i64 gf,.sl .bs fY,.sl .fl gk]]=>.ok [.ag (Db.raw (Db.words (Val.mk gi gm gj gh fZ gg gf fY gk).high (Val.mk gi gm gj gh fZ gg gf fY gk).low)).val.cells]
 |_=>.err
def aob:cX
 |[.sl .fl l]=>.dG (nP (bB.bD l<=1073741824)) [.ag (Db.map (Db.mapped l)).val.cells]
 |_=>.err
def aaw(n:Nat):cX
 |[.sl .fl l]=>.dG ((nP (bB.bD l<=1073741824))&&nP ((3*bB.bD l+3)<n)) [.ag (Db.map (Db.mapped l)).val.cells]
 |_=>.err
def aa8(n:Nat):cX
 |[.ag [.i .i64 gi,.u64 gm,.u64 gj,.u64 gh,.s fZ,.s gg,.i .i64 gf,.sl .bs fY,.sl .fl gk]]=>.dG ((nP ((bB.of [] (Val.mk gi gm gj gh fZ gg gf fY gk)).bC<=1073741824))&&nP ((3*(bB.of [] (Val.mk gi gm gj gh fZ gg gf fY gk)).bC+2)<n)) [.ag (Db.item (bB.of [] (Val.mk gi gm gj gh fZ gg gf fY gk))).val.cells]
 |_=>.err
def ac1(n:Nat):cX
 |[.ag [.i .i64 gi,.u64 gm,.u64 gj,.u64 gh,.s fZ,.s gg,.i .i64 gf,.sl .bs fY,.sl .fl gk]]=>.dG ((nP ((bB.of [] (Val.mk gi gm gj gh fZ gg gf fY gk)).bC<=1073741824))&&nP ((3*(bB.of [] (Val.mk gi gm gj gh fZ gg gf fY gk)).bC+1)<n)) [.ag (Db.tagged (Val.mk gi gm gj gh fZ gg gf fY gk) (Db.mapped (Val.mk gi gm gj gh fZ gg gf fY gk).kids)).val.cells]
 |_=>.err
def alV:cX
 |[.ag [.i .i64 gi,.u64 gm,.u64 gj,.u64 gh,.s fZ,.s gg,.i .i64 gf,.sl .bs fY,.sl .fl gk]]=>.dG (nP ((bB.of [] (Val.mk gi gm gj gh fZ gg gf fY gk)).bC<=1073741824)) [.ag (Db.enc (Val.mk gi gm gj gh fZ gg gf fY gk)).1.val.cells,.ag (Db.enc (Val.mk gi gm gj gh fZ gg gf fY gk)).2.cells]
 |_=>.err
def abS:fU:={md:=[.gv],own:=[1004]}
def agy:cX
 |[.sl .il l]=>.ok [.ag (Db.list l).val.cells]
 |_=>.err
def alL:cX
 |[.u64 n]=>.ok [.i .i64 (Cb.dK n)]
 |_=>.err
def am8:cX
 |[.ag [.pt],.i .i64 m,.u64 n,.sl .bs b]=>.dG (nP (0<=m/\m<=7/\b.length<=1099511627775)) [.ag [.pt],.sl .bs (b++Cb.head m n)]
 |_=>.err
def anS:cX
 |[.ag [.pt],.ag [.i .i64 jo,.u64 jm,.sl .bs jk,.s jl,.sl .il jq],.sl .bs b]=>.dG (nP (b.length+16*(bI.of (cm.mk jo jm jk jl jq)).bC<=1099511627776)&&nP (Cb.kU (bI.of (cm.mk jo jm jk jl jq))=0)) [.ag [.pt],.sl .bs (b++Cb.lay (bI.of (cm.mk jo jm jk jl jq)))]
 |_=>.err
def abd(n:Nat):cX
 |[.ag [.pt],.ag [.i .i64 jo,.u64 jm,.sl .bs jk,.s jl,.sl .il jq],.sl .bs b]=>.dG ((nP (b.length+16*(bI.of (cm.mk jo jm jk jl jq)).bC<=1099511627776)&&nP (Cb.kU (bI.of (cm.mk jo jm jk jl jq))=0))&&nP ((bI.of (cm.mk jo jm jk jl jq)).bC<n)) [.ag [.pt],.sl .bs (b++Cb.lay (bI.of (cm.mk jo jm jk jl jq)))]
 |_=>.err
def amp:cX
 |[.ag [.i .i64 jo,.u64 jm,.sl .bs jk,.s jl,.sl .il jq]]=>.dG (nP (16*(bI.of (cm.mk jo jm jk jl jq)).bC<=1099511627776)) [.sl .bs (Cb.enc (bI.of (cm.mk jo jm jk jl jq))).1,.i .i64 (Cb.enc (bI.of (cm.mk jo jm jk jl jq))).2]
 |_=>.err
def alz:cX
 |[.i .i64 n]=>.dG (nP (0<=n/\n<=1099511627776)) [.b (nP (n<4294967296))]
 |_=>.err
def aou:cX
 |[.ag [.i .i64 jo,.u64 jm,.sl .bs jk,.s jl,.sl .il jq]]=>.dG (nP ((bI.of (cm.mk jo jm jk jl jq)).bC<=1099511627776)) [.b (Mp.dV (bI.of (cm.mk jo jm jk jl jq)))]
 |_=>.err
def anq:cX
 |[.ag [.i .i64 jo,.u64 jm,.sl .bs jk,.s jl,.sl .il jq]]=>.dG (nP ((bI.of (cm.mk jo jm jk jl jq)).bC<=1099511627776)) [.i .i64 (Mp.kU (bI.of (cm.mk jo jm jk jl jq)))]
 |_=>.err
def aa4(n:Nat):cX
 |[.ag [.i .i64 jo,.u64 jm,.sl .bs jk,.s jl,.sl .il jq]]=>.dG ((nP ((bI.of (cm.mk jo jm jk jl jq)).bC<=1099511627776))&&nP ((bI.of (cm.mk jo jm jk jl jq)).bC<n)) [.i .i64 (Mp.kU (bI.of (cm.mk jo jm jk jl jq)))]
 |_=>.err
def aml:cX
 |[.u64 n]=>.ok [.ag [.i .i64 (Mp.kj n).1,.i .i64 (Mp.kj n).2]]
 |_=>.err
def amb:cX
 |[.u64 n]=>.ok [.ag [.i .i64 (Mp.signed n).1,.i .i64 (Mp.signed n).2]]
 |_=>.err
def alx:cX
 |[.i .i64 k,.i .i64 n]=>.dG (Mp.tz k&&nP (0<=n/\n<4294967296)) [.ag [.i .i64 (Mp.sized k n).1,.i .i64 (Mp.sized k n).2]]
 |_=>.err
def alG:cX
 |[.ag [.pt],.ag [.i .i64 Wc,.i .i64 QV],.u64 n,.sl .bs b]=>.dG (nP (b.length+10<=1099511627776)) [.ag [.pt],.sl .bs (b++Mp.put ((wS.mk Wc QV).at_,(wS.mk Wc QV).end_) n)]
 |_=>.err
def ani:cX
 |[.ag [.pt],.ag [.i .i64 jo,.u64 jm,.sl .bs jk,.s jl,.sl .il jq],.sl .bs b]=>.dG (nP (b.length+16*(bI.of (cm.mk jo jm jk jl jq)).bC<=1099511627776)&&nP (Mp.kU (bI.of (cm.mk jo jm jk jl jq))=0)) [.ag [.pt],.sl .bs (b++Mp.lay (bI.of (cm.mk jo jm jk jl jq)))]
 |_=>.err
def aaZ(n:Nat):cX
 |[.ag [.pt],.ag [.i .i64 jo,.u64 jm,.sl .bs jk,.s jl,.sl .il jq],.sl .bs b]=>.dG ((nP (b.length+16*(bI.of (cm.mk jo jm jk jl jq)).bC<=1099511627776)&&nP (Mp.kU (bI.of (cm.mk jo jm jk jl jq))=0))&&nP ((bI.of (cm.mk jo jm jk jl jq)).bC<n)) [.ag [.pt],.sl .bs (b++Mp.lay (bI.of (cm.mk jo jm jk jl jq)))]
 |_=>.err
def agh:cX
 |[.ag [.i .i64 jo,.u64 jm,.sl .bs jk,.s jl,.sl .il jq]]=>.dG (nP ((bI.of (cm.mk jo jm jk jl jq)).bC<=1073741824)) [.sl .bs (Mp.enc (bI.of (cm.mk jo jm jk jl jq))),.i .i64 (Mp.kU (bI.of (cm.mk jo jm jk jl jq)))]
 |_=>.err
def afw:cX
 |[.s s]=>.ok [.ag (Db.text s).val.cells]
 |_=>.err
def ama:cX
 |[.u64 n]=>.ok [.ag (Db.simple n).val.cells]
 |_=>.err
def amv:cX
 |[.u64 v,.i .i64 n]=>.dG (nP (0<=n/\n<=8)) [.sl .bs (lD.gE v n.toNat)]
 |_=>.err
def amm:cX
 |[.i .i64 v]=>.dG (nP (-9223372036854775808<=v/\v<=9223372036854775807)) [.ag (Db.integer v).val.cells]
 |_=>.err
def aod:cX
 |[.sl .fl l]=>.dG (nP (bB.bD l<=1048576)&&Tree.kN l) [.ag (Db.map (Dk.mapped l)).val.cells]
 |_=>.err
def aax(n:Nat):cX
 |[.sl .fl l]=>.dG ((nP (bB.bD l<=1048576)&&Tree.kN l)&&nP ((4*bB.bD l+3)<n)) [.ag (Db.map (Dk.mapped l)).val.cells]
 |_=>.err
def abL(n:Nat):cX
 |[.sl .fl l]=>.dG ((nP (bB.bD l<=1048576)&&Tree.kN l)&&nP ((4*bB.bD l+4)<n)) [.sl .bs (Mp.lay (Db.map (Dk.mapped l)))]
 |_=>.err
def abb(n:Nat):cX
 |[.ag [.i .i64 gi,.u64 gm,.u64 gj,.u64 gh,.s fZ,.s gg,.i .i64 gf,.sl .bs fY,.sl .fl gk]]=>.dG ((nP ((bB.of [] (Val.mk gi gm gj gh fZ gg gf fY gk)).bC<=1048576)&&Tree.pk (bB.of [] (Val.mk gi gm gj gh fZ gg gf fY gk)))&&nP ((4*(bB.of [] (Val.mk gi gm gj gh fZ gg gf fY gk)).bC+2)<n)) [.ag (Dk.item (bB.of [] (Val.mk gi gm gj gh fZ gg gf fY gk))).val.cells]
 |_=>.err
def acU(n:Nat):cX
 |[.ag [.i .i64 gi,.u64 gm,.u64 gj,.u64 gh,.s fZ,.s gg,.i .i64 gf,.sl .bs fY,.sl .fl gk]]=>.dG ((nP ((bB.of [] (Val.mk gi gm gj gh fZ gg gf fY gk)).bC<=1048576)&&Tree.pk (bB.of [] (Val.mk gi gm gj gh fZ gg gf fY gk)))&&nP ((4*(bB.of [] (Val.mk gi gm gj gh fZ gg gf fY gk)).bC+1)<n)) [.sl .bs (Dk.inner (Val.mk gi gm gj gh fZ gg gf fY gk) (Mp.lay (Db.map (Dk.mapped (Val.mk gi gm gj gh fZ gg gf fY gk).kids))))]
 |_=>.err
def alM:cX
 |[.i .i64 k]=>.ok [.u64 (Dk.sort k)]
 |_=>.err
def alW:cX
 |[.ag [.i .i64 gi,.u64 gm,.u64 gj,.u64 gh,.s fZ,.s gg,.i .i64 gf,.sl .bs fY,.sl .fl gk]]=>.dG (nP ((bB.of [] (Val.mk gi gm gj gh fZ gg gf fY gk)).bC<=1048576)) [.ag (Dk.enc (Val.mk gi gm gj gh fZ gg gf fY gk)).1.val.cells,.ag (Dk.enc (Val.mk gi gm gj gh fZ gg gf fY gk)).2.cells]
 |_=>.err
def alF:cX
 |[.i .i64 f,.ag [.i .i64 qQ,.i .i64 tO,.i .i64 yF]]=>.ok [.b (nP (1<=f/\f<=5)&&Bs.may (nB.mk qQ tO yF))]
 |_=>.err
def alY:cX
 |[.i .i64 f,.ag [.i .i64 gi,.u64 gm,.u64 gj,.u64 gh,.s fZ,.s gg,.i .i64 gf,.sl .bs fY,.sl .fl gk]]=>.dG (nP (1<=f/\f<=5)&&nP ((bB.of [] (Val.mk gi gm gj gh fZ gg gf fY gk)).bC<=100000)) [.sl .bs (La.laid f (Val.mk gi gm gj gh fZ gg gf fY gk)).1,.ag (La.laid f (Val.mk gi gm gj gh fZ gg gf fY gk)).2.cells]
 |_=>.err
def amg:cX
 |[.i .i64 f,.ag [.i .i64 qQ,.i .i64 tO,.i .i64 yF],.ag [.i .i64 gi,.u64 gm,.u64 gj,.u64 gh,.s fZ,.s gg,.i .i64 gf,.sl .bs fY,.sl .fl gk]]=>.dG (nP ((bB.of [] (Val.mk gi gm gj gh fZ gg gf fY gk)).bC<=100000)) [.sl .bs (La.write f (nB.mk qQ tO yF) (Val.mk gi gm gj gh fZ gg gf fY gk)).1,.sl .pD (La.write f (nB.mk qQ tO yF) (Val.mk gi gm gj gh fZ gg gf fY gk)).2.1,.ag (La.write f (nB.mk qQ tO yF) (Val.mk gi gm gj gh fZ gg gf fY gk)).2.2.cells]
 |_=>.err
end Go.Eng
set_option maxRecDepth 100000
namespace Go.Eng
open Go.Proofs
variable{ρ:OT}
def eD:cz:=cP gz zs []
def anR:Hint:=.s .o (.s .o (.s (.s .o (.b (.l [(3,.dB 800000),(10,.no),(11,.no),(12,.no),(800000,.pv)] .o))) .o))
def awN(b:List UInt8):OT:=bT PG eD 229 bz anR [.sl .bs b]
def acK(x0:List UInt8)(x1 x2:Int)(x3:List UInt8):OT:=de PG eD 229 bz anR 43 [.pt,.sl .bs x0,.i .i64 x1,.i .i64 x2,.sl .bs x3]
theorem akx(x0:List UInt8)(x1 x2:Int)(x3:List UInt8)(K:∀v1,v1=List.getD x0 x2.toNat 0->∀v2,v2=oF v1 (4:UInt64).toNat->∀v3,v3=List.getD [48,49,50,51,52,53,54,55,56,57,97,98,99,100,101,102] (v2.toNat:Int).toNat 0->∀v4,v4=List.getD [48,49,50,51,52,53,54,55,56,57,97,98,99,100,101,102] ((v1&&&15).toNat:Int).toNat 0->∀v5,v5=x3++([v3,v4]:List UInt8)->∀v6,v6=IntKind.i64.wrap (x2+1)->cond (nP (x2<x1)) (ck (bH x2 x0.length) (ck (bH (v2.toNat:Int) ([48,49,50,51,52,53,54,55,56,57,97,98,99,100,101,102]:bE).length) (ck (bH ((v1&&&15).toNat:Int) ([48,49,50,51,52,53,54,55,56,57,97,98,99,100,101,102]:bE).length) (ck (dU (x3.length+([v3,v4]:List UInt8).length) 1) (acK x0 x1 v6 v5))))) (Bm [.s x3])=ρ):acK x0 x1 x2 x3=ρ:=mY (by kernel_rfl) (jL (qv K:):)
theorem awM(b:List UInt8)(K:∀v1,v1=IntKind.i64.wrap (2*(b.length:Int))->∀v2,v2=List.replicate (0:Int).toNat 0->ck (tJ 0 v1 1) (acK b (b.length:Int) 0 v2)=ρ):awN b=ρ:=Eq.trans (by kernel_rfl) (nY K:)
def ao7(r:Int):OT:=bT PG eD 235 bz (.o) [.i .i64 r]
theorem ao6(r:Int)(K:∀v1,v1=cond (nP (0<=r)) (nP (r<=1114111)) Qg->∀v2,v2=(v1&&(!(nP (r<55296))))->∀v3,v3=cond (nP (r<55296)) Qf (nP (57343<r))->ck (!(nP (0<=r))||(nP (0<=r))) (ck (!(nP (0<=r))||(nP (0<=r))) (ck (!v1||v1) (ck (!v1||v1) (ck (!v2||v2) (ck (!v1||(v1&&((nP (r<55296))||v2))) (ck (!v1||v1) (Bm [.b (cond v1 v3 Qg)])))))))=ρ):ao7 r=ρ:=Eq.trans (by kernel_rfl) (uJ K:)
def aiS:cz:=cP gz zs [(235,alC,bz)]
def aeJ:Hint:=.s .o (.sc [(0,(sc [])),(1,(sc [0,1,4,7,8,9]))] (.s .o (.s .o (.s .o (.j (sc [0,1,4,7,8]) .o .o)))))
def ayW(b:List UInt8)(at_:Int):OT:=bT PG aiS 191 bP aeJ [.sl .bs b,.i .i64 at_]
def Ye:OT:=B0 PG aiS 191 bP aeJ 3 0 []
def aaA(x0:List UInt8)(x1 x2 x3 x4:Int):OT:=dj PG aiS 191 bP aeJ 61 [.sl .bs x0,.i .i64 x1,.i .i64 x2,.i .i64 x3,.i .i64 x4]
def ado(x0:List UInt8)(x1:Int)(x2:Int)(x3:Int)(x4:Int)(x5:Int):OT:=B0 PG aiS 191 bP aeJ 3 1 [(.sl .bs x0),(.i .i64 x1),(.i .i64 x2),(.i .i64 x3),(.i .i64 x4),(.i .i64 x5)]
theorem aaB:Ye=Bm [.i .i64 0,.i .i64 0]:=((AG _ _ _ _ _ _ _ _).trans (by kernel_rfl))
theorem alf(x0:List UInt8)(x1 x2 x3 x4:Int)(K:∀v1,v1=IntKind.i64.wrap ((x0.length:Int) -x1)->∀v2,v2=IntKind.i64.wrap (v1 -1)->∀v3,v3=IntKind.i64.wrap (x1+1)->∀v4,v4=List.getD x0 v3.toNat 0->∀v5,v5=!decide ((v4&&&192)=128)->∀v6,v6=IntKind.i64.wrap (x2*2^(min (6:UInt64).toNat (IntKind.i64.bits)))->∀v7,v7=IntKind.i64.wrap ((v4&&&63).toNat:Int)->∀v8,v8=IntKind.i64.wrap (1+1)->∀v9,v9=cond (nP (x2<x4)) Qf (!(fJ.qR x2))->∀v10,v10=IntKind.i64.wrap (x3+1)->cond (nP (v2<x3)) Ye (cond (nP (1<=x3)) (ck (bH v3 x0.length) (cond v5 Ye (ck (bH v3 x0.length) (ado x0 x1 (da .or .i64 v6 v7) x3 x4 v8)))) (ck (!(!(nP (x2<x4)))||(!(nP (x2<x4)))) (ck (!(!(nP (x2<x4)))||(!(nP (x2<x4)))) (ck ((nP (x2<x4))||(!(nP (x2<x4)))) (cond v9 Ye (Bm [.i .i64 x2,.i .i64 v10]))))))=ρ):aaA x0 x1 x2 x3 x4=ρ:=oa (by kernel_rfl) (jL (jL K:):)
theorem aeK(x0:List UInt8)(x1 x2 x3 x4 x5:Int)(K:∀v1,v1=List.getD x0 (IntKind.i64.wrap (x1+x5)).toNat 0->∀v2,v2=!decide ((v1&&&192)=128)->∀v3,v3=IntKind.i64.wrap (x2*2^(min (6:UInt64).toNat (IntKind.i64.bits)))->∀v4,v4=IntKind.i64.wrap ((v1&&&63).toNat:Int)->∀v5,v5=IntKind.i64.wrap (x5+1)->∀v6,v6=cond (nP (x2<x4)) Qf (!(fJ.qR x2))->∀v7,v7=IntKind.i64.wrap (x3+1)->cond (nP (x5<=x3)) (ck (bH (IntKind.i64.wrap (x1+x5)) x0.length) (cond v2 Ye (ck (bH (IntKind.i64.wrap (x1+x5)) x0.length) (ado x0 x1 (da .or .i64 v3 v4) x3 x4 v5)))) (ck (!(!(nP (x2<x4)))||(!(nP (x2<x4)))) (ck (!(!(nP (x2<x4)))||(!(nP (x2<x4)))) (ck ((nP (x2<x4))||(!(nP (x2<x4)))) (cond v6 Ye (Bm [.i .i64 x2,.i .i64 v7])))))=ρ):ado x0 x1 x2 x3 x4 x5=ρ:=((AG _ _ _ _ _ _ _ _).trans (by kernel_rfl)).trans (jL (nY K:):)
theorem ayU(b:List UInt8)(at_:Int)(K:∀v1,v1=cond (nP (at_<0)) Qf (nP ((b.length:Int)<=at_))->∀v2,v2=List.getD b at_.toNat 0->∀v3,v3=IntKind.i64.wrap (v2.toNat:Int)->∀v4,v4=cond (nP (192<=v3)) (nP (v3<224)) Qg->∀v5,v5=da .and .i64 v3 31->∀v6,v6=cond (nP (224<=v3)) (nP (v3<240)) Qg->∀v7,v7=da .and .i64 v3 15->∀v8,v8=cond (nP (240<=v3)) (nP (v3<248)) Qg->∀v9,v9=da .and .i64 v3 7->ck (!(!(nP (at_<0)))||(!(nP (at_<0)))) (ck (!(!(nP (at_<0)))||((!(nP (at_<0)))&&(!(nP (at_<0))))) (ck ((nP (at_<0))||(!(nP (at_<0)))) (cond v1 Ye (ck (bH at_ b.length) (cond (nP (v3<128)) (Bm [.i .i64 v3,.i .i64 1]) (ck (!(nP (192<=v3))||(nP (192<=v3))) (ck (!(nP (192<=v3))||(nP (192<=v3))) (cond v4 (aaA b at_ v5 1 128) (ck (!(nP (224<=v3))||(nP (224<=v3))) (ck (!(nP (224<=v3))||(nP (224<=v3))) (cond v6 (aaA b at_ v7 2 2048) (ck (!(nP (240<=v3))||(nP (240<=v3))) (ck (!(nP (240<=v3))||(nP (240<=v3))) (cond v8 (aaA b at_ v9 3 65536) Ye))))))))))))))=ρ):ayW b at_=ρ:=Eq.trans (by kernel_rfl) (jL (vg K:):)
def an5:cz:=cP gz zs [(191,aoB,bP)]
def aij:Hint:=.s .o (.j (sc [2,3]) (.b (.l (sc [0,2,3]) .o)) .o)
def axk(b:List UInt8):OT:=bT PG an5 136 bP aij [.sl .bs b]
def acQ(x0:List UInt8)(x1 x2:Int):OT:=de PG an5 136 bP aij 9 [.sl .bs x0,.i .i64 x1,.i .i64 x2]
def aey(x0 x1:Int):OT:=dj PG an5 136 bP aij 3 [.i .i64 x0,.i .i64 x1]
theorem aez(x0:List UInt8)(x1 x2:Int)(K:∀v1,v1=IntKind.i64.wrap (x1+(fJ.qB x0 x1).2)->∀v2,v2=IntKind.i64.wrap (x2+1)->cond (nP (x1<(x0.length:Int))) (ck (nP (x0.length<=1099511627776)) (cond (nP ((fJ.qB x0 x1).2=0)) (aey x1 x2) (acQ x0 v1 v2))) (aey x1 x2)=ρ):acQ x0 x1 x2=ρ:=mY (by kernel_rfl) (nY K:)
theorem aex(x0 x1:Int):aey x0 x1=Bm [.i .i64 x0,.i .i64 x1]:=oa (by kernel_rfl) rfl
theorem axj(b:List UInt8):axk b=acQ b 0 0:=by kernel_rfl
def aAE:cz:=cP gz zs [(136,an4,bP)]
def at5(b:List UInt8):OT:=bT PG aAE 84 bP (.o) [.sl .bs b]
theorem at4(b:List UInt8):at5 b=ck (nP (b.length<=1099511627776)) (Bm [.i .i64 ((fJ.look b).1:Int),.b (nP (((fJ.look b).1:Int)=(b.length:Int)))]):=by kernel_rfl
def auq(s:bE)(c:UInt8):OT:=bT PG eD 284 bz (.o) [.s s,.u8 c]
theorem aup(s:bE)(c:UInt8):auq s c=Bm [.i .i64 (Lib.indexByte s c)]:=by kernel_rfl
def aAb:cz:=cP gz zs [(284,ahe,bz)]
def aq3(s t:bE):OT:=bT PG aAb 260 bz (.o) [.s s,.s t]
theorem aq2(s t:bE)(K:∀v1,v1=cond (nP ((t.length:Int)=0)) Qf (nP (t=s))->∀v2,v2=List.getD t (0:Int).toNat 0->ck (!(!(nP ((t.length:Int)=0)))||((!(nP ((t.length:Int)=0)))&&(!(nP ((t.length:Int)=0))))) (ck ((nP ((t.length:Int)=0))||(!(nP ((t.length:Int)=0)))) (cond v1 (Bm [.i .i64 0]) (cond (nP ((t.length:Int)=1)) (ck (bH 0 t.length) (Bm [.i .i64 (Lib.indexByte s v2)])) (cond (nP ((s.length:Int)<=(t.length:Int))) (Bm [.i .i64 (-1)]) Kk))))=ρ):aq3 s t=ρ:=Eq.trans (by kernel_rfl) (nY K:)
def aAc:cz:=cP gz zs [(260,al8,bz)]
def aq6(s t:bE):OT:=bT PG aAc 213 bz (.o) [.s s,.s t]
theorem aq5(s t:bE)(K:∀v1,v1=Lib.indexByte s (t.getD 0 0)->ck (nP (t.length=1)) (Bm [.i .i64 v1])=ρ):aq6 s t=ρ:=Eq.trans (by kernel_rfl) (qv K:)
def aAx:cz:=cP gz zs [(213,al9,bz)]
def asU(s t:bE):OT:=bT PG aAx 163 bz (.o) [.s s,.s t]
theorem asT(s t:bE)(K:∀v1,v1=Lib.indexByte s (t.getD 0 0)->ck (nP (t.length=1)) (Bm [.b (nP (0<=v1))])=ρ):asU s t=ρ:=Eq.trans (by kernel_rfl) (qv K:)
def atW(l:List Int):OT:=bT PG eD 96 aaR (.o) [.sl .is l]
theorem atV(l:List Int):atW l=cond (List.isEmpty l) (both (Bm [.sl .is ([]:List Int),.sl .is l]) (ck (dU (([]:List Int).length+l.length) 8) (Bm [.sl .is (([]:List Int)++l),.sl .is l]))) (ck (dU (([]:List Int).length+l.length) 8) (Bm [.sl .is (([]:List Int)++l),.sl .is l])):=by kernel_rfl
def arh(k:Int):OT:=bT PG eD 105 bz (.o) [.i .i64 k]
theorem arf(k:Int)(K:∀(v1:Bool)(h1:v1=(cond (nP (k<(0:Int))) Qf (nP ((20:Int)<=k))))(v2:bE)(h2:v2=(List.getD [([]:bE),([100,111,117,98,108,101]:bE),([115,116,114,105,110,103]:bE),([100,111,99,117,109,101,110,116]:bE),([97,114,114,97,121]:bE),([98,105,110,97,114,121]:bE),([117,110,100,101,102,105,110,101,100]:bE),([111,98,106,101,99,116,105,100]:bE),([98,111,111,108]:bE),([100,97,116,101]:bE),([110,117,108,108]:bE),([114,101,103,101,120]:bE),([112,111,105,110,116,101,114]:bE),([99,111,100,101]:bE),([115,121,109,98,111,108]:bE),([115,99,111,112,101,100]:bE),([105,110,116,51,50]:bE),([116,105,109,101,115,116,97,109,112]:bE),([105,110,116,54,52]:bE),([100,101,99,105,109,97,108]:bE)] ((k).toNat) ([]:bE))),cond (nP (k=(127:Int))) (Bm [(.s ([109,97,120,107,101,121]:bE))]) (cond (nP (k=(255:Int))) (Bm [(.s ([109,105,110,107,101,121]:bE))]) (ck (!(!(nP (k<(0:Int))))||(!(nP (k<(0:Int))))) (ck ((nP (k<(0:Int)))||(!(nP (k<(0:Int))))) (cond v1 (Bm [(.s [])]) (ck (bH k 20) (ck (nP ((k).toNat<20)) (Bm [(.s v2)])))))))=ρ):arh k=ρ:=Eq.trans (by kernel_rfl) (K _ rfl _ rfl)
def adL:Hint:=.s .o (.s .o (.j [(1,.ptr 116 0),(3,.no),(116,.cl [])] (.s .o (.b (.j [(1,.ptr 116 0),(3,.no),(5,.no),(6,.no),(116,.cl [])] .o (.s .o (.s .o (.s .o (.s .o (.s .o (.s .o (.s .o (.j [(1,.ptr 116 0),(3,.no),(5,.no),(28,.no),(116,.cl [])] .o (.s .o (.s .o (.s .o (.s .o (.s .o (.s .o (.s .o (.s .o (.s .o (.j [(1,.ptr 116 0),(3,.no),(5,.no),(64,.no),(116,.cl [])] .o .o))))))))))))))))))))) .o))
def azs(v:Val):OT:=bT PG eD 122 bz adL [.ag v.cells]
def abE(x0:Bool)(x1:Int)(x2:Bool)(x3:Val):OT:=dj PG eD 122 bz adL 43 [.pt,.b x0,.i .i64 x1,.b x2,.ag x3.cells]
def UI(x0:Bool)(x1:Val):OT:=dj PG eD 122 bz adL 7 [.pt,.b x0,.ag x1.cells]
def abD(x0:Bool)(x1:Int)(x2:Bool)(x3:Val):OT:=dj PG eD 122 bz adL 16363 [.pt,.b x0,.i .i64 x1,.b x2,.ag x3.cells]
def abC(x0:Bool)(x1:Int)(x2:Bool)(x3:Val):OT:=dj PG eD 122 bz adL 16777195 [.pt,.b x0,.i .i64 x1,.b x2,.ag x3.cells]
theorem azp(x0:Bool)(x1:Int)(x2:Bool)(x3:Val):abE x0 x1 x2 x3=cond x2 (UI x0 (Val.mk x3.kind 0 x3.high x3.low x3.text x3.more x3.sub x3.bytes x3.kids)) (cond (nP (x1=16)) (UI (nP (x3.bits<4294967296)) (Val.mk x3.kind 0 x3.high x3.low x3.text x3.more x3.sub x3.bytes x3.kids)) (cond (nP (x1=8)) (UI (nP (x3.bits<2)) (Val.mk x3.kind 0 x3.high x3.low x3.text x3.more x3.sub x3.bytes x3.kids)) (cond (nP (x1=19)) (UI x0 (Val.mk x3.kind x3.bits 0 0 x3.text x3.more x3.sub x3.bytes x3.kids)) (cond (nP (x1=2)) (abD x0 x1 (nP (x1=2)) x3) (cond (nP (x1=13)) (abD x0 x1 (nP (x1=13)) x3) (abD x0 x1 (nP (x1=14)) x3)))))):=oa (by kernel_rfl) rfl
theorem azq(x0:Bool)(x1:Val)(K:∀v1,v1=cond x0 (nP (x1.bits=0)) Qg->∀v2,v2=cond v1 (nP (x1.high=0)) Qg->∀v3,v3=cond v2 (nP (x1.low=0)) Qg->∀v4,v4=cond v3 (nP (x1.text=[])) Qg->∀v5,v5=cond v4 (nP (x1.more=[])) Qg->∀v6,v6=cond v5 (nP (x1.sub=0)) Qg->∀v7,v7=(x1.bytes.length:Int)->∀v8,v8=cond v6 (nP (v7=0)) Qg->∀v9,v9=(x1.kids.length:Int)->∀v10,v10=cond v8 (nP (v9=0)) Qg->ck (!x0||x0) (ck (!x0||x0) (ck (!x0||x0) (ck (!v1||v1) (ck (!v1||v1) (ck (!v1||v1) (ck (!v2||v2) (ck (!v2||v2) (ck (!v2||v2) (ck (!v3||v3) (ck (!v3||v3) (ck (!v3||v3) (ck (!v4||v4) (ck (!v4||v4) (ck (!v4||v4) (ck (!v5||v5) (ck (!v5||v5) (ck (!v5||v5) (ck (!v6||v6) (ck (!v6||v6) (ck (!v6||v6) (ck (!v6||v6) (ck (!v8||v8) (ck (!v8||v8) (ck (!v8||v8) (ck (!v8||v8) (Bm [.b v10]))))))))))))))))))))))))))=ρ):UI x0 x1=ρ:=oa (by kernel_rfl) (jL (jL K:):)
theorem azn(x0:Bool)(x1:Int)(x2:Bool)(x3:Val)(K:∀v1,v1=cond (nP (0<=x3.sub)) (nP (x3.sub<=255)) Qg->∀v2,v2=(x3.bytes.length:Int)->cond x2 (UI x0 (Val.mk x3.kind x3.bits x3.high x3.low [] x3.more x3.sub x3.bytes x3.kids)) (cond (nP (x1=11)) (UI x0 (Val.mk x3.kind x3.bits x3.high x3.low [] [] x3.sub x3.bytes x3.kids)) (cond (nP (x1=5)) (ck (!(nP (0<=x3.sub))||(nP (0<=x3.sub))) (ck (!(nP (0<=x3.sub))||(nP (0<=x3.sub))) (ck (!(nP (0<=x3.sub))||(nP (0<=x3.sub))) (UI v1 (Val.mk x3.kind x3.bits x3.high x3.low x3.text x3.more 0 [] x3.kids))))) (cond (nP (x1=7)) (UI (nP (v2=12)) (Val.mk x3.kind x3.bits x3.high x3.low x3.text x3.more x3.sub [] x3.kids)) (cond (nP (x1=12)) (UI (nP (v2=12)) (Val.mk x3.kind x3.bits x3.high x3.low [] x3.more x3.sub [] x3.kids)) (cond (nP (x1=3)) (abC x0 x1 (nP (x1=3)) x3) (abC x0 x1 (nP (x1=4)) x3))))))=ρ):abD x0 x1 x2 x3=ρ:=oa (by kernel_rfl) (nY K:)
theorem azt(x0:Bool)(x1:Int)(x2:Bool)(x3:Val):abC x0 x1 x2 x3=cond x2 (UI x0 (Val.mk x3.kind x3.bits x3.high x3.low x3.text x3.more x3.sub x3.bytes [])) (cond (nP (x1=15)) (UI x0 (Val.mk x3.kind x3.bits x3.high x3.low [] x3.more x3.sub x3.bytes [])) (UI x0 x3)):=oa (by kernel_rfl) rfl
theorem azr(v:Val):azs v=cond (nP (v.kind=1)) (abE Qf v.kind (nP (v.kind=1)) v) (cond (nP (v.kind=9)) (abE Qf v.kind (nP (v.kind=9)) v) (cond (nP (v.kind=17)) (abE Qf v.kind (nP (v.kind=17)) v) (abE Qf v.kind (nP (v.kind=18)) v))):=by kernel_rfl
def aAz:cz:=cP gz zs [(84,adE,bP),(163,amy,bz)]
def as0(s:bE)(plain:Bool):OT:=bT PG aAz 123 bz (.o) [.s s,.b plain]
theorem asZ(s:bE)(plain:Bool)(K:∀v1,v1=cond plain (nP (0<=Lib.indexByte s (([0]:bE).getD 0 0))) Qg->∀v2,v2=cond (fJ.whole s) (!v1) Qg->ck (mZ s.length) (ck (nP (s.length<=1099511627776)) (ck (!(fJ.whole s)||(fJ.whole s)) (ck (!((fJ.whole s)&&plain)||(((fJ.whole s)&&plain)&&(nP (([0]:bE).length=1)))) (ck (!(fJ.whole s)||((fJ.whole s)&&(!plain||((fJ.whole s)&&plain)))) (ck (!(fJ.whole s)||(fJ.whole s)) (ck (!(fJ.whole s)||(fJ.whole s)) (Bm [.b v2])))))))=ρ):as0 s plain=ρ:=Eq.trans (by kernel_rfl) (nY K:)
def aw7(n:Nat):cz:=cP gz zs [(69,abg n,aas),(96,aef,aaR),(105,amc,bz),(122,aoE,bz),(123,amA,bz)] [139]
def anX:Hint:=.s .o (.s .o (.s .o (.s (.s .o (.b (.l [(2,.dB 1000002),(50,.no),(51,.no),(52,.no),(1000002,.pv)] .o))) .o)))
def aw6(n:Nat)(v:Val)(name:bE)(path:List Int):OT:=bT PG (aw7 n) 69 aas anX [.ag v.cells,.s name,.sl .is path]
def acN(n:Nat)(x0:List bB)(x1 x2:Int)(x3:List Int):OT:=de PG (aw7 n) 69 aas anX 87 [.pt,.sl .fl x0,.i .i64 x1,.i .i64 x2,.sl .is x3]
theorem akB(n:Nat)(x0:List bB)(x1 x2:Int)(x3:List Int)(K:∀v1,v1=List.getD x0 x2.toNat (eu.dH .fl)->∀v2,v2=(Tree.gw (bB.of v1.name v1.val) (x3++([x2]:List Int))).1->∀v3,v3=(Tree.gw (bB.of v1.name v1.val) (x3++([x2]:List Int))).2->∀v4,v4=IntKind.i64.wrap (x2+1)->cond (nP (x2<x1)) (ck (bH x2 x0.length) (ck (dU (x3.length+([x2]:List Int).length) 8) (ck ((nP ((bB.of v1.name v1.val).bC+(x3++([x2]:List Int)).length<=1099511627776))&&nP ((bB.of v1.name v1.val).bC<n)) (cond (!decide (v3=0)) (Bm [.sl .is v2,.i .i64 v3,.sl .is x3]) (acN n x0 x1 v4 x3))))) (Bm [.sl .is ([]:List Int),.i .i64 0,.sl .is x3])=ρ):acN n x0 x1 x2 x3=ρ:=mY (by kernel_rfl) (vg K:)
theorem aw5(n:Nat)(v:Val)(name:bE)(path:List Int)(K:∀v1,v1=Tree.gP v.text (nP (v.kind=11))->∀v2,v2=Tree.gP v.more (nP (v.kind=11))->∀v3,v3=cond (cond (!v1) Qf (!v2)) Qf (!(Tree.gP name Qf))->∀v4,v4=(v.kids.length:Int)->cond (nP ((Tree.name v.kind)=[])) (ck (dU path.length 8) (Bm [.sl .is path,.i .i64 5,.sl .is path])) (cond (!(Tree.dV v)) (ck (dU path.length 8) (Bm [.sl .is path,.i .i64 1,.sl .is path])) (ck (nP (v.text.length<=1099511627776)) (ck (!(!(!v1))||(!(!v1))) (ck (!(!(!v1))||(((!(!v1))&&(!(!v1)))&&(nP (v.more.length<=1099511627776)))) (ck (!(!(!v1))||(!(!v1))) (ck ((!v1)||(!(!v1))) (ck (!(!(cond (!v1) Qf (!v2)))||((!(cond (!v1) Qf (!v2)))&&(nP (name.length<=1099511627776)))) (ck (!(!(cond (!v1) Qf (!v2)))||(!(cond (!v1) Qf (!v2)))) (ck ((cond (!v1) Qf (!v2))||(!(cond (!v1) Qf (!v2)))) (cond v3 (ck (dU path.length 8) (Bm [.sl .is path,.i .i64 4,.sl .is path])) (acN n v.kids v4 0 path)))))))))))=ρ):aw6 n v name path=ρ:=Eq.trans (by kernel_rfl) (vg K:)
def aAI:cz:=cP gz zs [(69,anY,aas)]
def au8(v:Val):OT:=bT PG aAI 44 bP (.o) [.ag v.cells]
theorem au7(v:Val)(K:∀v1,v1=(Tree.gw (bB.of [] v) ([]:List Int)).1->∀v2,v2=(Tree.gw (bB.of [] v) ([]:List Int)).2->ck (nP ((bB.of [] v).bC+([]:List Int).length<=1099511627776)) (Bm [.sl .is v1,.i .i64 v2])=ρ):au8 v=ρ:=Eq.trans (by kernel_rfl) (nY K:)
def ax1(n:Nat):cz:=cP gz zs [(55,abn n,bz)]
def aoi:Hint:=.s .o (.s .o (.s .o (.s (.s .o (.b (.l (sc [3,20,21,22]) .o))) .o)))
def ax0(n:Nat)(v:Val):OT:=bT PG (ax1 n) 55 bz aoi [.ag v.cells]
def ac3(n:Nat)(x0:Int)(x1:List bB)(x2 x3:Int):OT:=de PG (ax1 n) 55 bz aoi 87 [.i .i64 x0,.sl .fl x1,.i .i64 x2,.i .i64 x3]
theorem akQ(n:Nat)(x0:Int)(x1:List bB)(x2 x3:Int)(K:∀v1,v1=List.getD x1 x3.toNat (eu.dH .fl)->∀v2,v2=(Tree.depth (bB.of [] v1.val):Int)->∀v3,v3=IntKind.i64.wrap (x3+1)->∀v4,v4=IntKind.i64.wrap (x0+1)->cond (nP (x3<x2)) (ck (bH x3 x1.length) (ck ((nP ((bB.of [] v1.val).bC<=1099511627776))&&nP ((bB.of [] v1.val).bC<n)) (ac3 n (pQ x0 v2) x1 x2 v3))) (Bm [.i .i64 v4])=ρ):ac3 n x0 x1 x2 x3=ρ:=mY (by kernel_rfl) (vg K:)
theorem axZ(n:Nat)(v:Val)(K:∀v1,v1=cond (!decide (v.kind=3)) (!decide (v.kind=4)) Qg->∀v2,v2=cond v1 (!decide (v.kind=15)) Qg->∀v3,v3=(v.kids.length:Int)->ck (!(!decide (v.kind=3))||(!decide (v.kind=3))) (ck (!(!decide (v.kind=3))||(!decide (v.kind=3))) (ck (!(!decide (v.kind=3))||(!decide (v.kind=3))) (ck (!v1||v1) (ck (!v1||v1) (ck (!v1||v1) (cond v2 (Bm [.i .i64 0]) (ac3 n 0 v.kids v3 0)))))))=ρ):ax0 n v=ρ:=Eq.trans (by kernel_rfl) (uJ K:)
def apT(a b:List UInt8):OT:=bT PG eD 143 bz (.o) [.sl .bs a,.sl .bs b]
theorem apS(a b:List UInt8):apT a b=Bm [.b (nP (a=b))]:=by kernel_rfl
def aon:Hint:=.s .o (.s .o (.s (.s .o (.b (.l (sc [0,1,5]) .o))) .o))
def ayf(a b:List Int):OT:=bT PG eD 22 bz aon [.sl .is a,.sl .is b]
def ac9(x0 x1:List Int)(x2:Int):OT:=de PG eD 22 bz aon 43 [.sl .is x0,.sl .is x1,.i .i64 x2]
theorem akW(x0 x1:List Int)(x2:Int)(K:∀v1,v1=List.getD x0 x2.toNat 0->∀v2,v2=List.getD x1 x2.toNat 0->∀v3,v3=IntKind.i64.wrap (x2+1)->cond (nP (x2<(x0.length:Int))) (ck (bH x2 x0.length) (ck (bH x2 x1.length) (cond (!decide (v1=v2)) (Bm [.b Qg]) (ac9 x0 x1 v3)))) (Bm [.b Qf])=ρ):ac9 x0 x1 x2=ρ:=mY (by kernel_rfl) (uJ K:)
theorem aye(a b:List Int):ayf a b=cond (!decide ((a.length:Int)=(b.length:Int))) (Bm [.b Qg]) (ac9 a b 0):=by kernel_rfl
def amZ:Hint:=.s .o (.s (.s .o (.b (.l (sc [0,1,5]) .o))) .o)
def auu(left:Int)(fR:List Int):OT:=bT PG eD 29 bz amZ [.i .i64 left,.sl .is fR]
def aca(x0:Int)(x1:List Int)(x2:Int):OT:=de PG eD 29 bz amZ 21 [.i .i64 x0,.sl .is x1,.i .i64 x2]
theorem ajP(x0:Int)(x1:List Int)(x2:Int)(K:∀v1,v1=List.getD x1 x2.toNat 0->∀v2,v2=cond (nP (x0<0)) Qf (nP (x0<v1))->∀v3,v3=IntKind.i64.wrap (x2+1)->cond (nP (x2<(x1.length:Int))) (ck (!(!(nP (x0<0)))||(((!(nP (x0<0)))&&(!(nP (x0<0))))&&(bH x2 x1.length))) (ck (!(!(nP (x0<0)))||(!(nP (x0<0)))) (ck (!(!(nP (x0<0)))||((!(nP (x0<0)))&&(!(nP (x0<0))))) (ck ((nP (x0<0))||(!(nP (x0<0)))) (cond v2 (Bm [.i .i64 (-1)]) (ck (bH x2 x1.length) (aca (IntKind.i64.wrap (x0 -v1)) x1 v3))))))) (Bm [.i .i64 x0])=ρ):aca x0 x1 x2=ρ:=mY (by kernel_rfl) (uJ K:)
theorem aut(left:Int)(fR:List Int):auu left fR=aca left fR 0:=by kernel_rfl
def axW(n:Nat):cz:=cP gz zs [(18,abm n,bz),(29,am0,bz)]
def aog:Hint:=.s .o (.s .o (.s (.s .o (.b (.l [(0,.no),(3,.ptr 50 0),(5,.no),(50,.cl [])] .o))) .o))
def axV(n:Nat)(left:Int)(v:Val):OT:=bT PG (axW n) 18 bz aog [.i .i64 left,.ag v.cells]
def ac2(n:Nat)(x0 x1:Int)(x2:Val):OT:=de PG (axW n) 18 bz aog 43 [.i .i64 x0,.pt,.i .i64 x1,.ag x2.cells]
theorem akP(n:Nat)(x0 x1:Int)(x2:Val)(K:∀v1,v1=(x2.kids.length:Int)->∀v2,v2=cond (nP (x1<v1)) (nP (0<=x0)) Qg->∀v3,v3=List.getD x2.kids x1.toNat (eu.dH .fl)->∀v4,v4=(v3.name.length:Int)->∀v5,v5=fL.room x0 ([v4]:List Int)->∀v6,v6=fL.value v5 (bB.of [] v3.val)->∀v7,v7=IntKind.i64.wrap (x1+1)->ck (!(nP (x1<v1))||(nP (x1<v1))) (ck (!(nP (x1<v1))||(nP (x1<v1))) (cond v2 (ck (bH x1 x2.kids.length) (ck (nP (x0<=1200/\([v4]:List Int).length<=10)&&([v4]:List Int).all (λs=>nP (0<=s))) (ck (bH x1 x2.kids.length) (ck ((nP (v5<=1200))&&nP ((bB.of [] v3.val).bC<n)) (ac2 n v6 v7 x2))))) (Bm [.i .i64 x0])))=ρ):ac2 n x0 x1 x2=ρ:=mY (by kernel_rfl) (jL (nY K:):)
theorem axU(n:Nat)(left:Int)(v:Val)(K:∀v1,v1=(v.text.length:Int)->∀v2,v2=(v.more.length:Int)->∀v3,v3=(v.bytes.length:Int)->∀v4,v4=([2,v1,v2,v3]:List Int)->ck (nP (left<=1200/\v4.length<=10)&&v4.all (λs=>nP (0<=s))) (ac2 n (fL.room left v4) 0 v)=ρ):axV n left v=ρ:=Eq.trans (by kernel_rfl) (vg K:)
def aAy:cz:=cP gz zs [(18,aoh,bz)]
def asX(v:Val):OT:=bT PG aAy 6 bz (.o) [.ag v.cells]
theorem asW(v:Val)(K:∀v1,v1=fL.value (1200:Int) (bB.of [] v)->ck (nP ((1200:Int)<=1200)) (Bm [.b (nP ((0:Int)<=v1))])=ρ):asX v=ρ:=Eq.trans (by kernel_rfl) (qv K:)
def ayq:cz:=cP gz zs [(188,ady,bz)]
def aos:Hint:=.s .o (.s (.s .o (.b (.l (sc [5,6,7]) .o))) .o)
def ayp(l:List bB):OT:=bT PG ayq 130 bz aos [.sl .fl l]
def adi(x0:List bB)(x1 x2:Int):OT:=de PG ayq 130 bz aos 21 [.sl .fl x0,.i .i64 x1,.i .i64 x2]
theorem ak4(x0:List bB)(x1 x2:Int)(K:∀v1,v1=List.getD x0 x2.toNat (eu.dH .fl)->∀v2,v2=IntKind.i64.wrap (x2+1)->cond (nP (x2<x1)) (ck (bH x2 x0.length) (ck (Nr.i64 x2) (cond (!decide (v1.name=(Nr.itoa x2))) (Bm [.b Qg]) (adi x0 x1 v2)))) (Bm [.b Qf])=ρ):adi x0 x1 x2=ρ:=mY (by kernel_rfl) (nY K:)
theorem ayo(l:List bB):ayp l=adi l (l.length:Int) 0:=by kernel_rfl
def anu:Hint:=.s .o (.j (sc [0,2]) .o .o)
def avP(x:UInt16):OT:=bT PG eD 238 bz anu [.u16 x]
def acw(x0:UInt16)(x1:Int):OT:=dj PG eD 238 bz anu 3 [.u16 x0,.i .i64 x1]
theorem avN(x0:UInt16)(x1:Int)(K:∀v1,v1=UInt8.ofInt (x0.toNat:Int)->∀v2,v2=List.getD ([0,1,2,2,3,3,3,3,4,4,4,4,4,4,4,4,5,5,5,5,5,5,5,5,5,5,5,5,5,5,5,5,6,6,6,6,6,6,6,6,6,6,6,6,6,6,6,6,6,6,6,6,6,6,6,6,6,6,6,6,6,6,6,6,7,7,7,7,7,7,7,7,7,7,7,7,7,7,7,7,7,7,7,7,7,7,7,7,7,7,7,7,7,7,7,7,7,7,7,7,7,7,7,7,7,7,7,7,7,7,7,7,7,7,7,7,7,7,7,7,7,7,7,7,7,7,7,7,8,8,8,8,8,8,8,8,8,8,8,8,8,8,8,8,8,8,8,8,8,8,8,8,8,8,8,8,8,8,8,8,8,8,8,8,8,8,8,8,8,8,8,8,8,8,8,8,8,8,8,8,8,8,8,8,8,8,8,8,8,8,8,8,8,8,8,8,8,8,8,8,8,8,8,8,8,8,8,8,8,8,8,8,8,8,8,8,8,8,8,8,8,8,8,8,8,8,8,8,8,8,8,8,8,8,8,8,8,8,8,8,8,8,8,8,8,8,8,8,8,8,8,8,8,8,8,8]:bE) (v1.toNat:Int).toNat 0->∀v3,v3=IntKind.i64.wrap (v2.toNat:Int)->ck (bH (v1.toNat:Int) ([0,1,2,2,3,3,3,3,4,4,4,4,4,4,4,4,5,5,5,5,5,5,5,5,5,5,5,5,5,5,5,5,6,6,6,6,6,6,6,6,6,6,6,6,6,6,6,6,6,6,6,6,6,6,6,6,6,6,6,6,6,6,6,6,7,7,7,7,7,7,7,7,7,7,7,7,7,7,7,7,7,7,7,7,7,7,7,7,7,7,7,7,7,7,7,7,7,7,7,7,7,7,7,7,7,7,7,7,7,7,7,7,7,7,7,7,7,7,7,7,7,7,7,7,7,7,7,7,8,8,8,8,8,8,8,8,8,8,8,8,8,8,8,8,8,8,8,8,8,8,8,8,8,8,8,8,8,8,8,8,8,8,8,8,8,8,8,8,8,8,8,8,8,8,8,8,8,8,8,8,8,8,8,8,8,8,8,8,8,8,8,8,8,8,8,8,8,8,8,8,8,8,8,8,8,8,8,8,8,8,8,8,8,8,8,8,8,8,8,8,8,8,8,8,8,8,8,8,8,8,8,8,8,8,8,8,8,8,8,8,8,8,8,8,8,8,8,8,8,8,8,8,8,8,8,8]:bE).length) (Bm [.i .i64 (IntKind.i64.wrap (x1+v3))])=ρ):acw x0 x1=ρ:=oa (by kernel_rfl) (uJ K:)
theorem avO(x:UInt16)(K:∀v1,v1=uo x (8:UInt64).toNat->cond (nP (256<=x)) (acw v1 8) (acw x 0)=ρ):avP x=ρ:=Eq.trans (by kernel_rfl) (qv K:)
def UH:Hint:=.s .o (.j (sc [0,2]) .o (.j (sc [0,2]) .o (.j (sc [0,2]) .o .o)))
def Yb(x:UInt64):OT:=bT PG eD 302 bz UH [.u64 x]
def UL(x0:UInt64)(x1:Int):OT:=dj PG eD 302 bz UH 3 [.u64 x0,.i .i64 x1]
def UK(x0:UInt64)(x1:Int):OT:=dj PG eD 302 bz UH 7 [.u64 x0,.i .i64 x1]
def UJ(x0:UInt64)(x1:Int):OT:=dj PG eD 302 bz UH 15 [.u64 x0,.i .i64 x1]
theorem aah(x0:UInt64)(x1:Int)(K:∀v1,v1=dc x0 (16:UInt64).toNat->∀v2,v2=IntKind.i64.wrap (x1+16)->cond (nP (65536<=x0)) (UK v1 v2) (UK x0 x1)=ρ):UL x0 x1=ρ:=oa (by kernel_rfl) (nY K:)
theorem aag(x0:UInt64)(x1:Int)(K:∀v1,v1=dc x0 (8:UInt64).toNat->∀v2,v2=IntKind.i64.wrap (x1+8)->cond (nP (256<=x0)) (UJ v1 v2) (UJ x0 x1)=ρ):UK x0 x1=ρ:=oa (by kernel_rfl) (nY K:)
theorem aaf(x0:UInt64)(x1:Int)(K:∀v1,v1=UInt8.ofInt (x0.toNat:Int)->∀v2,v2=List.getD ([0,1,2,2,3,3,3,3,4,4,4,4,4,4,4,4,5,5,5,5,5,5,5,5,5,5,5,5,5,5,5,5,6,6,6,6,6,6,6,6,6,6,6,6,6,6,6,6,6,6,6,6,6,6,6,6,6,6,6,6,6,6,6,6,7,7,7,7,7,7,7,7,7,7,7,7,7,7,7,7,7,7,7,7,7,7,7,7,7,7,7,7,7,7,7,7,7,7,7,7,7,7,7,7,7,7,7,7,7,7,7,7,7,7,7,7,7,7,7,7,7,7,7,7,7,7,7,7,8,8,8,8,8,8,8,8,8,8,8,8,8,8,8,8,8,8,8,8,8,8,8,8,8,8,8,8,8,8,8,8,8,8,8,8,8,8,8,8,8,8,8,8,8,8,8,8,8,8,8,8,8,8,8,8,8,8,8,8,8,8,8,8,8,8,8,8,8,8,8,8,8,8,8,8,8,8,8,8,8,8,8,8,8,8,8,8,8,8,8,8,8,8,8,8,8,8,8,8,8,8,8,8,8,8,8,8,8,8,8,8,8,8,8,8,8,8,8,8,8,8,8,8,8,8,8,8]:bE) (v1.toNat:Int).toNat 0->∀v3,v3=IntKind.i64.wrap (v2.toNat:Int)->ck (bH (v1.toNat:Int) ([0,1,2,2,3,3,3,3,4,4,4,4,4,4,4,4,5,5,5,5,5,5,5,5,5,5,5,5,5,5,5,5,6,6,6,6,6,6,6,6,6,6,6,6,6,6,6,6,6,6,6,6,6,6,6,6,6,6,6,6,6,6,6,6,7,7,7,7,7,7,7,7,7,7,7,7,7,7,7,7,7,7,7,7,7,7,7,7,7,7,7,7,7,7,7,7,7,7,7,7,7,7,7,7,7,7,7,7,7,7,7,7,7,7,7,7,7,7,7,7,7,7,7,7,7,7,7,7,8,8,8,8,8,8,8,8,8,8,8,8,8,8,8,8,8,8,8,8,8,8,8,8,8,8,8,8,8,8,8,8,8,8,8,8,8,8,8,8,8,8,8,8,8,8,8,8,8,8,8,8,8,8,8,8,8,8,8,8,8,8,8,8,8,8,8,8,8,8,8,8,8,8,8,8,8,8,8,8,8,8,8,8,8,8,8,8,8,8,8,8,8,8,8,8,8,8,8,8,8,8,8,8,8,8,8,8,8,8,8,8,8,8,8,8,8,8,8,8,8,8,8,8,8,8,8,8]:bE).length) (Bm [.i .i64 (IntKind.i64.wrap (x1+v3))])=ρ):UJ x0 x1=ρ:=oa (by kernel_rfl) (uJ K:)
theorem aai(x:UInt64)(K:∀v1,v1=dc x (32:UInt64).toNat->cond (nP (4294967296<=x)) (UL v1 32) (UL x 0)=ρ):Yb x=ρ:=Eq.trans (by kernel_rfl) (qv K:)
def arz(a:List UInt16):OT:=bT PG eD 289 lA (.o) [.sl .ws a]
theorem ary(a:List UInt16):arz a=cond (List.isEmpty a) (both (Bm [.sl .ws ([]:List UInt16)]) (ck (dU (([]:List UInt16).length+a.length) 2) (Bm [.sl .ws (([]:List UInt16)++a)]))) (ck (dU (([]:List UInt16).length+a.length) 2) (Bm [.sl .ws (([]:List UInt16)++a)])):=by kernel_rfl
def arQ(x:Nat):OT:=bT PG eD 378 bz (.o) [.c (.float .f64 x)]
theorem arP(x:Nat):arQ x=cond Qf (ck (Fl.num x) (Bm [.c (.float .f64 (Fl.nD x))])) Kk:=by kernel_rfl
def aAj:cz:=cP gz zs [(373,adQ,bz)]
def arI(z:Cx):OT:=bT PG aAj 370 bz (.o) [.c (.complex .f64 z.1 z.2)]
theorem arH(z:Cx):arI z=ck (Gz.Ss z (4719772409484279808:Nat)) (Bm [.b Qf]):=by kernel_rfl
def aoN(x y:Int):OT:=bT PG eD 368 bz (.o) [.i .i64 x,.i .i64 y]
theorem aoM(x:Int)(y:Int)(K:∀(v1:Bool)(h1:v1=(cond (nP (x<(-33554432:Int))) Qf (nP ((33554432:Int)<x))))(v2:Bool)(h2:v2=(cond v1 Qf (nP (y<(-33554432:Int)))))(v3:Bool)(h3:v3=(cond v2 Qf (nP ((33554432:Int)<y))))(v4:Cx)(h4:v4=(((Fl.ofInt x),(Fl.ofInt y)):Cx)),ck (!(!(nP (x<(-33554432:Int))))||(!(nP (x<(-33554432:Int))))) (ck ((nP (x<(-33554432:Int)))||(!(nP (x<(-33554432:Int))))) (ck (!(!v1)||(!v1)) (ck (v1||(!v1)) (ck (!(!v2)||(!v2)) (ck (v2||(!v2)) (cond v3 (Bm [(.c (.complex .f64 ((0,0):Cx).1 ((0,0):Cx).2))]) (Bm [(.c (.complex .f64 v4.1 v4.2))])))))))=ρ):aoN x y=ρ:=Eq.trans (by kernel_rfl) (K _ rfl _ rfl _ rfl _ rfl)
def aAp:cz:=cP gz zs [(373,adQ,bz)]
def ar9(z:Cx):OT:=bT PG aAp 359 jh (.o) [.c (.complex .f64 z.1 z.2)]
theorem ar8(z:Cx):ar9 z=ck (Gz.Ss z (4841369599423283200:Nat)) (cond (!true) (Bm [.i .i64 0,.i .i64 0,.b Qg]) (ck (Fl.qy z.1) (ck (Fl.qy z.2) (Bm [.i .i64 (Fl.toInt z.1),.i .i64 (Fl.toInt z.2),.b Qf])))):=by kernel_rfl
def azY:cz:=cP gz zs [(373,adQ,bz)]
def aqq(z:Cx)(k:Int):OT:=bT PG azY 379 bz (.o) [.c (.complex .f64 z.1 z.2),.i .i64 k]
theorem aqp(z:Cx)(k:Int)(K:∀(v1:Cx)(h1:v1=((4607182418800017408,0):Cx))(v2:Cx)(h2:v2=((0,4607182418800017408):Cx))(v3:Cx)(h3:v3=((13830554455654793216,0):Cx))(v4:Cx)(h4:v4=((0,13830554455654793216):Cx))(v5:Int)(h5:v5=(da .and .i64 k (3:Int)))(v6:Cx)(h6:v6=(List.getD ([v1,v2,v3,v4]:List Cx) ((v5).toNat) (0,0)))(v7:Cx)(h7:v7=((Fl.wi z.1 z.2 v6.1 v6.2,Fl.wk z.1 z.2 v6.1 v6.2):Cx)),ck (Gz.Ss z ((4841369599423283200:Nat))) (cond (!(Qf)) (Bm [(.c (.complex .f64 ((0,0):Cx).1 ((0,0):Cx).2))]) (ck (bH v5 4) (ck (nP ((v5).toNat<4)) (ck (Fl.sk z.1 z.2 v6.1 v6.2) (Bm [(.c (.complex .f64 v7.1 v7.2))])))))=ρ):aqq z k=ρ:=Eq.trans (by kernel_rfl) (K _ rfl _ rfl _ rfl _ rfl _ rfl _ rfl _ rfl)
def aAi:cz:=cP gz zs [(370,amf,bz)]
def arF(z w:Cx):OT:=bT PG aAi 357 bz (.o) [.c (.complex .f64 z.1 z.2),.c (.complex .f64 w.1 w.2)]
theorem arE(z:Cx)(w:Cx)(K:∀(v1:Bool)(h1:v1=(cond (!(Qf)) Qf (!(Qf))))(v2:Cx)(h2:v2=((Fl.wi z.1 z.2 w.1 w.2,Fl.wk z.1 z.2 w.1 w.2):Cx)),ck (Gz.zR z 33554432) (ck (!(!(!(Qf)))||((!(!(Qf)))&&(Gz.zR w 33554432))) (ck (!(!(!(Qf)))||(!(!(Qf)))) (ck ((!(Qf))||(!(!(Qf)))) (cond v1 (Bm [(.c (.complex .f64 ((0,0):Cx).1 ((0,0):Cx).2))]) (ck (Fl.sk z.1 z.2 w.1 w.2) (Bm [(.c (.complex .f64 v2.1 v2.2))]))))))=ρ):arF z w=ρ:=Eq.trans (by kernel_rfl) (K _ rfl _ rfl)
def az6:cz:=cP gz zs [(378,ami,bz)]
def aqO(x:Nat):OT:=bT PG az6 377 bz (.o) [.c (.float .f64 x)]
theorem aqN(x:Nat)(K:∀v1,v1=(Fl.gt x (14055734437023318016:Nat)||Fl.eq x (14055734437023318016:Nat))->∀v2,v2=(Fl.lt x (4832362400168542208:Nat)||Fl.eq x (4832362400168542208:Nat))->∀v3,v3=cond (cond v1 v2 Qg) (Fl.eq x (Fl.nD x)) Qg->ck (!v1||v1) (ck (!v1||v1) (ck (!(cond v1 v2 Qg)||((cond v1 v2 Qg)&&(Fl.num x))) (ck (!(cond v1 v2 Qg)||((cond v1 v2 Qg)&&(cond v1 v2 Qg))) (ck (!(cond v1 v2 Qg)||(cond v1 v2 Qg)) (Bm [.b v3])))))=ρ):aqO x=ρ:=Eq.trans (by kernel_rfl) (uJ K:)
def ate:cz:=cP gz zs [(377,al5,bz)]
def amE:Hint:=.s .o (.s .o (.s (.s .o (.b (.l (sc [3,6,7]) .o))) .o))
def atd(l:Qd):OT:=bT PG ate 371 bz amE [.ag (Qd.cells l)]
def abZ(x0:Qd)(x1:Int):OT:=de PG ate 371 bz amE 43 [.c (.func (.func 377) #[] #[]),.ag (Qd.cells x0),.i .i64 x1]
theorem ajx(x0:Qd)(x1:Int)(K:∀v1,v1=cond (!true) Qf (!true)->∀v2,v2=IntKind.i64.wrap (x1+1)->cond (nP (x1<4)) (ck (bH x1 4) (ck (Gz.QD (Qd.get x0 x1.toNat).1) (ck (!(!(!true))||(!(!true))) (ck (!(!(!true))||(((!(!true))&&(!(!true)))&&(Gz.QD (Qd.get x0 x1.toNat).2))) (ck (!(!(!true))||(!(!true))) (ck ((!true)||(!(!true))) (cond v1 (Bm [.b Qg]) (abZ x0 v2)))))))) (Bm [.b Qf])=ρ):abZ x0 x1=ρ:=mY (by kernel_rfl) (nY K:)
theorem atc(l:Qd):atd l=abZ l 0:=by kernel_rfl
def ank:cz:=cP gz zs [(379,alX,bz)]
def ahA:Hint:=.s .o (.s .o (.s (.s .o (.b (.l [(1,.no),(2,.ptr 34 0),(4,.ptr 36 0),(5,.ptr 37 0),(9,.no),(34,.cl []),(36,.cl []),(37,.cl [])] (.s .o (.s .o (.s (.b (.s .o (.s .o (.b (.l [(1,.no),(2,.ptr 34 0),(4,.ptr 36 0),(5,.ptr 37 0),(6,.no),(9,.no),(12,.no),(13,.no),(34,.cl []),(36,.cl []),(37,.cl [])] .o))))) .o)))))) .o))
def avo(l:Qd)(w:Int):OT:=bT PG ank 372 bz ahA [.ag (Qd.cells l),.i .i64 w]
def aaq(x0 x1:Int)(x2 x3 x4:Qd):OT:=de PG ank 372 bz ahA 43 [.i .i64 x0,.pt,.pt,.pt,.i .i64 x1,.ag (Qd.cells x2),.ag (Qd.cells x3),.ag (Qd.cells x4)]
def acp(x0 x1 x2:Int)(x3:Qd)(x4:Int)(x5 x6 x7:Qd):OT:=de PG ank 372 bz ahA 11467 [.i .i64 x0,.pt,.pt,.pt,.i .i64 x1,.i .i64 x2,.ag (Qd.cells x3),.i .i64 x4,.ag (Qd.cells x5),.ag (Qd.cells x6),.ag (Qd.cells x7)]
theorem aj4(x0 x1:Int)(x2 x3 x4:Qd):aaq x0 x1 x2 x3 x4=cond (nP (x1<4)) (acp x0 x1 x1 x2 0 x2 x3 x4) (Bm [.ag (Qd.cells x4)]):=mY (by kernel_rfl) rfl
theorem aj6(x0:Int)(x1:Int)(x2:Int)(x3:Qd)(x4:Int)(x5:Qd)(x6:Qd)(x7:Qd)(K:∀(v1:Int)(h1:v1=(IntKind.i64.wrap ((IntKind.i64.wrap (x4*x1))*x0)))(v2:Cx)(h2:v2=(Gz.jN ((Qd.get x3 ((x4).toNat))) v1))(v3:Cx)(h3:v3=((Fl.add (Qd.get x7 ((x1).toNat)).1 v2.1,Fl.add (Qd.get x7 ((x1).toNat)).2 v2.2):Cx))(v4:Int)(h4:v4=(IntKind.i64.wrap (x4+(1:Int))))(v5:Int)(h5:v5=(IntKind.i64.wrap (x2+(1:Int)))),cond (nP (x4<(4:Int))) (ck (bH x4 4) (ck (bH x1 4) (ck (nP ((x1).toNat<4)) (ck (Gz.zR ((Qd.get x3 ((x4).toNat))) 1125899906842624&&nP (-100<=v1/\v1<=100)) (ck (Fl.og (Qd.get x7 ((x1).toNat)).1 v2.1&&Fl.og (Qd.get x7 ((x1).toNat)).2 v2.2) (ck (bH x1 4) (ck (nP ((x1).toNat<4)) (acp x0 x1 x2 x3 v4 x5 x6 (Qd.set x7 ((x1).toNat) v3))))))))) (aaq x0 v5 x5 x6 x7)=ρ):acp x0 x1 x2 x3 x4 x5 x6 x7=ρ:=((gJ _ _ _ _ _ _ _).trans (by kernel_rfl)).trans (K _ rfl _ rfl _ rfl _ rfl _ rfl)
theorem avn(l:Qd)(w:Int):avo l w=aaq w 0 l (Qd.mk ((0,0):Cx) ((0,0):Cx) ((0,0):Cx) ((0,0):Cx)) (Qd.mk ((0,0):Cx) ((0,0):Cx) ((0,0):Cx) ((0,0):Cx)):=by kernel_rfl
def az5:cz:=cP gz zs [(371,agN,bz),(372,ahC,bz)]
def aqL(l:Qd):OT:=bT PG az5 369 bz (.o) [.ag (Qd.cells l)]
theorem aqK(l:Qd):aqL l=ck (Gz.CL l 1125899906842624) (cond (!true) (Bm [.ag [.c (.complex .f64 ((0,0):Cx).1 ((0,0):Cx).2),.c (.complex .f64 ((0,0):Cx).1 ((0,0):Cx).2),.c (.complex .f64 ((0,0):Cx).1 ((0,0):Cx).2),.c (.complex .f64 ((0,0):Cx).1 ((0,0):Cx).2)]]) (ck (Gz.CL l 1125899906842624&&nP ((1:Int)=1\/(1:Int)=-1)) (Bm [.ag (Qd.cells (Gz.qz l (1:Int)))]))):=by kernel_rfl
def at3:cz:=cP gz zs [(359,agl,jh),(371,agN,bz),(372,ahC,bz)]
def amR:Hint:=.s .o (.s .o (.s .o (.s (.s .o (.b (.l [(2,.ptr 53 0),(4,.ptr 55 0),(16,.no),(17,.no),(53,.cl []),(55,.cl [])] .o))) .o)))
def at2(l:Qd):OT:=bT PG at3 358 bP amR [.ag (Qd.cells l)]
def aaT(x0:Qd)(x1:Int)(x2 x3:Qd):OT:=de PG at3 358 bP amR 87 [.pt,.pt,.ag (Qd.cells x0),.i .i64 x1,.ag (Qd.cells x2),.ag (Qd.cells x3)]
theorem ajK(x0:Qd)(x1:Int)(x2:Qd)(x3:Qd)(K:∀(v1:Int)(h1:v1=(Fl.toInt (((Qd.get x0 ((x1).toNat)))).1))(v2:Int)(h2:v2=(Fl.toInt (((Qd.get x0 ((x1).toNat)))).2))(v3:Bool)(h3:v3=(cond (!(Qf)) Qf (!decide ((Int.tmod v1 (4:Int))=(0:Int)))))(v4:Bool)(h4:v4=(cond v3 Qf (!decide ((Int.tmod v2 (4:Int))=(0:Int)))))(v5:Int)(h5:v5=(IntKind.i64.wrap (Int.tdiv v1 (4:Int))))(v6:Int)(h6:v6=(IntKind.i64.wrap (Int.tdiv v2 (4:Int))))(v7:Cx)(h7:v7=(((Fl.ofInt v5),(Fl.ofInt v6)):Cx))(v8:Int)(h8:v8=(IntKind.i64.wrap (x1+(1:Int)))),cond (nP (x1<(4:Int))) (ck (bH x1 4) (ck (Gz.zR ((Qd.get x0 ((x1).toNat))) 4503599627370496) (ck (!(!(!(Qf)))||((!(!(Qf)))&&(!decide ((4:Int)=0)))) (ck (!(!(!(Qf)))||(!(!(Qf)))) (ck ((!(Qf))||(!(!(Qf)))) (ck (!(!v3)||((!v3)&&(!decide ((4:Int)=0)))) (ck (!(!v3)||(!v3)) (ck (v3||(!v3)) (cond v4 (Bm [(.ag [(.c (.complex .f64 ((0,0):Cx).1 ((0,0):Cx).2)),(.c (.complex .f64 ((0,0):Cx).1 ((0,0):Cx).2)),(.c (.complex .f64 ((0,0):Cx).1 ((0,0):Cx).2)),(.c (.complex .f64 ((0,0):Cx).1 ((0,0):Cx).2))]),(.b Qg)]) (ck (!decide ((4:Int)=0)) (ck (!decide ((4:Int)=0)) (ck (bH x1 4) (ck (nP ((x1).toNat<4)) (aaT x0 v8 x2 (Qd.set x3 ((x1).toNat) v7))))))))))))))) (Bm [(.ag (Qd.cells x3)),(.b Qf)])=ρ):aaT x0 x1 x2 x3=ρ:=((gJ _ _ _ _ _ _ _).trans (by kernel_rfl)).trans (K _ rfl _ rfl _ rfl _ rfl _ rfl _ rfl _ rfl _ rfl)
theorem at1(l:Qd):at2 l=ck (Gz.CL l 1125899906842624) (cond (!true) (Bm [.ag [.c (.complex .f64 ((0,0):Cx).1 ((0,0):Cx).2),.c (.complex .f64 ((0,0):Cx).1 ((0,0):Cx).2),.c (.complex .f64 ((0,0):Cx).1 ((0,0):Cx).2),.c (.complex .f64 ((0,0):Cx).1 ((0,0):Cx).2)],.b Qg]) (ck (Gz.CL l 1125899906842624&&nP ((-1)=1\/(-1)=-1)) (aaT (Gz.qz l (-1)) 0 (Qd.mk ((0,0):Cx) ((0,0):Cx) ((0,0):Cx) ((0,0):Cx)) (Gz.qz l (-1))))):=by kernel_rfl
end Go.Eng
namespace Go.Eng
open Go.Proofs
variable{ρ:OT}
def anC:Hint:=.s .o (.s (.s .o (.b (.l (sc [0,5,6,7]) .o))) .o)
def av8(l:List Int):OT:=bT PG eD 355 bz anC [.sl .is l]
def acB(x0 x1:List Int)(x2 x3:Int):OT:=de PG eD 355 bz anC 21 [.sl .is x0,.sl .is x1,.i .i64 x2,.i .i64 x3]
theorem akj(x0 x1:List Int)(x2 x3:Int)(K:∀v1,v1=List.getD x1 x3.toNat 0->∀v2,v2=cond (nP (v1<0)) Qf (nP (65535<v1))->∀v3,v3=IntKind.i64.wrap (x3+1)->cond (nP (x3<x2)) (ck (bH x3 x1.length) (ck (!(!(nP (v1<0)))||(!(nP (v1<0)))) (ck ((nP (v1<0))||(!(nP (v1<0)))) (cond v2 (Bm [.b Qg]) (acB x0 x1 x2 v3))))) (Bm [.b (nP ((x0.length:Int)<=256))])=ρ):acB x0 x1 x2 x3=ρ:=mY (by kernel_rfl) (uJ K:)
theorem av7(l:List Int):av8 l=acB l l (l.length:Int) 0:=by kernel_rfl
def anz:cz:=cP gz zs [(368,alw,bz),(369,al4,bz)]
def ahL:Hint:=.s .o (.s .o (.s (.s .o (.b (.l [(0,.no),(3,.dB 800000),(800000,.pv),(4,.no)] (.s .o (.s (.b (.s .o (.j [(0,.no),(3,.dB 800000),(800000,.pv),(4,.no),(5,.ptr 41 0),(41,.cl [])] .o .o))) .o))))) .o))
def av0(l:List Int):OT:=bT PG anz 356 bz ahL [.sl .is l]
def acy(x0:List Int)(x1:List Qd)(x2:Int):OT:=de PG anz 356 bz ahL 43 [.sl .is x0,.pt,.sl .qd x1,.i .i64 x2]
def acz(x0:List Int)(x1:List Qd)(x2:Int)(x3:Qd):OT:=dj PG anz 356 bz ahL 1611 [.sl .is x0,.pt,.sl .qd x1,.i .i64 x2,.pt,.ag (Qd.cells x3)]
theorem akh(x0:List Int)(x1:List Qd)(x2:Int)(K:∀(v1:Int)(h1:v1=(List.getD x0 (x2).toNat (0:Int)))(v2:Cx)(h2:v2=(((Fl.ofInt v1,Fl.ofInt ((0:Int))):Cx)))(v3:Int)(h3:v3=(IntKind.i64.wrap (x2+(1:Int))))(v4:Int)(h4:v4=(List.getD x0 (v3).toNat (0:Int)))(v5:Cx)(h5:v5=(((Fl.ofInt v4,Fl.ofInt ((0:Int))):Cx)))(v6:Qd)(h6:v6=(Qd.set (Qd.mk v2 ((0,0):Cx) ((0,0):Cx) ((0,0):Cx)) (((1:Int)).toNat) v5)),cond (nP (x2<((x0).length:Int))) (ck (bH x2 (x0).length) (ck (nP (-33554432<=v1/\v1<=33554432/\-33554432<=((0:Int))/\((0:Int))<=33554432)) (cond (nP (v3<((x0).length:Int))) (ck (bH v3 (x0).length) (ck (nP (-33554432<=v4/\v4<=33554432/\-33554432<=((0:Int))/\((0:Int))<=33554432)) (ck (bH (1:Int) 4) (ck (nP (((1:Int)).toNat<4)) (acz x0 x1 x2 v6))))) (acz x0 x1 x2 (Qd.mk v2 ((0,0):Cx) ((0,0):Cx) ((0,0):Cx)))))) (Bm [(.sl .qd x1)])=ρ):acy x0 x1 x2=ρ:=((gJ _ _ _ _ _ _ _).trans (by kernel_rfl)).trans (K _ rfl _ rfl _ rfl _ rfl _ rfl _ rfl)
theorem avX(x0:List Int)(x1:List Qd)(x2:Int)(x3:Qd)(K:∀v1,v1=x1++([Gz.qz x3 1]:List Qd)->∀v2,v2=IntKind.i64.wrap (x2+2)->ck (Gz.CL x3 1125899906842624) (ck (dU (x1.length+([Gz.qz x3 1]:List Qd).length) 64) (acy x0 v1 v2))=ρ):acz x0 x1 x2 x3=ρ:=oa (by kernel_rfl) (nY K:)
theorem avZ(l:List Int):av0 l=acy l ([]:List Qd) 0:=by kernel_rfl
def aeH:cz:=cP gz zs [(355,anD,bz),(356,anx,bz),(357,ame,bz),(358,amS,bP),(359,agl,jh)]
def adJ:Hint:=.s .o (.s .o (.s .o (.s .o (.s .o (.s (.s .o (.b (.l [(0,.no),(1,.no),(6,.dB 800000),(8,.no),(48,.no),(49,.no),(50,.no),(800000,.pv)] (.s .o (.s .o (.s (.b (.s .o (.s .o (.b (.l [(0,.no),(1,.no),(6,.dB 800000),(8,.no),(9,.no),(10,.ptr 126 0),(48,.no),(49,.no),(50,.no),(55,.no),(56,.no),(57,.no),(126,.cl []),(800000,.pv)] (.s .o (.s .o (.s (.b (.s .o (.s .o (.s (.s .o (.b (.l [(0,.no),(1,.no),(6,.dB 800000),(8,.no),(9,.no),(10,.ptr 126 0),(11,.no),(12,.ptr 128 0),(13,.ptr 129 0),(48,.no),(49,.no),(50,.no),(55,.no),(56,.no),(57,.no),(62,.no),(126,.cl []),(128,.cl []),(129,.cl []),(800000,.pv)] .o))) (.s .o (.s .o (.b (.l [(0,.no),(1,.no),(6,.dB 800000),(8,.no),(9,.no),(10,.ptr 126 0),(11,.no),(15,.ptr 131 0),(48,.no),(49,.no),(50,.no),(55,.no),(56,.no),(57,.no),(80,.no),(126,.cl []),(131,.cl []),(800000,.pv)] .o)))))))) .o)))))))) .o)))))) .o)))))
def ayx(a b:List Int):OT:=bT PG aeH 326 bP adJ [.sl .is a,.sl .is b]
def abu(x0 x1:List Int)(x2 x3:List Qd)(x4 x5:Int)(x6:List Int):OT:=de PG aeH 326 bP adJ 351 [.sl .is x0,.sl .is x1,.pt,.sl .qd x2,.sl .qd x3,.i .i64 x4,.i .i64 x5,.sl .is x6]
def abt(x0 x1:List Int)(x2:List Qd)(x3:Int)(x4:List Qd)(x5 x6:Int)(x7:List Qd)(x8 x9:Int)(lM:Qd)(kh:List Int):OT:=de PG aeH 326 bP adJ 91743 [.sl .is x0,.sl .is x1,.pt,.sl .qd x2,.i .i64 x3,.pt,.sl .qd x4,.i .i64 x5,.i .i64 x6,.sl .qd x7,.i .i64 x8,.i .i64 x9,.ag (Qd.cells lM),.sl .is kh]
def aaz(x0 x1:List Int)(x2:List Qd)(x3 x4:Int)(x5:List Qd)(x6 x7:Int)(x8:List Qd)(x9 lM kh:Int)(lN q7 pU:Qd)(ud:List Int):OT:=de PG aeH 326 bP adJ 90596959 [.sl .is x0,.sl .is x1,.pt,.sl .qd x2,.i .i64 x3,.pt,.i .i64 x4,.pt,.pt,.sl .qd x5,.i .i64 x6,.i .i64 x7,.sl .qd x8,.i .i64 x9,.i .i64 lM,.i .i64 kh,.ag (Qd.cells lN),.ag (Qd.cells q7),.ag (Qd.cells pU),.sl .is ud]
def aac(x0 x1:List Int)(x2:List Qd)(x3 x4:Int)(x5:List Qd)(x6 x7:Int)(x8:List Qd)(x9 lM kh:Int)(lN q7:Qd)(pU:List Int):OT:=de PG aeH 326 bP adJ 199648863 [.sl .is x0,.sl .is x1,.pt,.sl .qd x2,.i .i64 x3,.pt,.i .i64 x4,.pt,.sl .qd x5,.i .i64 x6,.i .i64 x7,.sl .qd x8,.i .i64 x9,.i .i64 lM,.i .i64 kh,.ag (Qd.cells lN),.ag (Qd.cells q7),.sl .is pU]
theorem ak7(x0 x1:List Int)(x2 x3:List Qd)(x4 x5:Int)(x6:List Int)(K:∀v1,v1=List.getD x3 x5.toNat (eu.dH .qd)->∀v2,v2=IntKind.i64.wrap ((x0.length:Int)+(x1.length:Int))->∀v3,v3=IntKind.i64.wrap (v2 -1)->cond (nP (x5<x4)) (ck (bH x5 x3.length) (abt x0 x1 x2 x5 x3 x4 x5 x2 (x2.length:Int) 0 v1 x6)) (ck (iF 0 v3 x6.length) (ck (dU (List.take v3.toNat x6).length 8) (Bm [.sl .is (List.take v3.toNat x6),.b Qf])))=ρ):abu x0 x1 x2 x3 x4 x5 x6=ρ:=mY (by kernel_rfl) (uJ K:)
theorem ak6(x0 x1:List Int)(x2:List Qd)(x3:Int)(x4:List Qd)(x5 x6:Int)(x7:List Qd)(x8 x9:Int)(lM:Qd)(kh:List Int)(K:∀v1,v1=List.getD x7 x9.toNat (eu.dH .qd)->∀v2,v2=IntKind.i64.wrap (x6+1)->cond (nP (x9<x8)) (ck (bH x9 x7.length) (aaz x0 x1 x2 x3 x9 x4 x5 x6 x7 x8 x9 0 lM v1 (Qd.mk ((0,0):Cx) ((0,0):Cx) ((0,0):Cx) ((0,0):Cx)) kh)) (abu x0 x1 x2 x4 x5 v2 kh)=ρ):abt x0 x1 x2 x3 x4 x5 x6 x7 x8 x9 lM kh=ρ:=mY (by kernel_rfl) (nY K:)
theorem ak5(x0 x1:List Int)(x2:List Qd)(x3 x4:Int)(x5:List Qd)(x6 x7:Int)(x8:List Qd)(x9 lM kh:Int)(lN q7 pU:Qd)(ud:List Int)(K:∀v1,v1=Gz.mul (Qd.get lN kh.toNat) (Qd.get q7 kh.toNat)->∀v2,v2=Qd.set pU kh.toNat v1->∀v3,v3=IntKind.i64.wrap (kh+1)->cond (nP (kh<4)) (ck (bH kh 4) (ck (nP (kh.toNat<4)) (ck (bH kh 4) (ck (nP (kh.toNat<4)) (ck (Gz.zR (Qd.get lN kh.toNat) 33554432&&Gz.zR (Qd.get q7 kh.toNat) 33554432) (ck (bH kh 4) (ck (nP (kh.toNat<4)) (aaz x0 x1 x2 x3 x4 x5 x6 x7 x8 x9 lM v3 lN q7 v2 ud)))))))) (ck (Gz.CL pU 1125899906842624&&Gz.Su pU) (aac x0 x1 x2 x3 x4 x5 x6 x7 x8 x9 lM 0 lN (Gz.back pU) ud))=ρ):aaz x0 x1 x2 x3 x4 x5 x6 x7 x8 x9 lM kh lN q7 pU ud=ρ:=mY (by kernel_rfl) (uJ K:)
theorem ak8(x0 x1:List Int)(x2:List Qd)(x3 x4:Int)(x5:List Qd)(x6 x7:Int)(x8:List Qd)(x9 lM kh:Int)(lN q7:Qd)(pU:List Int)(K:∀v1,v1=Fl.toInt (Qd.get q7 kh.toNat).1->∀v2,v2=Fl.toInt (Qd.get q7 kh.toNat).2->∀v3,v3=IntKind.i64.wrap (2*x3)->∀v4,v4=IntKind.i64.wrap (2*x4)->∀v5,v5=IntKind.i64.wrap ((IntKind.i64.wrap (v3+v4))+kh)->∀v6,v6=List.getD pU v5.toNat 0->∀v7,v7=List.set pU v5.toNat (IntKind.i64.wrap (v6+v1))->∀v8,v8=IntKind.i64.wrap (kh+1)->∀v9,v9=IntKind.i64.wrap (lM+1)->cond (nP (kh<3)) (ck (bH kh 4) (ck (nP (kh.toNat<4)) (ck (Gz.zR (Qd.get q7 kh.toNat) 4503599627370496) (ck (bH v5 pU.length) (ck (nP (v5.toNat<pU.length)) (ck (bH v5 pU.length) (ck (nP (v5.toNat<pU.length)) (aac x0 x1 x2 x3 x4 x5 x6 x7 x8 x9 lM v8 lN q7 v7)))))))) (abt x0 x1 x2 x3 x5 x6 x7 x8 x9 v9 lN pU)=ρ):aac x0 x1 x2 x3 x4 x5 x6 x7 x8 x9 lM kh lN q7 pU=ρ:=mY (by kernel_rfl) (jL (vg K:):)
theorem ayu(a b:List Int)(K:∀v1,v1=cond (!true) Qf (!true)->∀v2,v2=cond (nP ((a.length:Int)=0)) Qf (nP ((b.length:Int)=0))->∀v3,v3=IntKind.i64.wrap ((a.length:Int)+(b.length:Int))->∀v4,v4=IntKind.i64.wrap (v3+2)->∀v5,v5=List.replicate v4.toNat 0->∀v6,v6=((Gz.jA a).length:Int)->ck (nP (a.length<=256)&&Gz.jP a) (ck (!(!(!true))||((!(!true))&&(nP (b.length<=256)&&Gz.jP b))) (ck (!(!(!true))||(!(!true))) (ck ((!true)||(!(!true))) (cond v1 (Bm [.sl .is ([]:List Int),.b Qg]) (ck (!(!(nP ((a.length:Int)=0)))||(!(nP ((a.length:Int)=0)))) (ck (!(!(nP ((a.length:Int)=0)))||(!(nP ((a.length:Int)=0)))) (ck ((nP ((a.length:Int)=0))||(!(nP ((a.length:Int)=0)))) (cond v2 (Bm [.sl .is ([]:List Int),.b Qf]) (ck (tJ v4 v4 8) (ck (nP (a.length<=256)&&Gz.jP a) (ck (nP (b.length<=256)&&Gz.jP b) (abu a b (Gz.jA b) (Gz.jA a) v6 0 v5))))))))))))=ρ):ayx a b=ρ:=Eq.trans (by kernel_rfl) (jL (qv K:):)
def amM:Hint:=.s .o (.s (.b (.l (sc [0]) .o)) .o)
def atC(a:List UInt16):OT:=bT PG eD 292 bz amM [.sl .ws a]
def ab5(x0:List UInt16):OT:=de PG eD 292 bz amM 9 [.sl .ws x0]
theorem ajF(x0:List UInt16)(K:∀v1,v1=IntKind.i64.wrap ((x0.length:Int) -1)->∀v2,v2=List.getD x0 v1.toNat 0->∀v3,v3=cond (nP (0<(x0.length:Int))) (nP (v2=0)) Qg->ck (!(nP (0<(x0.length:Int)))||(nP (0<(x0.length:Int)))) (ck (!(nP (0<(x0.length:Int)))||(nP (0<(x0.length:Int)))) (ck (!(nP (0<(x0.length:Int)))||(((nP (0<(x0.length:Int)))&&(nP (0<(x0.length:Int))))&&(bH v1 x0.length))) (ck (!(nP (0<(x0.length:Int)))||(nP (0<(x0.length:Int)))) (ck (!(nP (0<(x0.length:Int)))||(nP (0<(x0.length:Int)))) (ck (!(nP (0<(x0.length:Int)))||(nP (0<(x0.length:Int)))) (cond v3 (ck (iF 0 v1 x0.length) (ab5 (List.take v1.toNat x0))) (Bm [.sl .ws x0])))))))=ρ):ab5 x0=ρ:=mY (by kernel_rfl) (uJ K:)
theorem atB(a:List UInt16):atC a=ab5 a:=by kernel_rfl
def arl(a:List UInt16):OT:=bT PG eD 236 bz (.o) [.sl .ws a]
theorem ark(a:List UInt16)(K:∀v1,v1=((nP ((a.length:Int)<=256))&&(!(nP ((a.length:Int)=0))))->∀v2,v2=IntKind.i64.wrap ((a.length:Int) -1)->∀v3,v3=List.getD a v2.toNat 0->∀v4,v4=cond (nP ((a.length:Int)=0)) Qf (!decide (v3=0))->∀v5,v5=cond (nP ((a.length:Int)<=256)) v4 Qg->ck (!(nP ((a.length:Int)<=256))||(nP ((a.length:Int)<=256))) (ck (!(nP ((a.length:Int)<=256))||(nP ((a.length:Int)<=256))) (ck (!(nP ((a.length:Int)<=256))||(nP ((a.length:Int)<=256))) (ck (!v1||v1) (ck (!v1||v1) (ck (!v1||((v1&&v1)&&(bH v2 a.length))) (ck (!v1||v1) (ck (!v1||v1) (ck (!(nP ((a.length:Int)<=256))||((nP ((a.length:Int)<=256))&&((nP ((a.length:Int)=0))||v1))) (ck (!(nP ((a.length:Int)<=256))||(nP ((a.length:Int)<=256))) (Bm [.b v5]))))))))))=ρ):arl a=ρ:=Eq.trans (by kernel_rfl) (jL K:)
def amn:Hint:=.s .o (.s .o (.s (.b (.l [(0,.no),(3,.dB 800000),(800000,.pv)] .o)) .o))
def ash(v:UInt64):OT:=bT PG eD 194 bz amn [.u64 v]
def abQ(x0:UInt64)(x1:List UInt16):OT:=de PG eD 194 bz amn 19 [.u64 x0,.pt,.sl .ws x1]
theorem ajk(x0:UInt64)(x1:List UInt16)(K:∀v1,v1=UInt16.ofInt (x0.toNat:Int)->∀v2,v2=dc x0 (16:UInt64).toNat->cond (nP (0<x0)) (ck (dU (x1.length+([v1]:List UInt16).length) 2) (abQ v2 (x1++([v1]:List UInt16)))) (Bm [.sl .ws x1])=ρ):abQ x0 x1=ρ:=mY (by kernel_rfl) (nY K:)
theorem asg(v:UInt64):ash v=abQ v ([]:List UInt16):=by kernel_rfl
def auL:cz:=cP gz zs [(236,Yh,bz)]
def am5:Hint:=.s .o (.s .o (.s .o (.s (.s .o (.b (.l (sc [4,15,16,17]) .o))) .o)))
def auK(a:List UInt16):OT:=bT PG auL 375 bP am5 [.sl .ws a]
def ace(x0:UInt64)(x1:List UInt16)(x2 x3:Int):OT:=de PG auL 375 bP am5 87 [.u64 x0,.sl .ws x1,.i .i64 x2,.i .i64 x3]
theorem ajV(x0:UInt64)(x1:List UInt16)(x2 x3:Int)(K:∀v1,v1=List.getD x1 x3.toNat 0->∀v2,v2=UInt64.ofInt (v1.toNat:Int)->∀v3,v3=IntKind.i64.wrap (16*x3)->∀v4,v4=(x0|||(kZ v2 v3.toNat))->∀v5,v5=IntKind.i64.wrap (x3+1)->cond (nP (x3<x2)) (ck (bH x3 x1.length) (ck (nP (0<=v3)) (ace v4 x1 x2 v5))) (Bm [.u64 x0,.b Qf])=ρ):ace x0 x1 x2 x3=ρ:=mY (by kernel_rfl) (jL K:)
theorem auJ(a:List UInt16)(K:∀v1,v1=cond (!(Nt.is a)) Qf (nP (4<(a.length:Int)))->ck (nP (a.length<=1099511627776)) (ck (!(!(!(Nt.is a)))||(!(!(Nt.is a)))) (ck (!(!(!(Nt.is a)))||(!(!(Nt.is a)))) (ck ((!(Nt.is a))||(!(!(Nt.is a)))) (cond v1 (Bm [.u64 0,.b Qg]) (ace 0 a (a.length:Int) 0)))))=ρ):auK a=ρ:=Eq.trans (by kernel_rfl) (qv K:)
def aAd:cz:=cP gz zs [(236,Yh,bz),(238,ahJ,bz)]
def aro(a:List UInt16):OT:=bT PG aAd 196 bz (.o) [.sl .ws a]
theorem arn(a:List UInt16)(K:∀v1,v1=cond (!(Nt.is a)) Qf (nP ((a.length:Int)=0))->∀v2,v2=IntKind.i64.wrap ((a.length:Int) -1)->∀v3,v3=IntKind.i64.wrap (16*v2)->∀v4,v4=List.getD a v2.toNat 0->∀v5,v5=IntKind.i64.wrap (v3+(Nt.bits v4.toNat:Int))->ck (nP (a.length<=1099511627776)) (ck (!(!(!(Nt.is a)))||(!(!(Nt.is a)))) (ck (!(!(!(Nt.is a)))||(!(!(Nt.is a)))) (ck ((!(Nt.is a))||(!(!(Nt.is a)))) (cond v1 (Bm [.i .i64 0]) (ck (bH v2 a.length) (Bm [.i .i64 v5]))))))=ρ):aro a=ρ:=Eq.trans (by kernel_rfl) (jL K:)
def amj:Hint:=.s .o (.s .o (.s (.s .o (.b (.l (sc [0,1,5]) .o))) .o))
def arV(a b:List UInt16):OT:=bT PG eD 288 bz amj [.sl .ws a,.sl .ws b]
def abP(x0 x1:List UInt16)(x2:Int):OT:=de PG eD 288 bz amj 43 [.sl .ws x0,.sl .ws x1,.i .i64 x2]
theorem ajf(x0 x1:List UInt16)(x2:Int)(K:∀v1,v1=List.getD x0 x2.toNat 0->∀v2,v2=List.getD x1 x2.toNat 0->∀v3,v3=IntKind.i64.wrap (x2 -1)->cond (nP (0<=x2)) (ck (bH x2 x0.length) (ck (bH x2 x1.length) (cond (!decide (v1=v2)) (ck (bH x2 x0.length) (ck (bH x2 x1.length) (cond (nP (v1<v2)) (Bm [.i .i64 (-1)]) (Bm [.i .i64 1])))) (abP x0 x1 v3)))) (Bm [.i .i64 0])=ρ):abP x0 x1 x2=ρ:=mY (by kernel_rfl) (uJ K:)
theorem arU(a b:List UInt16)(K:∀v1,v1=IntKind.i64.wrap ((a.length:Int) -1)->cond (!decide ((a.length:Int)=(b.length:Int))) (cond (nP ((a.length:Int)<(b.length:Int))) (Bm [.i .i64 (-1)]) (Bm [.i .i64 1])) (abP a b v1)=ρ):arV a b=ρ:=Eq.trans (by kernel_rfl) (qv K:)
def az7:cz:=cP gz zs [(236,Yh,bz),(288,agb,bz)]
def aqQ(a b:List UInt16):OT:=bT PG az7 240 bz (.o) [.sl .ws a,.sl .ws b]
theorem aqP(a b:List UInt16)(K:∀v1,v1=cond (!(Nt.is a)) Qf (!(Nt.is b))->∀v2,v2=Nt.cmp (Nt.val a) (Nt.val b)->ck (nP (a.length<=1099511627776)) (ck (!(!(!(Nt.is a)))||((!(!(Nt.is a)))&&(nP (b.length<=1099511627776)))) (ck (!(!(!(Nt.is a)))||(!(!(Nt.is a)))) (ck ((!(Nt.is a))||(!(!(Nt.is a)))) (cond v1 (Bm [.i .i64 0]) (ck (nP (a.length<=1099511627776/\b.length<=1099511627776)&&(Nt.norm a&&Nt.norm b)) (Bm [.i .i64 v2]))))))=ρ):aqQ a b=ρ:=Eq.trans (by kernel_rfl) (nY K:)
def anP:Hint:=.s .o (.s .o (.s (.s .o (.b (.l [(3,.dB 800000),(9,.no),(10,.no),(11,.no),(800000,.pv)] .o))) .o))
def awK(a:List UInt16):OT:=bT PG eD 327 bz anP [.sl .ws a]
def acJ(x0:List UInt16)(x1 x2:Int)(x3:List Int):OT:=de PG eD 327 bz anP 43 [.pt,.sl .ws x0,.i .i64 x1,.i .i64 x2,.sl .is x3]
theorem akw(x0:List UInt16)(x1 x2:Int)(x3:List Int)(K:∀v1,v1=List.getD x0 x2.toNat 0->∀v2,v2=IntKind.i64.wrap (v1.toNat:Int)->∀v3,v3=List.set x3 x2.toNat v2->∀v4,v4=IntKind.i64.wrap (x2+1)->cond (nP (x2<x1)) (ck (bH x2 x0.length) (ck (bH x2 x3.length) (ck (nP (x2.toNat<x3.length)) (acJ x0 x1 v4 v3)))) (Bm [.sl .is x3])=ρ):acJ x0 x1 x2 x3=ρ:=mY (by kernel_rfl) (vg K:)
theorem awJ(a:List UInt16)(K:∀v1,v1=List.replicate (a.length:Int).toNat 0->ck (tJ (a.length:Int) (a.length:Int) 8) (acJ a (a.length:Int) 0 v1)=ρ):awK a=ρ:=Eq.trans (by kernel_rfl) (qv K:)
def am2:cz:=cP gz zs [(236,Yh,bz),(292,adD,bz),(326,aot,bP),(327,anQ,bz)]
def ahi:Hint:=.s .o (.s .o (.s .o (.s .o (.s .o (.s (.s .o (.b (.l [(7,.dB 800000),(800000,.pv),(8,.no),(27,.no),(28,.no),(29,.no)] .o))) (.s (.b (.l [(7,.dB 800000),(800000,.pv),(8,.no)] .o)) .o))))))
def auB(a b:List UInt16):OT:=bT PG am2 287 bz ahi [.sl .ws a,.sl .ws b]
def aaV(x0:List UInt16)(x1:Int)(x2:List Int)(x3 x4:Int):OT:=de PG am2 287 bz ahi 351 [.pt,.sl .ws x0,.i .i64 x1,.sl .is x2,.i .i64 x3,.i .i64 x4]
def acb(x0:List UInt16)(x1:Int):OT:=de PG am2 287 bz ahi 319 [.pt,.sl .ws x0,.i .i64 x1]
theorem ajT(x0:List UInt16)(x1:Int)(x2:List Int)(x3 x4:Int)(K:∀v1,v1=List.getD x2 x4.toNat 0->∀v2,v2=UInt16.ofInt (IntKind.i64.wrap (x1+v1))->∀v3,v3=Int.fdiv (IntKind.i64.wrap (x1+v1)) (2^(min (16:UInt64).toNat (IntKind.i64.bits)))->∀v4,v4=IntKind.i64.wrap (x4+1)->cond (nP (x4<x3)) (ck (bH x4 x2.length) (ck (dU (x0.length+([v2]:List UInt16).length) 2) (aaV (x0++([v2]:List UInt16)) v3 x2 x3 v4))) (acb x0 x1)=ρ):aaV x0 x1 x2 x3 x4=ρ:=mY (by kernel_rfl) (vg K:)
theorem ajS(x0:List UInt16)(x1:Int)(K:∀v1,v1=([UInt16.ofInt x1]:List UInt16)->∀v2,v2=Int.fdiv x1 (2^(min (16:UInt64).toNat (IntKind.i64.bits)))->cond (nP (0<x1)) (ck (dU (x0.length+v1.length) 2) (acb (x0++v1) v2)) (ck (nP (x0.length<=1099511627776)) (Bm [.sl .ws (Nt.of (Nt.val x0))]))=ρ):acb x0 x1=ρ:=mY (by kernel_rfl) (nY K:)
theorem auA(a b:List UInt16)(K:∀v1,v1=cond (!(Nt.is a)) Qf (!(Nt.is b))->∀v2,v2=(a.map λd=>(d.toNat:Int))->∀v3,v3=(b.map λd=>(d.toNat:Int))->∀v4,v4=((Gz.conv v2 v3).length:Int)->ck (nP (a.length<=1099511627776)) (ck (!(!(!(Nt.is a)))||((!(!(Nt.is a)))&&(nP (b.length<=1099511627776)))) (ck (!(!(!(Nt.is a)))||(!(!(Nt.is a)))) (ck ((!(Nt.is a))||(!(!(Nt.is a)))) (cond v1 (Bm [.sl .ws ([]:List UInt16)]) (ck (nP (a.length<=256)) (ck (nP (b.length<=256)) (ck (nP (v2.length<=256/\v3.length<=256)&&(Gz.jP v2&&Gz.jP v3)) (aaV ([]:List UInt16) 0 (Gz.conv v2 v3) v4 0))))))))=ρ):auB a b=ρ:=Eq.trans (by kernel_rfl) (vg K:)
def ata:cz:=cP gz zs [(292,adD,bz)]
def amD:Hint:=.s .o (.s .o (.s .o (.s (.s .o (.b (.l [(0,.no),(1,.no),(6,.dB 800000),(7,.no),(8,.no),(800000,.pv)] .o))) .o)))
def as9(a:List UInt16)(d:UInt16):OT:=bT PG ata 290 bP amD [.sl .ws a,.u16 d]
def abY(x0:List UInt16)(x1:UInt16)(x2:UInt32)(x3:Int)(x4:List UInt16):OT:=de PG ata 290 bP amD 87 [.sl .ws x0,.u16 x1,.pt,.u32 x2,.i .i64 x3,.sl .ws x4]
theorem ajv(x0:List UInt16)(x1:UInt16)(x2:UInt32)(x3:Int)(x4:List UInt16)(K:∀v1,v1=uq x2 (16:UInt64).toNat->∀v2,v2=List.getD x0 x3.toNat 0->∀v3,v3=UInt32.ofInt (v2.toNat:Int)->∀v4,v4=UInt32.ofInt (x1.toNat:Int)->∀v5,v5=UInt16.ofInt (((v1|||v3)/v4).toNat:Int)->∀v6,v6=List.set x4 x3.toNat v5->∀v7,v7=IntKind.i64.wrap (x3 -1)->∀v8,v8=UInt16.ofInt (x2.toNat:Int)->cond (nP (0<=x3)) (ck (bH x3 x0.length) (ck (!decide (v4=0)) (ck (bH x3 x4.length) (ck (nP (x3.toNat<x4.length)) (ck (!decide (v4=0)) (abY x0 x1 ((v1|||v3)% v4) v7 v6)))))) (ck (nP (x4.length<=1099511627776)) (Bm [.sl .ws (Nt.of (Nt.val x4)),.u16 v8]))=ρ):abY x0 x1 x2 x3 x4=ρ:=mY (by kernel_rfl) (jL (uJ K:):)
theorem as8(a:List UInt16)(d:UInt16)(K:∀v1,v1=List.replicate (a.length:Int).toNat 0->∀v2,v2=IntKind.i64.wrap ((a.length:Int) -1)->ck (tJ (a.length:Int) (a.length:Int) 2) (abY a d 0 v2 v1)=ρ):as9 a d=ρ:=Eq.trans (by kernel_rfl) (nY K:)
def agz:Hint:=.s .o (.s .o (.s .o (.s (.s .o (.b (.l [(1,.no),(5,.dB 800000),(800000,.pv),(6,.no),(9,.no),(10,.no),(11,.no)] .o))) (.j [(5,.dB 800000),(800000,.pv)] .o .o))))
def asD(a:List UInt16)(n:Int):OT:=bT PG eD 237 lA agz [.sl .ws a,.i .i64 n]
def abT(x0:Int)(x1:List UInt16)(x2:UInt32)(x3:List UInt16)(x4 x5:Int):OT:=de PG eD 237 lA agz 87 [.i .i64 x0,.pt,.sl .ws x1,.u32 x2,.sl .ws x3,.i .i64 x4,.i .i64 x5]
def ad9(x0:List UInt16):OT:=dj PG eD 237 lA agz 31 [.pt,.sl .ws x0]
theorem ajp(x0:Int)(x1:List UInt16)(x2:UInt32)(x3:List UInt16)(x4 x5:Int)(K:∀v1,v1=List.getD x3 x5.toNat 0->∀v2,v2=UInt32.ofInt (v1.toNat:Int)->∀v3,v3=(x2|||(uq v2 x0.toNat))->∀v4,v4=UInt16.ofInt (v3.toNat:Int)->∀v5,v5=xW v3 (16:UInt64).toNat->∀v6,v6=IntKind.i64.wrap (x5+1)->∀v7,v7=UInt16.ofInt (x2.toNat:Int)->cond (nP (x5<x4)) (ck (bH x5 x3.length) (ck (nP (0<=x0)) (ck (dU (x1.length+([v4]:List UInt16).length) 2) (abT x0 (x1++([v4]:List UInt16)) v5 x3 x4 v6)))) (cond (nP (0<x2)) (ck (dU (x1.length+([v7]:List UInt16).length) 2) (ad9 (x1++([v7]:List UInt16)))) (ad9 x1))=ρ):abT x0 x1 x2 x3 x4 x5=ρ:=mY (by kernel_rfl) (jL (nY K:):)
theorem ajo(x0:List UInt16):ad9 x0=Bm [.sl .ws x0]:=oa (by kernel_rfl) rfl
theorem asC(a:List UInt16)(n:Int):asD a n=abT n ([]:List UInt16) 0 a (a.length:Int) 0:=by kernel_rfl
def anH:cz:=cP gz zs [(292,adD,bz)]
def ahT:Hint:=.s .o (.s .o (.s (.s .o (.b (.l [(0,.no),(1,.no),(5,.dB 800000),(11,.no),(12,.no),(13,.no),(800000,.pv)] (.s .o (.s .o (.j [(0,.no),(1,.no),(5,.dB 800000),(11,.no),(12,.no),(13,.no),(800000,.pv)] .o .o)))))) .o))
def awk(a:List UInt16)(n:Int):OT:=bT PG anH 293 bz ahT [.sl .ws a,.i .i64 n]
def acG(x0:List UInt16)(x1:Int)(x2:List UInt16)(x3 x4:Int)(x5:List UInt16):OT:=de PG anH 293 bz ahT 43 [.sl .ws x0,.i .i64 x1,.pt,.sl .ws x2,.i .i64 x3,.i .i64 x4,.sl .ws x5]
def aeq(x0:List UInt16)(x1:Int)(x2:List UInt16)(x3 x4:Int)(x5:List UInt16):OT:=dj PG anH 293 bz ahT 459 [.sl .ws x0,.i .i64 x1,.pt,.sl .ws x2,.i .i64 x3,.i .i64 x4,.sl .ws x5]
theorem ako(x0:List UInt16)(x1:Int)(x2:List UInt16)(x3 x4:Int)(x5:List UInt16)(K:∀v1,v1=List.getD x2 x4.toNat 0->∀v2,v2=List.set x5 x4.toNat (uo v1 x1.toNat)->∀v3,v3=IntKind.i64.wrap (x4+1)->∀v4,v4=List.getD v2 x4.toNat 0->∀v5,v5=List.getD x0 v3.toNat 0->∀v6,v6=UInt32.ofInt (v5.toNat:Int)->∀v7,v7=IntKind.i64.wrap (16 -x1)->∀v8,v8=UInt16.ofInt ((uq v6 v7.toNat).toNat:Int)->∀v9,v9=List.set v2 x4.toNat (v4|||v8)->cond (nP (x4<x3)) (ck (bH x4 x2.length) (ck (nP (0<=x1)) (ck (bH x4 x5.length) (ck (nP (x4.toNat<x5.length)) (cond (nP (v3<(x0.length:Int))) (ck (bH x4 v2.length) (ck (nP (x4.toNat<v2.length)) (ck (bH v3 x0.length) (ck (nP (0<=v7)) (ck (bH x4 v2.length) (ck (nP (x4.toNat<v2.length)) (aeq x0 x1 x2 x3 x4 v9))))))) (aeq x0 x1 x2 x3 x4 v2)))))) (ck (nP (x5.length<=1099511627776)) (Bm [.sl .ws (Nt.of (Nt.val x5))]))=ρ):acG x0 x1 x2 x3 x4 x5=ρ:=mY (by kernel_rfl) (jL (vg K:):)
theorem akn(x0:List UInt16)(x1:Int)(x2:List UInt16)(x3 x4:Int)(x5:List UInt16)(K:∀v1,v1=IntKind.i64.wrap (x4+1)->acG x0 x1 x2 x3 v1 x5=ρ):aeq x0 x1 x2 x3 x4 x5=ρ:=oa (by kernel_rfl) (qv K:)
theorem awj(a:List UInt16)(n:Int)(K:∀v1,v1=List.replicate (a.length:Int).toNat 0->ck (tJ (a.length:Int) (a.length:Int) 2) (acG a n a (a.length:Int) 0 v1)=ρ):awk a n=ρ:=Eq.trans (by kernel_rfl) (qv K:)
def abB:Hint:=.s .o (.s .o (.s .o (.s .o (.s (.s .o (.b (.l [(0,.dB 800000),(1,.no),(4,.dB 800001),(6,.no),(7,.no),(800000,.pv),(800001,.pv)] (.s .o (.s (.b (.s .o (.s .o (.j [(0,.dB 800000),(1,.no),(4,.dB 800001),(6,.no),(7,.no),(9,.no),(800000,.pv),(800001,.pv)] (.b (.l [(0,.dB 800000),(1,.no),(4,.dB 800001),(6,.no),(7,.no),(9,.no),(10,.no),(800000,.pv),(800001,.pv)] .o)) (.s .o (.s (.s .o (.b (.l [(0,.dB 800000),(1,.no),(4,.dB 800001),(6,.no),(7,.no),(9,.no),(11,.no),(12,.no),(107,.no),(108,.no),(800000,.pv),(800001,.pv)] .o))) (.s .o (.s .o (.j [(0,.dB 800000),(1,.no),(4,.dB 800001),(6,.no),(7,.no),(9,.no),(800000,.pv),(800001,.pv)] (.s .o (.s (.s .o (.s .o (.s (.s .o (.b (.l [(0,.dB 800000),(1,.no),(4,.dB 800001),(6,.no),(7,.no),(9,.no),(17,.no),(169,.no),(170,.no),(800000,.pv),(800001,.pv)] .o))) .o))) .o)) .o))))))))) .o))))) .o))))
def azg(u v:List UInt16):OT:=bT PG eD 291 Yf abB [.sl .ws u,.sl .ws v]
def adt(x0:List UInt16)(x1 x2:Int)(x3 x4:List UInt16):OT:=de PG eD 291 Yf abB 175 [.pt,.sl .ws x0,.pt,.i .i64 x1,.i .i64 x2,.sl .ws x3,.sl .ws x4]
def aae(x0:List UInt16)(x1 x2:Int)(x3 x4:UInt64)(x5 x6:List UInt16):OT:=de PG eD 291 Yf abB 39215 [.pt,.sl .ws x0,.pt,.i .i64 x1,.i .i64 x2,.u64 x3,.u64 x4,.sl .ws x5,.sl .ws x6]
def aaD(x0:List UInt16)(x1 x2:Int)(x3:UInt64)(x4 x5:List UInt16):OT:=dj PG eD 291 Yf abB 14639 [.pt,.sl .ws x0,.pt,.i .i64 x1,.i .i64 x2,.u64 x3,.sl .ws x4,.sl .ws x5]
def abA(x0:List UInt16)(x1 x2:Int)(x3:UInt64)(x4:Int)(x5:UInt64)(x6 x7:Int)(x8 x9:List UInt16):OT:=de PG eD 291 Yf abB 358703 [.pt,.sl .ws x0,.pt,.i .i64 x1,.i .i64 x2,.u64 x3,.i .i64 x4,.u64 x5,.i .i64 x6,.i .i64 x7,.sl .ws x8,.sl .ws x9]
def abz(x0:List UInt16)(x1 x2:Int)(x3:UInt64)(x4:UInt32)(x5 x6:Int)(x7 x8:List UInt16):OT:=de PG eD 291 Yf abB 90962223 [.pt,.sl .ws x0,.pt,.i .i64 x1,.i .i64 x2,.u64 x3,.u32 x4,.i .i64 x5,.i .i64 x6,.sl .ws x7,.sl .ws x8]
def aaC(x0:List UInt16)(x1 x2:Int)(x3:UInt64)(x4 x5:List UInt16):OT:=dj PG eD 291 Yf abB 522543 [.pt,.sl .ws x0,.pt,.i .i64 x1,.i .i64 x2,.u64 x3,.sl .ws x4,.sl .ws x5]
theorem alj(x0:List UInt16)(x1 x2:Int)(x3 x4:List UInt16)(K:∀v1,v1=(IntKind.i64.wrap (x2+x1)).toNat->∀v2,v2=List.getD x3 v1 0->∀v3,v3=UInt64.ofInt (v2.toNat:Int)->∀v4,v4=kZ v3 (16:UInt64).toNat->∀v5,v5=IntKind.i64.wrap ((IntKind.i64.wrap (x2+x1)) -1)->∀v6,v6=List.getD x3 v5.toNat 0->∀v7,v7=UInt64.ofInt (v6.toNat:Int)->∀v8,v8=IntKind.i64.wrap (x1 -1)->∀v9,v9=List.getD x0 v8.toNat 0->∀v10,v10=UInt64.ofInt (v9.toNat:Int)->cond (nP (0<=x2)) (ck (bH (IntKind.i64.wrap (x2+x1)) x3.length) (ck (nP (v1<x3.length)) (ck (bH v5 x3.length) (ck (nP (v5.toNat<x3.length)) (ck (bH v8 x0.length) (ck (!decide (v10=0)) (ck (bH v8 x0.length) (ck (!decide (v10=0)) (aae x0 x1 x2 ((v4|||v7)/v10) ((v4|||v7)% v10) x3 x4))))))))) (ck (iF 0 x1 x3.length) (Bm [.sl .ws x4,.sl .ws (List.take x1.toNat x3)]))=ρ):adt x0 x1 x2 x3 x4=ρ:=mY (by kernel_rfl) (jL (jL K:):)
theorem ali(x0:List UInt16)(x1 x2:Int)(x3 x4:UInt64)(x5 x6:List UInt16)(K:∀v1,v1=IntKind.i64.wrap (x1 -2)->∀v2,v2=List.getD x0 v1.toNat 0->∀v3,v3=UInt64.ofInt (v2.toNat:Int)->∀v4,v4=kZ x4 (16:UInt64).toNat->∀v5,v5=IntKind.i64.wrap ((IntKind.i64.wrap (x2+x1)) -2)->∀v6,v6=List.getD x5 v5.toNat 0->∀v7,v7=UInt64.ofInt (v6.toNat:Int)->∀v8,v8=nP ((v4|||v7)<(x3*v3))->∀v9,v9=cond (nP (65535<x3)) Qf v8->∀v10,v10=IntKind.i64.wrap (x1 -1)->∀v11,v11=List.getD x0 v10.toNat 0->∀v12,v12=UInt64.ofInt (v11.toNat:Int)->ck (!(!(nP (65535<x3)))||(!(nP (65535<x3)))) (ck (!(!(nP (65535<x3)))||(((!(nP (65535<x3)))&&(!(nP (65535<x3))))&&(bH v1 x0.length))) (ck (!(!(nP (65535<x3)))||(!(nP (65535<x3)))) (ck (!(!(nP (65535<x3)))||(!(nP (65535<x3)))) (ck (!(!(nP (65535<x3)))||((!(nP (65535<x3)))&&(!(nP (65535<x3))))) (ck (!(!(nP (65535<x3)))||(!(nP (65535<x3)))) (ck (!(!(nP (65535<x3)))||((!(nP (65535<x3)))&&(!(nP (65535<x3))))) (ck (!(!(nP (65535<x3)))||(!(nP (65535<x3)))) (ck (!(!(nP (65535<x3)))||(((!(nP (65535<x3)))&&(!(nP (65535<x3))))&&(bH v5 x5.length))) (ck (!(!(nP (65535<x3)))||((!(nP (65535<x3)))&&(nP (v5.toNat<x5.length)))) (ck (!(!(nP (65535<x3)))||(!(nP (65535<x3)))) (ck (!(!(nP (65535<x3)))||((!(nP (65535<x3)))&&(!(nP (65535<x3))))) (ck (!(!(nP (65535<x3)))||((!(nP (65535<x3)))&&(!(nP (65535<x3))))) (ck ((nP (65535<x3))||(!(nP (65535<x3)))) (cond v9 (ck (bH v10 x0.length) (cond (nP (65535<(x4+v12))) (aaD x0 x1 x2 (x3 -1) x5 x6) (aae x0 x1 x2 (x3 -1) (x4+v12) x5 x6))) (aaD x0 x1 x2 x3 x5 x6)))))))))))))))=ρ):aae x0 x1 x2 x3 x4 x5 x6=ρ:=mY (by kernel_rfl) (jL (nY (jL K:):):)
theorem ay8(x0:List UInt16)(x1 x2:Int)(x3:UInt64)(x4 x5:List UInt16):aaD x0 x1 x2 x3 x4 x5=abA x0 x1 x2 x3 0 0 x1 0 x4 x5:=oa (by kernel_rfl) rfl
theorem alm(x0:List UInt16)(x1 x2:Int)(x3:UInt64)(x4:Int)(x5:UInt64)(x6 x7:Int)(x8 x9:List UInt16)(K:∀v1,v1=List.getD x0 x7.toNat 0->∀v2,v2=UInt64.ofInt (v1.toNat:Int)->∀v3,v3=dc ((x3*v2)+x5) (16:UInt64).toNat->∀v4,v4=(IntKind.i64.wrap (x7+x2)).toNat->∀v5,v5=List.getD x8 v4 0->∀v6,v6=IntKind.i64.wrap (v5.toNat:Int)->∀v7,v7=(((x3*v2)+x5)&&&65535)->∀v8,v8=IntKind.i64.wrap (v7.toNat:Int)->∀v9,v9=IntKind.i64.wrap ((IntKind.i64.wrap (v6 -x4)) -v8)->∀v10,v10=Int.fdiv v9 (2^(min (16:UInt64).toNat (IntKind.i64.bits)))->∀v11,v11=da .and .i64 v10 1->∀v12,v12=List.set x8 v4 (UInt16.ofInt v9)->∀jQ,jQ=IntKind.i64.wrap (x7+1)->∀iW,iW=(IntKind.i64.wrap (x2+x1)).toNat->∀jb,jb=List.getD x8 iW 0->∀lU,lU=IntKind.i64.wrap (jb.toNat:Int)->∀sQ,sQ=IntKind.i64.wrap (lU -x4)->∀s9,s9=IntKind.i64.wrap (x5.toNat:Int)->∀pn,pn=IntKind.i64.wrap (sQ -s9)->∀v20,v20=List.set x8 iW (UInt16.ofInt pn)->cond (nP (x7<x6)) (ck (bH x7 x0.length) (ck (bH (IntKind.i64.wrap (x7+x2)) x8.length) (ck (nP (v4<x8.length)) (ck (bH (IntKind.i64.wrap (x7+x2)) x8.length) (ck (nP (v4<x8.length)) (abA x0 x1 x2 x3 v11 v3 x6 jQ v12 x9)))))) (ck (bH (IntKind.i64.wrap (x2+x1)) x8.length) (ck (nP (iW<x8.length)) (ck (bH (IntKind.i64.wrap (x2+x1)) x8.length) (ck (nP (iW<x8.length)) (cond (nP (pn<0)) (abz x0 x1 x2 (x3 -1) 0 x1 0 v20 x9) (aaC x0 x1 x2 x3 v20 x9))))))=ρ):abA x0 x1 x2 x3 x4 x5 x6 x7 x8 x9=ρ:=mY (by kernel_rfl) (jL (jL (jL (jL K:):):):)
theorem alk(x0:List UInt16)(x1 x2:Int)(x3:UInt64)(x4:UInt32)(x5 x6:Int)(x7 x8:List UInt16)(K:∀v1,v1=(IntKind.i64.wrap (x6+x2)).toNat->∀v2,v2=List.getD x7 v1 0->∀v3,v3=UInt32.ofInt (v2.toNat:Int)->∀v4,v4=List.getD x0 x6.toNat 0->∀v5,v5=UInt32.ofInt (v4.toNat:Int)->∀v6,v6=UInt16.ofInt ((x4+(v3+v5)).toNat:Int)->∀v7,v7=xW (x4+(v3+v5)) (16:UInt64).toNat->∀v8,v8=IntKind.i64.wrap (x6+1)->∀v9,v9=(IntKind.i64.wrap (x2+x1)).toNat->∀v10,v10=List.getD x7 v9 0->∀v11,v11=UInt16.ofInt (x4.toNat:Int)->∀v12,v12=List.set x7 v9 (v10+v11)->cond (nP (x6<x5)) (ck (bH (IntKind.i64.wrap (x6+x2)) x7.length) (ck (nP (v1<x7.length)) (ck (bH x6 x0.length) (ck (bH (IntKind.i64.wrap (x6+x2)) x7.length) (ck (nP (v1<x7.length)) (abz x0 x1 x2 x3 v7 x5 v8 (List.set x7 v1 v6) x8)))))) (ck (bH (IntKind.i64.wrap (x2+x1)) x7.length) (ck (nP (v9<x7.length)) (ck (bH (IntKind.i64.wrap (x2+x1)) x7.length) (ck (nP (v9<x7.length)) (aaC x0 x1 x2 x3 v12 x8)))))=ρ):abz x0 x1 x2 x3 x4 x5 x6 x7 x8=ρ:=mY (by kernel_rfl) (jL (nY (jL K:):):)
theorem aze(x0:List UInt16)(x1 x2:Int)(x3:UInt64)(x4 x5:List UInt16)(K:∀v1,v1=UInt16.ofInt (x3.toNat:Int)->∀v2,v2=List.set x5 x2.toNat v1->∀v3,v3=IntKind.i64.wrap (x2 -1)->ck (bH x2 x5.length) (ck (nP (x2.toNat<x5.length)) (adt x0 x1 v3 x4 v2))=ρ):aaC x0 x1 x2 x3 x4 x5=ρ:=oa (by kernel_rfl) (uJ K:)
theorem azc(u v:List UInt16)(K:∀v1,v1=([0]:List UInt16)->∀v2,v2=IntKind.i64.wrap (((u++v1).length:Int) -(v.length:Int))->∀v3,v3=List.replicate v2.toNat 0->∀v4,v4=IntKind.i64.wrap (v2 -1)->ck (dU (u.length+v1.length) 2) (ck (tJ v2 v2 2) (adt v (v.length:Int) v4 (u++v1) v3))=ρ):azg u v=ρ:=Eq.trans (by kernel_rfl) (vg K:)
def azR:cz:=cP gz zs [(194,abF,bz),(236,Yh,bz),(237,agB,lA),(238,ahJ,bz),(288,agb,bz),(289,af2,lA),(290,agL,bP),(291,aoD,Yf),(292,adD,bz),(293,anG,bz)]
def apI(a b:List UInt16):OT:=bT PG azR 241 jh (.o) [.sl .ws a,.sl .ws b]
theorem apH(a b:List UInt16)(K:∀v1,v1=cond (!(Nt.is a)) Qf (!(Nt.is b))->∀v2,v2=cond v1 Qf (nP ((b.length:Int)=0))->∀v3,v3=Nt.cmp (Nt.val a) (Nt.val b)->∀v4,v4=List.getD b (0:Int).toNat 0->∀v5,v5=Nt.of (Nt.val a/v4.toNat)->∀v6,v6=UInt16.ofNat (Nt.val a% v4.toNat)->∀v7,v7=UInt64.ofInt (v6.toNat:Int)->∀v8,v8=IntKind.i64.wrap ((b.length:Int) -1)->∀v9,v9=List.getD b v8.toNat 0->∀v10,v10=IntKind.i64.wrap (16 -(Nt.bits v9.toNat:Int))->∀v11,v11=Nt.of (Nt.val a*2^v10.toNat)->∀v12,v12=Nt.of (Nt.val b*2^v10.toNat)->∀jQ,jQ=Nt.fix (v11.length+1 -v12.length) (Nt.val v11/Nt.val v12)->∀iW,iW=Nt.fix v12.length (Nt.val v11% Nt.val v12)->∀jb,jb=Nt.of (Nt.val (Nt.of (Nt.val iW))/2^v10.toNat)->ck (nP (a.length<=1099511627776)) (ck (!(!(!(Nt.is a)))||((!(!(Nt.is a)))&&(nP (b.length<=1099511627776)))) (ck (!(!(!(Nt.is a)))||(!(!(Nt.is a)))) (ck ((!(Nt.is a))||(!(!(Nt.is a)))) (ck (!(!v1)||(!v1)) (ck (!(!v1)||(!v1)) (ck (v1||(!v1)) (cond v2 (Bm [.sl .ws ([]:List UInt16),.sl .ws ([]:List UInt16),.b Qg]) (ck (nP (a.length<=1099511627776/\b.length<=1099511627776)&&(Nt.norm a&&Nt.norm b)) (cond (nP (v3<0)) (ck (dU a.length 2) (Bm [.sl .ws ([]:List UInt16),.sl .ws a,.b Qf])) (cond (nP ((b.length:Int)=1)) (ck (bH 0 b.length) (ck (nP (a.length<=1000000/\v4≠0)) (Bm [.sl .ws v5,.sl .ws (Nt.of v7.toNat),.b Qf]))) (ck (bH v8 b.length) (ck (nP (a.length<=1000000/\0<=v10/\v10<16)&&Nt.norm a) (ck (nP (b.length<=1000000/\0<=v10/\v10<16)&&Nt.norm b) (ck (nP (v11.length<=1000000/\2<=v12.length/\v12.length<=v11.length/\32768<=(v12.getLast?.getD 0).toNat)) (ck (nP (jQ.length<=1099511627776)) (ck (nP (iW.length<=1099511627776)) (ck (nP ((Nt.of (Nt.val iW)).length<=1000000/\0<=v10/\v10<16)) (Bm [.sl .ws (Nt.of (Nt.val jQ)),.sl .ws jb,.b Qf]))))))))))))))))))=ρ):apI a b=ρ:=Eq.trans (by kernel_rfl) (jL (jL (jL K:):):)
def azI:cz:=cP gz zs [(236,Yh,bz),(237,agB,lA)]
def aoT(a:List UInt16)(n:Int):OT:=bT PG azI 195 bz (.o) [.sl .ws a,.i .i64 n]
theorem aoS(a:List UInt16)(n:Int)(K:∀v1,v1=cond (!(Nt.is a)) Qf (nP (n<(0:Int)))->∀v2,v2=cond v1 Qf (nP ((4096:Int)<n))->∀v3,v3=cond v2 Qf (nP ((a.length:Int)=(0:Int)))->∀v4,v4=IntKind.i64.wrap (Int.tdiv n (16:Int))->∀v5,v5=List.replicate v4.toNat (0:UInt16)->∀v6,v6=Nt.of (Nt.val a*2^(Int.tmod n (16:Int)).toNat)->ck (nP (a.length<=1099511627776)) (ck (!(!(!(Nt.is a)))||(!(!(Nt.is a)))) (ck ((!(Nt.is a))||(!(!(Nt.is a)))) (ck (!(!v1)||(!v1)) (ck (v1||(!v1)) (ck (!(!v2)||(!v2)) (ck (!(!v2)||(!v2)) (ck (v2||(!v2)) (cond v3 (Bm [.sl .ws ([]:List UInt16)]) (ck (!decide ((16:Int)=0)) (ck (tJ v4 v4 2) (ck (!decide ((16:Int)=0)) (ck (nP (a.length<=1000000/\0<=(Int.tmod n (16:Int))/\(Int.tmod n (16:Int))<16)&&Nt.norm a) (ck (dU (v5.length+v6.length) 2) (Bm [.sl .ws (v5++v6)]))))))))))))))=ρ):aoT a n=ρ:=Eq.trans (by kernel_rfl) (jL (qv K:):)
def ahu:Hint:=.s .o (.s .o (.s .o (.s (.s .o (.b (.l [(1,.no),(7,.dB 800000),(800000,.pv),(8,.no),(16,.no),(17,.no),(18,.no)] .o))) (.j [(7,.dB 800000),(800000,.pv)] .o .o))))
def avb(a:List UInt16)(b c:Int):OT:=bT PG eD 325 bz ahu [.sl .ws a,.i .i64 b,.i .i64 c]
def acm(x0:Int)(x1:List UInt16)(x2:Int)(x3:List UInt16)(x4 x5:Int):OT:=de PG eD 325 bz ahu 87 [.i .i64 x0,.pt,.sl .ws x1,.i .i64 x2,.sl .ws x3,.i .i64 x4,.i .i64 x5]
def aen(x0:List UInt16):OT:=dj PG eD 325 bz ahu 31 [.pt,.sl .ws x0]
theorem aj2(x0:Int)(x1:List UInt16)(x2:Int)(x3:List UInt16)(x4 x5:Int)(K:∀v1,v1=List.getD x3 x5.toNat 0->∀v2,v2=IntKind.i64.wrap (v1.toNat:Int)->∀v3,v3=IntKind.i64.wrap (x2+(IntKind.i64.wrap (v2*x0)))->∀v4,v4=([UInt16.ofInt v3]:List UInt16)->∀v5,v5=Int.fdiv v3 (2^(min (16:UInt64).toNat (IntKind.i64.bits)))->∀v6,v6=IntKind.i64.wrap (x5+1)->∀v7,v7=([UInt16.ofInt x2]:List UInt16)->cond (nP (x5<x4)) (ck (bH x5 x3.length) (ck (dU (x1.length+v4.length) 2) (acm x0 (x1++v4) v5 x3 x4 v6))) (cond (nP (0<x2)) (ck (dU (x1.length+v7.length) 2) (aen (x1++v7))) (aen x1))=ρ):acm x0 x1 x2 x3 x4 x5=ρ:=mY (by kernel_rfl) (jL (nY K:):)
theorem aj1(x0:List UInt16):aen x0=Bm [.sl .ws x0]:=oa (by kernel_rfl) rfl
theorem ava(a:List UInt16)(b c:Int)(K:∀v1,v1=IntKind.i64.wrap ((a.length:Int)+1)->∀v2,v2=List.replicate (0:Int).toNat 0->ck (tJ 0 v1 2) (acm b v2 c a (a.length:Int) 0)=ρ):avb a b c=ρ:=Eq.trans (by kernel_rfl) (nY K:)
def awg:cz:=cP gz zs [(194,abF,bz),(236,Yh,bz),(325,ahw,bz)]
def anF:Hint:=.s .o (.s .o (.s .o (.s (.b (.l (sc [0,1,6]) .o)) .o)))
def awf(b e:Int):OT:=bT PG awg 286 bP anF [.i .i64 b,.i .i64 e]
def acF(x0 x1:Int)(x2:List UInt16):OT:=de PG awg 286 bP anF 39 [.i .i64 x0,.i .i64 x1,.sl .ws x2]
theorem akm(x0 x1:Int)(x2:List UInt16)(K:∀v1,v1=Nt.of (Nt.val x2*x0.toNat+(0:Int).toNat)->∀v2,v2=IntKind.i64.wrap (x1 -(1:Int))->cond (nP ((0:Int)<x1)) (ck (nP (x2.length<=1000000/\1<=x0/\x0<=65535/\0<=(0:Int)/\(0:Int)<=65535)&&Nt.norm x2) (ck (nP (v1.length<=1099511627776)) (cond (!(Nt.is v1)) (Bm [.sl .ws ([]:List UInt16),.b Qg]) (acF x0 v2 v1)))) (Bm [.sl .ws x2,.b Qf])=ρ):acF x0 x1 x2=ρ:=mY (by kernel_rfl) (nY K:)
theorem awe(b e:Int)(K:∀v1,v1=cond (nP (b<0)) Qf (nP (65535<b))->∀v2,v2=cond v1 Qf (nP (e<0))->∀v3,v3=cond (nP (e=0)) Qf (nP (b=1))->∀v4,v4=Nt.of (1:UInt64).toNat->ck (!(!(nP (b<0)))||(!(nP (b<0)))) (ck ((nP (b<0))||(!(nP (b<0)))) (ck (!(!v1)||(!v1)) (ck (v1||(!v1)) (cond v2 (Bm [.sl .ws ([]:List UInt16),.b Qg]) (ck (!(!(nP (e=0)))||(!(nP (e=0)))) (ck ((nP (e=0))||(!(nP (e=0)))) (cond v3 (Bm [.sl .ws v4,.b Qf]) (cond (nP (b=0)) (Bm [.sl .ws ([]:List UInt16),.b Qf]) (acF b e v4)))))))))=ρ):awf b e=ρ:=Eq.trans (by kernel_rfl) (vg K:)
end Go.Eng
namespace Go.Eng
open Go.Proofs
variable{ρ:OT}
def auG:cz:=cP gz zs [(236,Yh,bz),(325,ahw,bz)]
def am3:Hint:=.s .o (.s .o (.s .o (.s (.s .o (.b (.l (sc [0,4,24,25]) .o))) .o)))
def auF(s:bE):OT:=bT PG auG 335 bP am3 [.s s]
def acd(x0:bE)(x1:List UInt16)(x2 x3:Int):OT:=de PG auG 335 bP am3 87 [.s x0,.sl .ws x1,.i .i64 x2,.i .i64 x3]
theorem ajU(x0:bE)(x1:List UInt16)(x2 x3:Int)(K:∀v1,v1=List.getD x0 x3.toNat (0:UInt8)->∀v2,v2=cond (nP (v1<(48:UInt8))) Qf (nP ((57:UInt8)<v1))->∀v3,v3=IntKind.i64.wrap ((v1 -(48:UInt8)).toNat:Int)->∀v4,v4=Nt.of (Nt.val x1*(10:Int).toNat+v3.toNat)->∀v5,v5=IntKind.i64.wrap (x3+(1:Int))->cond (nP (x3<x2)) (ck (bH x3 x0.length) (ck (!(!(nP (v1<(48:UInt8))))||(((!(nP (v1<(48:UInt8))))&&(!(nP (v1<(48:UInt8)))))&&(bH x3 x0.length))) (ck (!(!(nP (v1<(48:UInt8))))||(!(nP (v1<(48:UInt8))))) (ck ((nP (v1<(48:UInt8)))||(!(nP (v1<(48:UInt8))))) (cond v2 (Bm [.sl .ws ([]:List UInt16),.b Qg]) (ck (bH x3 x0.length) (ck (nP (x1.length<=1000000/\1<=(10:Int)/\(10:Int)<=65535/\0<=v3/\v3<=65535)&&Nt.norm x1) (acd x0 v4 x2 v5)))))))) (ck (nP (x1.length<=1099511627776)) (cond (!(Nt.is x1)) (Bm [.sl .ws ([]:List UInt16),.b Qg]) (Bm [.sl .ws x1,.b Qf])))=ρ):acd x0 x1 x2 x3=ρ:=mY (by kernel_rfl) (jL K:)
theorem auE(s:bE)(K:∀v1,v1=cond (nP (s=[])) Qf (nP (1240<(s.length:Int)))->∀v2,v2=List.getD s (0:Int).toNat 0->∀v3,v3=((!v1)&&(nP (v2=48)))->∀v4,v4=cond (nP (v2=48)) (nP (1<(s.length:Int))) Qg->ck (!(!(nP (s=[])))||(!(nP (s=[])))) (ck (!(!(nP (s=[])))||(!(nP (s=[])))) (ck ((nP (s=[]))||(!(nP (s=[])))) (ck (!(!v1)||((!v1)&&(bH 0 s.length))) (ck (!(!v1)||(!v1)) (ck (!(!v1)||(!v1)) (ck (!v3||v3) (ck (!v3||v3) (ck (!(!v1)||((!v1)&&(!(nP (v2=48))||v3))) (ck (v1||(!v1)) (cond (cond v1 Qf v4) (Bm [.sl .ws ([]:List UInt16),.b Qg]) (acd s ([]:List UInt16) (s.length:Int) 0)))))))))))=ρ):auF s=ρ:=Eq.trans (by kernel_rfl) (vg K:)
def aue:cz:=cP gz zs [(302,WC,bz),(340,alq,bz)]
def amT:Hint:=.s .o (.s .o (.j (sc [1,2,8]) .o .o))
def aud(n:Bool)(m:UInt64)(e:Int):OT:=bT PG aue 363 bP amT [.b n,.u64 m,.i .i64 e]
def ab7(x0:UInt64)(x1:Int)(x2:UInt64):OT:=dj PG aue 363 bP amT 7 [.u64 x0,.i .i64 x1,.u64 x2]
theorem aub(x0:UInt64)(x1:Int)(x2:UInt64)(K:∀v1,v1=cond (nP (x1<(-2000))) Qf (nP (2000<x1))->∀v2,v2=(Lib.ctz 64 x0.toNat:Int)->∀v3,v3=(Nt.bits (dc x0 v2.toNat).toNat:Int)->∀v4,v4=cond (nP (53<v3)) Qf (nP ((IntKind.i64.wrap (x1+v2))<(-1074)))->∀v5,v5=IntKind.i64.wrap ((IntKind.i64.wrap (x1+v2))+v3)->∀v6,v6=cond v4 Qf (nP (1024<v5))->∀v7,v7=IntKind.i64.wrap (v5 -1)->∀v8,v8=IntKind.i64.wrap ((IntKind.i64.wrap (x1+v2))+1074)->∀v9,v9=kZ (dc x0 v2.toNat) v8.toNat->∀v10,v10=IntKind.i64.wrap (53 -v3)->∀v11,v11=kZ (dc x0 v2.toNat) v10.toNat->∀v12,v12=IntKind.i64.wrap ((IntKind.i64.wrap (x1+v2)) -v10)->∀jQ,jQ=IntKind.i64.wrap (v12+1075)->∀iW,iW=kZ (UInt64.ofInt jQ) (52:UInt64).toNat->∀jb,jb=(v11&&&4503599627370495)->cond (nP (x0=0)) (Bm [.u64 x2,.b Qf]) (ck (!(!(nP (x1<(-2000))))||(!(nP (x1<(-2000))))) (ck ((nP (x1<(-2000)))||(!(nP (x1<(-2000))))) (cond v1 (Bm [.u64 0,.b Qg]) (ck (nP (0<=v2)) (ck (!(!(nP (53<v3)))||(!(nP (53<v3)))) (ck ((nP (53<v3))||(!(nP (53<v3)))) (ck (!(!v4)||((!v4)&&(!v4))) (ck (!(!v4)||(!v4)) (ck (v4||(!v4)) (cond v6 (Bm [.u64 0,.b Qg]) (cond (nP (v7<(-1022))) (ck (nP (0<=v8)) (Bm [.u64 (x2|||v9),.b Qf])) (ck (nP (0<=v10)) (Bm [.u64 ((x2|||iW)|||jb),.b Qf])))))))))))))=ρ):ab7 x0 x1 x2=ρ:=oa (by kernel_rfl) (jL (jL (jL K:):):)
theorem auc(n:Bool)(m:UInt64)(e:Int):aud n m e=cond n (ab7 m e 9223372036854775808) (ab7 m e 0):=by kernel_rfl
def avV:cz:=cP gz zs [(195,adO,bz),(240,adY,bz),(241,afa,jh),(375,am6,bP)]
def anv:Hint:=.s .o (.j (sc [0,1]) .o .o)
def avU(a b:List UInt16)(e:Int):OT:=bT PG avV 362 bP anv [.sl .ws a,.sl .ws b,.i .i64 e]
def acx(x0 x1:List UInt16):OT:=dj PG avV 362 bP anv 3 [.sl .ws x0,.sl .ws x1]
theorem avR(x0 x1:List UInt16)(K:∀v1,v1=Nt.of (Nt.val x0/Nt.val x1)->∀v2,v2=Nt.of (Nt.val x0% Nt.val x1)->∀v3,v3=Nt.of (Nt.val v2*2^(1:Int).toNat)->∀v4,v4=Nt.cmp (Nt.val v3) (Nt.val x1)->∀v5,v5=((!(nP ((0:Int)<v4)))&&(nP (v4=(0:Int))))->∀v6,v6=(UInt64.ofNat (Nt.val v1))%(2:UInt64)->∀v7,v7=cond (nP (v4=(0:Int))) (nP (v6=(1:UInt64))) Qg->∀v8,v8=cond (nP ((0:Int)<v4)) Qf v7->∀v9,v9=(UInt64.ofNat (Nt.val v1))+(1:UInt64)->ck (Nt.is x0&&Nt.is x1&&nP (x1≠[])) (ck (nP (Nt.is v1=Qf/\v1.length<=4)) (ck (nP (0<=(1:Int)/\(1:Int)<=4096)&&Nt.is v2) (ck (Nt.is v3&&Nt.is x1) (ck (!(!(nP ((0:Int)<v4)))||(!(nP ((0:Int)<v4)))) (ck (!(!(nP ((0:Int)<v4)))||(!(nP ((0:Int)<v4)))) (ck (!v5||(v5&&(!decide ((2:UInt64)=0)))) (ck (!v5||v5) (ck (!(!(nP ((0:Int)<v4)))||((!(nP ((0:Int)<v4)))&&(!(nP (v4=(0:Int)))||v5))) (ck ((nP ((0:Int)<v4))||(!(nP ((0:Int)<v4)))) (cond v8 (Bm [.u64 v9,.b (nP (v9=(9007199254740992:UInt64)))]) (Bm [.u64 (UInt64.ofNat (Nt.val v1)),.b Qg])))))))))))=ρ):acx x0 x1=ρ:=oa (by kernel_rfl) (jL (vg K:):)
theorem avT(a b:List UInt16)(e:Int)(K:∀v1,v1=Nt.of (Nt.val a*2^(IntKind.i64.wrap (0 -e)).toNat)->∀v2,v2=Nt.of (Nt.val b*2^e.toNat)->cond (nP (e<0)) (ck (nP (0<=(IntKind.i64.wrap (0 -e))/\(IntKind.i64.wrap (0 -e))<=4096)&&Nt.is a) (acx v1 b)) (ck (nP (0<=e/\e<=4096)&&Nt.is b) (acx a v2))=ρ):avU a b e=ρ:=Eq.trans (by kernel_rfl) (nY K:)
def au6:cz:=cP gz zs [(196,afT,bz),(362,anw,bP),(363,amU,bP)]
def ane:Hint:=.s .o (.s .o (.s .o (.j (sc [6,7]) .o .o)))
def au5(a b:List UInt16):OT:=bT PG au6 336 bP ane [.sl .ws a,.sl .ws b]
def ack(x0:Int)(x1:UInt64):OT:=dj PG au6 336 bP ane 15 [.i .i64 x0,.u64 x1]
theorem au3(x0:Int)(x1:UInt64)(K:∀v1,v1=Nr.pat (Nr.join Qg x1.toNat x0)->∀v2,v2=(Nr.join Qg x1.toNat x0).isSome->ck (nP (-1100<=x0/\x0<=2000)) (Bm [.u64 v1,.b v2])=ρ):ack x0 x1=ρ:=oa (by kernel_rfl) (nY K:)
theorem au4(a b:List UInt16)(K:∀v1,v1=IntKind.i64.wrap ((Nt.bits (Nt.val a):Int) -(Nt.bits (Nt.val b):Int))->∀v2,v2=IntKind.i64.wrap (v1 -53)->∀v3,v3=UInt64.ofNat (Nr.zD (Nr.lP (Nt.val a) (pQ v2 (-1074))) (Nr.lB (Nt.val b) (pQ v2 (-1074))))->∀v4,v4=Nr.pr (Nr.lP (Nt.val a) (pQ v2 (-1074))) (Nr.lB (Nt.val b) (pQ v2 (-1074)))->∀v5,v5=cond (nP (9007199254740992<=v3)) (!v4) Qg->∀v6,v6=IntKind.i64.wrap ((pQ v2 (-1074))+1)->∀v7,v7=UInt64.ofNat (Nr.zD (Nr.lP (Nt.val a) v6) (Nr.lB (Nt.val b) v6))->∀v8,v8=Nr.pr (Nr.lP (Nt.val a) v6) (Nr.lB (Nt.val b) v6)->ck (Nt.is a) (ck (Nt.is b) (ck (Nt.is a&&Nt.is b&&nP (-4096<=(pQ v2 (-1074))/\(pQ v2 (-1074))<=4096/\0<Nt.val b/\Nr.lP (Nt.val a) (pQ v2 (-1074))<2^4090/\Nr.lB (Nt.val b) (pQ v2 (-1074))<2^4090/\Nr.lP (Nt.val a) (pQ v2 (-1074))<2^60*Nr.lB (Nt.val b) (pQ v2 (-1074)))) (ck (!(nP (9007199254740992<=v3))||(nP (9007199254740992<=v3))) (ck (!(nP (9007199254740992<=v3))||(nP (9007199254740992<=v3))) (cond v5 (ck (Nt.is a&&Nt.is b&&nP (-4096<=v6/\v6<=4096/\0<Nt.val b/\Nr.lP (Nt.val a) v6<2^4090/\Nr.lB (Nt.val b) v6<2^4090/\Nr.lP (Nt.val a) v6<2^60*Nr.lB (Nt.val b) v6)) (ack v6 v7)) (ack (pQ v2 (-1074)) v3))))))=ρ):au5 a b=ρ:=Eq.trans (by kernel_rfl) (jL (uJ K:):)
def auj:cz:=cP gz zs [(194,abF,bz),(286,ahS,bP),(287,ahk,bz),(295,afm,bz),(314,afn,bz),(334,alu,bz),(335,am4,bP),(336,anf,bP)]
def amV:Hint:=.s .o (.s .o (.s .o (.s .o (.s .o (.s .o (.s .o (.s .o (.s .o (.s .o (.j (sc [7,9]) .o .o))))))))))
def aui(d:bE)(x:Int):OT:=bT PG auj 296 bP amV [.s d,.i .i64 x]
def ab8(x0 x1:List UInt16):OT:=dj PG auj 296 bP amV 2047 [.sl .ws x0,.sl .ws x1]
theorem aug(x0 x1:List UInt16)(K:∀v1,v1=Nr.pat (Nr.kz (Nt.val x0) (Nt.val x1))->∀v2,v2=(Nr.kz (Nt.val x0) (Nt.val x1)).isSome->ck (Nt.is x0&&Nt.is x1&&nP (0<Nt.val x0/\0<Nt.val x1/\Nt.val x0<2^1100/\Nt.val x1<2^2200)) (Bm [.u64 v1,.b v2])=ρ):ab8 x0 x1=ρ:=oa (by kernel_rfl) (nY K:)
theorem auh(d:bE)(x:Int)(K:∀(v1:Bool)(h1:v1=(cond (nP (((d).length:Int)<(1:Int))) Qf (nP ((300:Int)<((d).length:Int)))))(v2:bE)(h2:v2=(Lib.trimS d (([48,49,50,51,52,53,54,55,56,57]:bE))))(v3:Bool)(h3:v3=(cond v1 Qf (!decide (v2=([]:bE)))))(v4:bE)(h4:v4=(Lib.trimLeftS d (([48]:bE))))(v5:Bool)(h5:v5=(cond (nP (v4=([]:bE))) Qf (nP (x<(-1000:Int)))))(v6:Int)(h6:v6=(IntKind.i64.wrap (((d).length:Int) -((v4).length:Int))))(v7:bE)(h7:v7=(Lib.trimRightS v4 (([48]:bE))))(v8:List UInt16)(h8:v8=(Nt.of (((1:UInt64))).toNat))(v9:Int)(h9:v9=(IntKind.i64.wrap ((IntKind.i64.wrap (x -v6)) -((v7).length:Int))))(v10:List UInt16)(kv:v10=(Nt.of ((((10:Int))).toNat^(v9).toNat)))(v11:List UInt16)(nK:v11=(Nt.of (Nt.val ((Nt.of (Nr.num v7)))*Nt.val v10)))(v12:List UInt16)(mS:v12=(Nt.of ((((10:Int))).toNat^(((IntKind.i64.wrap (0 -v9)))).toNat))),ck (!(!(nP (((d).length:Int)<(1:Int))))||(!(nP (((d).length:Int)<(1:Int))))) (ck (!(!(nP (((d).length:Int)<(1:Int))))||(!(nP (((d).length:Int)<(1:Int))))) (ck ((nP (((d).length:Int)<(1:Int)))||(!(nP (((d).length:Int)<(1:Int))))) (ck (!(!v1)||((!v1)&&(nP ((d).length<=1099511627776/\((([48,49,50,51,52,53,54,55,56,57]:bE))).length<=100)&&((([48,49,50,51,52,53,54,55,56,57]:bE))).all (λb=>nP (b.toNat<128))))) (ck (!(!v1)||(!v1)) (ck (v1||(!v1)) (cond v3 (Bm [(.u64 0),(.b Qg)]) (ck (nP ((d).length<=1099511627776/\((([48]:bE))).length<=100)&&((([48]:bE))).all (λb=>nP (b.toNat<128))) (ck (!(!(nP (v4=([]:bE))))||(!(nP (v4=([]:bE))))) (ck ((nP (v4=([]:bE)))||(!(nP (v4=([]:bE))))) (cond v5 (Bm [(.u64 0),(.b Qf)]) (cond (nP ((1000:Int)<x)) (Bm [(.u64 0),(.b Qg)]) (ck (nP ((v4).length<=1099511627776/\((([48]:bE))).length<=100)&&((([48]:bE))).all (λb=>nP (b.toNat<128))) (cond (nP ((IntKind.i64.wrap (x -v6))<(-330:Int))) (Bm [(.u64 0),(.b Qf)]) (cond (nP ((310:Int)<(IntKind.i64.wrap (x -v6)))) (Bm [(.u64 0),(.b Qg)]) (ck (nP (1<=(v7).length/\(v7).length<=300/\(v7).getD 0 0≠48)&&(v7).all Nr.fu) (cond (nP ((0:Int)<=v9)) (ck (nP (2<=((10:Int))/\((10:Int))<=65535/\0<=v9/\v9<=1000/\(((10:Int))).toNat^(v9).toNat<2^4096)) (ck (Nt.is ((Nt.of (Nr.num v7)))&&Nt.is v10) (ab8 v11 v8))) (ck (nP (2<=((10:Int))/\((10:Int))<=65535/\0<=((IntKind.i64.wrap (0 -v9)))/\((IntKind.i64.wrap (0 -v9)))<=1000/\(((10:Int))).toNat^(((IntKind.i64.wrap (0 -v9)))).toNat<2^4096)) (ab8 (Nt.of (Nr.num v7)) v12))))))))))))))))))=ρ):aui d x=ρ:=Eq.trans (by kernel_rfl) (K _ rfl _ rfl _ rfl _ rfl _ rfl _ rfl _ rfl _ rfl _ rfl _ rfl _ rfl _ rfl)
def aoR(s:bE)(at_:Int)(c d:UInt8):OT:=bT PG eD 147 bz (.o) [.s s,.i .i64 at_,.u8 c,.u8 d]
theorem aoQ(s:bE)(at_:Int)(c d:UInt8)(K:∀v1,v1=List.getD s at_.toNat 0->∀v2,v2=((nP (at_<(s.length:Int)))&&(!(nP (v1=c))))->∀v3,v3=cond (nP (v1=c)) Qf (nP (v1=d))->∀v4,v4=cond (nP (at_<(s.length:Int))) v3 Qg->ck (!(nP (at_<(s.length:Int)))||(((nP (at_<(s.length:Int)))&&(nP (at_<(s.length:Int))))&&(bH at_ s.length))) (ck (!(nP (at_<(s.length:Int)))||((nP (at_<(s.length:Int)))&&(nP (at_<(s.length:Int))))) (ck (!(nP (at_<(s.length:Int)))||(nP (at_<(s.length:Int)))) (ck (!v2||((v2&&v2)&&(bH at_ s.length))) (ck (!v2||(v2&&v2)) (ck (!(nP (at_<(s.length:Int)))||((nP (at_<(s.length:Int)))&&((nP (v1=c))||v2))) (ck (!(nP (at_<(s.length:Int)))||(nP (at_<(s.length:Int)))) (Bm [.b v4])))))))=ρ):aoR s at_ c d=ρ:=Eq.trans (by kernel_rfl) (vg K:)
def anA:Hint:=.s .o (.s (.b (.l (sc [0,1]) .o)) .o)
def av4(s:bE)(at_:Int):OT:=bT PG eD 148 bz anA [.s s,.i .i64 at_]
def acA(x0:bE)(x1:Int):OT:=de PG eD 148 bz anA 9 [.s x0,.i .i64 x1]
theorem aki(x0:bE)(x1:Int)(K:∀v1,v1=List.getD x0 x1.toNat 0->∀v2,v2=cond (nP (x1<(x0.length:Int))) (nP (48<=v1)) Qg->∀v3,v3=cond v2 (nP (v1<=57)) Qg->∀v4,v4=IntKind.i64.wrap (x1+1)->ck (!(nP (x1<(x0.length:Int)))||(((nP (x1<(x0.length:Int)))&&(nP (x1<(x0.length:Int))))&&(bH x1 x0.length))) (ck (!(nP (x1<(x0.length:Int)))||(nP (x1<(x0.length:Int)))) (ck (!(nP (x1<(x0.length:Int)))||(nP (x1<(x0.length:Int)))) (ck (!v2||((v2&&v2)&&(bH x1 x0.length))) (ck (!v2||v2) (ck (!v2||v2) (cond v3 (acA x0 v4) (Bm [.i .i64 x1])))))))=ρ):acA x0 x1=ρ:=mY (by kernel_rfl) (vg K:)
theorem av3(s:bE)(at_:Int):av4 s at_=acA s at_:=by kernel_rfl
def aeM:cz:=cP gz zs [(147,aly,bz),(148,anB,bz)]
def adK:Hint:=.s .o (.s .o (.j (sc [0,3,4]) .o (.s .o (.s .o (.s .o (.j (sc [0,3,4]) .o (.j (sc [0,3,4]) (.s .o (.s (.s .o (.s .o (.j (sc [0,3,4]) .o .o))) .o)) .o)))))))
def azl(s:bE):OT:=bT PG aeM 100 bz adK [.s s]
def adx(x0:bE)(x1 x2:Int):OT:=dj PG aeM 100 bz adK 7 [.s x0,.i .i64 x1,.i .i64 x2]
def adw(x0:bE)(x1 x2:Int):OT:=dj PG aeM 100 bz adK 127 [.s x0,.i .i64 x1,.i .i64 x2]
def adv(x0:bE)(x1 x2:Int):OT:=dj PG aeM 100 bz adK 7551 [.s x0,.i .i64 x1,.i .i64 x2]
def adu(x0:bE)(x1 x2:Int):OT:=dj PG aeM 100 bz adK 255 [.s x0,.i .i64 x1,.i .i64 x2]
theorem azj(x0:bE)(x1 x2:Int)(K:∀v1,v1=x1+(Nr.run (x0.drop x1.toNat):Int)->∀v2,v2=List.getD x0 x1.toNat 0->∀v3,v3=((!(nP (v1=x1)))&&(nP (v2=48)))->∀v4,v4=IntKind.i64.wrap (x1+1)->∀v5,v5=cond (nP (v2=48)) (nP (v4<v1)) Qg->∀v6,v6=cond (nP (v1=x1)) Qf v5->∀v7,v7=(nP (v1<x0.length)&&(nP (x0.getD v1.toNat 0=46)||nP (x0.getD v1.toNat 0=46)))->∀v8,v8=IntKind.i64.wrap (v1+1)->∀v9,v9=v8+(Nr.run (x0.drop v8.toNat):Int)->ck (nP (x0.length<=1099511627776)&&nP (0<=x1/\x1<=1099511627776)) (ck (!(!(nP (v1=x1)))||(((!(nP (v1=x1)))&&(!(nP (v1=x1))))&&(bH x1 x0.length))) (ck (!(!(nP (v1=x1)))||(!(nP (v1=x1)))) (ck (!(!(nP (v1=x1)))||(!(nP (v1=x1)))) (ck (!v3||v3) (ck (!v3||(v3&&v3)) (ck (!(!(nP (v1=x1)))||((!(nP (v1=x1)))&&(!(nP (v2=48))||v3))) (ck ((nP (v1=x1))||(!(nP (v1=x1)))) (cond v6 (Bm [.i .i64 0]) (ck (nP (x0.length<=1099511627776)&&nP (0<=v1)) (cond v7 (ck (nP (x0.length<=1099511627776)&&nP (0<=v8/\v8<=1099511627776)) (cond (nP (v9=v8)) (Bm [.i .i64 0]) (adw x0 v9 2))) (adw x0 v1 x2)))))))))))=ρ):adx x0 x1 x2=ρ:=oa (by kernel_rfl) (jL (vg K:):)
theorem azi(x0:bE)(x1 x2:Int)(K:∀v1,v1=(nP (x1<x0.length)&&(nP (x0.getD x1.toNat 0=101)||nP (x0.getD x1.toNat 0=69)))->∀v2,v2=IntKind.i64.wrap (x1+1)->∀v3,v3=(nP (v2<x0.length)&&(nP (x0.getD v2.toNat 0=43)||nP (x0.getD v2.toNat 0=45)))->∀v4,v4=IntKind.i64.wrap (v2+1)->ck (nP (x0.length<=1099511627776)&&nP (0<=x1)) (cond v1 (ck (nP (x0.length<=1099511627776)&&nP (0<=v2)) (cond v3 (adv x0 v4 2) (adv x0 v2 2))) (adu x0 x1 x2))=ρ):adw x0 x1 x2=ρ:=oa (by kernel_rfl) (vg K:)
theorem azh(x0:bE)(x1 x2:Int)(K:∀v1,v1=x1+(Nr.run (x0.drop x1.toNat):Int)->ck (nP (x0.length<=1099511627776)&&nP (0<=x1/\x1<=1099511627776)) (cond (nP (v1=x1)) (Bm [.i .i64 0]) (adu x0 v1 x2))=ρ):adv x0 x1 x2=ρ:=oa (by kernel_rfl) (qv K:)
theorem azm(x0:bE)(x1 x2:Int):adu x0 x1 x2=cond (!decide (x1=(x0.length:Int))) (Bm [.i .i64 0]) (Bm [.i .i64 x2]):=oa (by kernel_rfl) rfl
theorem azk(s:bE)(K:∀v1,v1=(nP ((0:Int)<s.length)&&(nP (s.getD (0:Int).toNat 0=(45:UInt8))||nP (s.getD (0:Int).toNat 0=(45:UInt8))))->∀v2,v2=IntKind.i64.wrap ((0:Int)+(1:Int))->ck (nP (s.length<=1099511627776)&&nP (0<=(0:Int))) (cond v1 (adx s v2 (1:Int)) (adx s (0:Int) (1:Int)))=ρ):azl s=ρ:=Eq.trans (by kernel_rfl) (nY K:)
def atw(b:UInt64):OT:=bT PG eD 97 aam (.o) [.u64 b]
theorem atv(b:UInt64)(K:∀v1,v1=dc b (52:UInt64).toNat->∀v2,v2=IntKind.i64.wrap ((v1&&&2047).toNat:Int)->∀v3,v3=(b&&&4503599627370495)->∀v4,v4=dc b (63:UInt64).toNat->∀v5,v5=cond (nP (v2=2047)) (!decide (v3=0)) Qg->∀v6,v6=cond (nP (v2=0)) (nP (v3=0)) Qg->∀v7,v7=(4503599627370496|||v3)->∀v8,v8=IntKind.i64.wrap (v2 -1075)->ck (!(nP (v2=2047))||(nP (v2=2047))) (ck (!(nP (v2=2047))||(nP (v2=2047))) (cond v5 (Bm [.i .i64 4,.b (nP (v4=1)),.u64 0,.i .i64 0]) (cond (nP (v2=2047)) (Bm [.i .i64 3,.b (nP (v4=1)),.u64 0,.i .i64 0]) (ck (!(nP (v2=0))||(nP (v2=0))) (ck (!(nP (v2=0))||(nP (v2=0))) (cond v6 (Bm [.i .i64 1,.b (nP (v4=1)),.u64 0,.i .i64 0]) (cond (nP (v2=0)) (Bm [.i .i64 2,.b (nP (v4=1)),.u64 v3,.i .i64 (-1074)]) (Bm [.i .i64 2,.b (nP (v4=1)),.u64 v7,.i .i64 v8]))))))))=ρ):atw b=ρ:=Eq.trans (by kernel_rfl) (jL (uJ K:):)
def aep:cz:=cP gz zs [(236,Yh,bz),(289,af2,lA)]
def adF:Hint:=.s .o (.s .o (.j (sc [0,1]) .o (.s .o (.s .o (.s (.s .o (.b (.l [(1,.no),(5,.dB 800000),(6,.no),(26,.no),(27,.no),(800000,.pv)] (.s .o (.s .o (.s (.b (.s .o (.s .o (.j [(1,.no),(5,.dB 800000),(6,.no),(7,.no),(26,.no),(27,.no),(800000,.pv)] .o .o)))) .o)))))) (.j [(5,.dB 800000),(800000,.pv)] .o .o))))))
def avM(a b:List UInt16):OT:=bT PG aep 243 bz adF [.sl .ws a,.sl .ws b]
def acv(x0 x1:List UInt16):OT:=dj PG aep 243 bz adF 7 [.sl .ws x0,.sl .ws x1]
def acs(x0:List UInt16)(x1 x2 x3:Int)(x4:List UInt16):OT:=de PG aep 243 bz adF 351 [.sl .ws x0,.pt,.i .i64 x1,.i .i64 x2,.i .i64 x3,.sl .ws x4]
def acu(x0:List UInt16)(x1 x2 x3 x4:Int)(x5:List UInt16):OT:=dj PG aep 243 bz adF 58975 [.sl .ws x0,.pt,.i .i64 x1,.i .i64 x2,.i .i64 x3,.i .i64 x4,.sl .ws x5]
def aeo(x0:List UInt16):OT:=dj PG aep 243 bz adF 127 [.pt,.sl .ws x0]
theorem avJ(x0 x1:List UInt16):acv x0 x1=ck (dU x0.length 2) (acs x1 0 (x0.length:Int) 0 x0):=oa (by kernel_rfl) rfl
theorem akd(x0:List UInt16)(x1 x2 x3:Int)(x4:List UInt16)(K:∀v1,v1=List.getD x4 x3.toNat 0->∀v2,v2=IntKind.i64.wrap (v1.toNat:Int)->∀v3,v3=List.getD x0 x3.toNat 0->∀v4,v4=IntKind.i64.wrap (v3.toNat:Int)->∀v5,v5=IntKind.i64.wrap ((IntKind.i64.wrap (x1+v2))+v4)->∀v6,v6=([UInt16.ofInt x1]:List UInt16)->cond (nP (x3<x2)) (ck (bH x3 x4.length) (ck (nP (x3.toNat<x4.length)) (cond (nP (x3<(x0.length:Int))) (ck (bH x3 x0.length) (acu x0 v5 x3 x2 x3 x4)) (acu x0 (IntKind.i64.wrap (x1+v2)) x3 x2 x3 x4)))) (cond (nP (0<x1)) (ck (dU (x4.length+v6.length) 2) (aeo (x4++v6))) (aeo x4))=ρ):acs x0 x1 x2 x3 x4=ρ:=mY (by kernel_rfl) (jL (qv K:):)
theorem avH(x0:List UInt16)(x1 x2 x3 x4:Int)(x5:List UInt16)(K:∀v1,v1=List.set x5 x2.toNat (UInt16.ofInt x1)->∀v2,v2=Int.fdiv x1 (2^(min (16:UInt64).toNat (IntKind.i64.bits)))->∀v3,v3=IntKind.i64.wrap (x4+1)->ck (bH x2 x5.length) (ck (nP (x2.toNat<x5.length)) (acs x0 v2 x3 v3 v1))=ρ):acu x0 x1 x2 x3 x4 x5=ρ:=oa (by kernel_rfl) (uJ K:)
theorem ake(x0:List UInt16):aeo x0=Bm [.sl .ws x0]:=oa (by kernel_rfl) rfl
theorem avL(a b:List UInt16)(K:∀v1,v1=cond (!(Nt.is a)) Qf (!(Nt.is b))->ck (nP (a.length<=1099511627776)) (ck (!(!(!(Nt.is a)))||((!(!(Nt.is a)))&&(nP (b.length<=1099511627776)))) (ck (!(!(!(Nt.is a)))||(!(!(Nt.is a)))) (ck ((!(Nt.is a))||(!(!(Nt.is a)))) (cond v1 (Bm [.sl .ws ([]:List UInt16)]) (cond (nP ((a.length:Int)<(b.length:Int))) (acv b a) (acv a b))))))=ρ):avM a b=ρ:=Eq.trans (by kernel_rfl) (qv K:)
def anJ:cz:=cP gz zs [(188,ady,bz),(199,adA,bz),(236,Yh,bz),(290,agL,bP),(328,an7,acR),(329,als,bz)]
def ahV:Hint:=.s .o (.s .o (.s .o (.s (.b (.l [(0,.no),(3,.dB 800000),(800000,.pv)] (.s .o (.b (.s .o (.s .o (.j [(3,.dB 800000),(4,.no),(6,.no),(800000,.pv)] .o .o))))))) .o)))
def awo(a:List UInt16):OT:=bT PG anJ 294 bz ahV [.sl .ws a]
def aa6(x0:List UInt16)(x1:List bE):OT:=de PG anJ 294 bz ahV 39 [.sl .ws x0,.pt,.sl .ss x1]
def aer(x0:List UInt16)(x1:bE)(x2:List bE):OT:=dj PG anJ 294 bz ahV 1863 [.pt,.sl .ws x0,.s x1,.sl .ss x2]
theorem akq(x0:List UInt16)(x1:List bE)(K:∀v1,v1=Nt.of (Nt.val x0/(10000:UInt16).toNat)->∀v2,v2=UInt16.ofNat (Nt.val x0%(10000:UInt16).toNat)->∀v3,v3=IntKind.i64.wrap (v2.toNat:Int)->∀v4,v4=((Nr.itoa v3).length:Int)->∀v5,v5=IntKind.i64.wrap ((4:Int) -v4)->∀v6,v6=(Sh.fk v5)++(Nr.itoa v3)->cond (nP ((0:Int)<(x0.length:Int))) (ck (nP (x0.length<=1000000/\(10000:UInt16)≠0)) (ck (Nr.i64 v3) (cond (nP ((0:Int)<(v1.length:Int))) (ck (nP (([48]:bE)=[48]/\0<=v5/\v5<=100)) (ck (nP ((Sh.fk v5).length+(Nr.itoa v3).length<=9223372036854775807)) (aer v1 v6 x1))) (aer v1 (Nr.itoa v3) x1)))) (ck (nP (x1.length<=100000)) (ck (nP (([]:bE)=[]/\x1.reverse.length<=100000/\x1.reverse.flatten.length<=100000)) (Bm [.s x1.reverse.flatten])))=ρ):aa6 x0 x1=ρ:=mY (by kernel_rfl) (jL (qv K:):)
theorem akp(x0:List UInt16)(x1:bE)(x2:List bE):aer x0 x1 x2=ck (dU (x2.length+([x1]:List bE).length) 16) (aa6 x0 (x2++([x1]:List bE))):=oa (by kernel_rfl) rfl
theorem awn(a:List UInt16):awo a=ck (nP (a.length<=1099511627776)) (cond (!(Nt.is a)) (Bm [.s []]) (cond (nP ((a.length:Int)=0)) (Bm [.s [48]]) (aa6 a ([]:List bE)))):=by kernel_rfl
def an6:Hint:=.s .o (.b (.l [(0,.dB 1000000),(2,.no),(3,.no),(1000000,.pv)] .o))
def axo(l:List bE):OT:=bT PG eD 328 acR an6 [.sl .ss l]
def acS(x0 x1:Int)(x2:List bE):OT:=de PG eD 328 acR an6 5 [.pt,.i .i64 x0,.i .i64 x1,.sl .ss x2]
theorem akF(x0 x1:Int)(x2:List bE)(K:∀v1,v1=List.getD x2 x1.toNat []->∀v2,v2=List.getD x2 x0.toNat []->∀v3,v3=List.set x2 x0.toNat v1->∀v4,v4=List.set v3 x1.toNat v2->∀v5,v5=IntKind.i64.wrap (x0+1)->∀v6,v6=IntKind.i64.wrap (x1 -1)->cond (nP (x0<x1)) (ck (bH x1 x2.length) (ck (nP (x1.toNat<x2.length)) (ck (bH x0 x2.length) (ck (nP (x0.toNat<x2.length)) (ck (bH x0 x2.length) (ck (nP (x0.toNat<x2.length)) (ck (bH x1 v3.length) (ck (nP (x1.toNat<v3.length)) (acS v5 v6 v4))))))))) (Bm [.sl .ss x2])=ρ):acS x0 x1 x2=ρ:=mY (by kernel_rfl) (jL (qv K:):)
theorem axn(l:List bE)(K:∀v1,v1=IntKind.i64.wrap ((l.length:Int) -1)->acS 0 v1 l=ρ):axo l=ρ:=Eq.trans (by kernel_rfl) (qv K:)
def aAv:cz:=cP gz zs [(151,alI,bz)]
def asy(v:Int):OT:=bT PG aAv 102 bz (.o) [.i .i64 v]
theorem asx(v:Int):asy v=ck (Nr.i64 v&&nP ((10:Int)=10)) (Bm [.s (Nr.itoa v)]):=by kernel_rfl
def aAg:cz:=cP gz zs [(286,ahS,bP),(287,ahk,bz)]
def arx(a b:List UInt16)(k:Int):OT:=bT PG aAg 239 bP (.o) [.sl .ws a,.sl .ws b,.i .i64 k]
theorem arw(a b:List UInt16)(k:Int)(K:∀v1,v1=Nt.of ((10:Int).toNat^k.toNat)->∀v2,v2=Nt.of (Nt.val a*Nt.val v1)->∀v3,v3=Nt.of ((10:Int).toNat^(IntKind.i64.wrap (0 -k)).toNat)->∀v4,v4=Nt.of (Nt.val b*Nt.val v3)->cond (nP ((0:Int)<=k)) (ck (nP (2<=(10:Int)/\(10:Int)<=65535/\0<=k/\k<=1000/\(10:Int).toNat^k.toNat<2^4096)) (ck (Nt.is a&&Nt.is v1) (Bm [.sl .ws v2,.sl .ws b]))) (ck (nP (2<=(10:Int)/\(10:Int)<=65535/\0<=(IntKind.i64.wrap (0 -k))/\(IntKind.i64.wrap (0 -k))<=1000/\(10:Int).toNat^(IntKind.i64.wrap (0 -k)).toNat<2^4096)) (ck (Nt.is b&&Nt.is v3) (Bm [.sl .ws a,.sl .ws v4])))=ρ):arx a b k=ρ:=Eq.trans (by kernel_rfl) (vg K:)
def az9:cz:=cP gz zs [(239,af0,bP),(240,adY,bz)]
def aqX(a b:List UInt16)(x:Int):OT:=bT PG az9 197 bz (.o) [.sl .ws a,.sl .ws b,.i .i64 x]
theorem aqW(a b:List UInt16)(x:Int)(K:∀v1,v1=Nt.of (Sh.tA (Nt.val a) (IntKind.i64.wrap (0 -x)))->∀v2,v2=Nt.of (Sh.tB (Nt.val b) (IntKind.i64.wrap (0 -x)))->∀v3,v3=Nt.cmp (Nt.val v1) (Nt.val v2)->ck (Nt.is a&&Nt.is b&&nP (-400<=(IntKind.i64.wrap (0 -x))/\(IntKind.i64.wrap (0 -x))<=400/\Nt.val a<2^1100/\Nt.val b<2^1100)) (ck (Nt.is v1&&Nt.is v2) (Bm [.b (nP (0<=v3))]))=ρ):aqX a b x=ρ:=Eq.trans (by kernel_rfl) (uJ K:)
def aAa:cz:=cP gz zs [(294,anI,bz),(295,afm,bz),(296,amW,bP)]
def aq0(b:UInt64)(a:List UInt16)(p:Int):OT:=bT PG aAa 242 jh (.o) [.u64 b,.sl .ws a,.i .i64 p]
theorem aqZ(b:UInt64)(a:List UInt16)(p:Int)(K:∀(v1:Int)(h1:v1=(((Sh.vq (Nt.val a))).length:Int))(v2:bE)(h2:v2=(Lib.trimRightS ((Sh.vq (Nt.val a))) (([48]:bE))))(v3:UInt64)(h3:v3=(Nr.pat (Nr.read v2 ((IntKind.i64.wrap (v1+p))))))(v4:Bool)(h4:v4=((Nr.read v2 ((IntKind.i64.wrap (v1+p)))).isSome))(v5:Bool)(h5:v5=(cond (!v4) Qf (!decide (v3=b)))),ck (Nt.is a) (ck (nP ((((Sh.vq (Nt.val a)))).length<=1099511627776/\((([48]:bE))).length<=100)&&((([48]:bE))).all (λb=>nP (b.toNat<128))) (ck (!(!(!v4))||((!(!v4))&&(!(!v4)))) (ck ((!v4)||(!(!v4))) (cond v5 (Bm [(.s []),(.i .i64 0),(.b Qg)]) (Bm [(.s v2),(.i .i64 (IntKind.i64.wrap (v1+p))),(.b Qf)])))))=ρ):aq0 b a p=ρ:=Eq.trans (by kernel_rfl) (K _ rfl _ rfl _ rfl _ rfl _ rfl)
def az4:cz:=cP gz zs [(194,abF,bz),(195,adO,bz),(239,af0,bP),(240,adY,bz),(241,afa,jh),(242,al7,jh),(243,ant,bz)]
def aqI(b:UInt64)(p q:List UInt16)(x n:Int):OT:=bT PG az4 198 jh (.o) [.u64 b,.sl .ws p,.sl .ws q,.i .i64 x,.i .i64 n]
theorem aqH(b:UInt64)(p q:List UInt16)(x n:Int)(K:∀v1,v1=Nt.of (Sh.tA (Nt.val p) (IntKind.i64.wrap (n -x)))->∀v2,v2=Nt.of (Sh.tB (Nt.val q) (IntKind.i64.wrap (n -x)))->∀v3,v3=Nt.of (Nt.val v1/Nt.val v2)->∀v4,v4=Nt.of (Nt.val v1% Nt.val v2)->∀v5,v5=((Sh.nn b.toNat (Nt.val v3) (IntKind.i64.wrap (x -n))).getD ([],0)).1->∀v6,v6=((Sh.nn b.toNat (Nt.val v3) (IntKind.i64.wrap (x -n))).getD ([],0)).2->∀v7,v7=(Sh.nn b.toNat (Nt.val v3) (IntKind.i64.wrap (x -n))).isSome->∀v8,v8=Nt.of (1:UInt64).toNat->∀v9,v9=Nt.of (Nt.val v3+Nt.val v8)->∀v10,v10=((Sh.nn b.toNat (Nt.val v9) (IntKind.i64.wrap (x -n))).getD ([],0)).1->∀v11,v11=((Sh.nn b.toNat (Nt.val v9) (IntKind.i64.wrap (x -n))).getD ([],0)).2->∀v12,v12=(Sh.nn b.toNat (Nt.val v9) (IntKind.i64.wrap (x -n))).isSome->∀jQ,jQ=Nt.of (Nt.val v4*2^(1:Int).toNat)->∀iW,iW=Nt.cmp (Nt.val jQ) (Nt.val v2)->∀jb,jb=cond (!v12) Qf (nP (iW<(0:Int)))->∀lU,lU=((v7&&(!jb))&&(nP (iW=(0:Int))))->∀sQ,sQ=List.getD v3 (0:Int).toNat (0:UInt16)->∀s9,s9=cond (nP (iW=(0:Int))) (nP ((sQ%(2:UInt16))=(0:UInt16))) Qg->∀pn,pn=cond v7 (cond jb Qf s9) Qg->ck (Nt.is p&&Nt.is q&&nP (-400<=(IntKind.i64.wrap (n -x))/\(IntKind.i64.wrap (n -x))<=400/\Nt.val p<2^1100/\Nt.val q<2^1100)) (ck (Nt.is v1&&Nt.is v2&&nP (v2≠[])) (ck (Nt.is v3&&nP (-1000<=(IntKind.i64.wrap (x -n))/\(IntKind.i64.wrap (x -n))<=1000/\0<Nt.val v3/\Nt.val v3<10^200)) (ck (Nt.is v3&&Nt.is v8) (ck (Nt.is v9&&nP (-1000<=(IntKind.i64.wrap (x -n))/\(IntKind.i64.wrap (x -n))<=1000/\0<Nt.val v9/\Nt.val v9<10^200)) (ck (nP (0<=(1:Int)/\(1:Int)<=4096)&&Nt.is v4) (ck (Nt.is jQ&&Nt.is v2) (ck (!v7||v7) (ck (!v7||v7) (ck (!(v7&&(!(!v12)))||(v7&&(!(!v12)))) (ck (!v7||(v7&&((!v12)||(v7&&(!(!v12)))))) (ck (!v7||v7) (ck (!(v7&&(!jb))||(v7&&(!jb))) (ck (!(v7&&(!jb))||(v7&&(!jb))) (ck (!lU||(lU&&(bH (0:Int) v3.length))) (ck (!lU||lU) (ck (!lU||(lU&&(!decide ((2:UInt16)=0)))) (ck (!lU||lU) (ck (!(v7&&(!jb))||((v7&&(!jb))&&(!(nP (iW=(0:Int)))||lU))) (ck (!v7||(v7&&(jb||(v7&&(!jb))))) (ck (!v7||v7) (cond pn (Bm [.s v5,.i .i64 v6,.b Qf]) (Bm [.s v10,.i .i64 v11,.b v12]))))))))))))))))))))))=ρ):aqI b p q x n=ρ:=Eq.trans (by kernel_rfl) (jL (vg (jL (jL K:):):):)
def aiN:cz:=cP gz zs [(97,adC,aam),(194,abF,bz),(195,adO,bz),(196,afT,bz),(197,al6,bz),(198,al3,jh)]
def aeI:Hint:=.s .o (.s .o (.s .o (.s .o (.s .o (.j (sc [0,9,10]) .o (.s .o (.s (.b (.l (sc [0,3,9,10]) .o)) (.s .o (.b (.l (sc [0,3,9,10,11]) .o))))))))))
def ayN(b:UInt64):OT:=bT PG aiN 144 jh aeI [.u64 b]
def abv(x0:UInt64)(x1 x2:List UInt16):OT:=dj PG aiN 144 jh aeI 63 [.u64 x0,.sl .ws x1,.sl .ws x2]
def adm(x0:UInt64)(x1:Int)(x2 x3:List UInt16):OT:=de PG aiN 144 jh aeI 639 [.u64 x0,.i .i64 x1,.sl .ws x2,.sl .ws x3]
def adl(x0:UInt64)(x1:Int)(x2 x3:List UInt16)(x4:Int):OT:=de PG aiN 144 jh aeI 1535 [.u64 x0,.i .i64 x1,.sl .ws x2,.sl .ws x3,.i .i64 x4]
theorem ayJ(x0:UInt64)(x1 x2:List UInt16)(K:∀v1,v1=(Nt.bits (Nt.val x1):Int)->∀v2,v2=(Nt.bits (Nt.val x2):Int)->∀v3,v3=IntKind.i64.wrap ((IntKind.i64.wrap (v1 -v2))*(30103:Int))->∀v4,v4=IntKind.i64.wrap (Int.tdiv v3 (100000:Int))->∀v5,v5=IntKind.i64.wrap (v4 -(2:Int))->ck (Nt.is x1) (ck (Nt.is x2) (ck (!decide ((100000:Int)=0)) (adm x0 v5 x1 x2)))=ρ):abv x0 x1 x2=ρ:=oa (by kernel_rfl) (jL K:)
theorem alc(x0:UInt64)(x1:Int)(x2 x3:List UInt16)(K:∀v1,v1=IntKind.i64.wrap (x1+1)->ck (Nt.is x2&&Nt.is x3&&nP (-400<=x1/\x1<=400/\Nt.val x2<2^1100/\Nt.val x3<2^1100)) (cond (nP (Sh.tB (Nt.val x3) (-x1)<=Sh.tA (Nt.val x2) (-x1))) (adm x0 v1 x2 x3) (adl x0 x1 x2 x3 1))=ρ):adm x0 x1 x2 x3=ρ:=mY (by kernel_rfl) (qv K:)
theorem alb(x0:UInt64)(x1:Int)(x2 x3:List UInt16)(x4:Int)(K:∀v1,v1=((Sh.tg x0.toNat (Nt.val x2) (Nt.val x3) x1 x4).getD ([],0)).1->∀v2,v2=((Sh.tg x0.toNat (Nt.val x2) (Nt.val x3) x1 x4).getD ([],0)).2->∀v3,v3=(Sh.tg x0.toNat (Nt.val x2) (Nt.val x3) x1 x4).isSome->∀v4,v4=IntKind.i64.wrap (x4+1)->ck (Nt.is x2&&Nt.is x3&&Sh.sz (Nt.val x2) (Nt.val x3) x1 x4) (cond v3 (Bm [.s v1,.i .i64 v2,.b Qf]) (adl x0 x1 x2 x3 v4))=ρ):adl x0 x1 x2 x3 x4=ρ:=mY (by kernel_rfl) (vg K:)
theorem ayL(b:UInt64)(K:∀v1,v1=(b&&&~~~9223372036854775808)->∀v2,v2=Nt.of (Nr.split b).2.2.1.toNat->∀v3,v3=Nt.of (1:UInt64).toNat->∀v4,v4=Nt.of (Nt.val v2*2^(Nr.split b).2.2.2.toNat)->∀v5,v5=IntKind.i64.wrap (0 -(Nr.split b).2.2.2)->∀v6,v6=Nt.of (Nt.val v3*2^v5.toNat)->cond (!decide ((Nr.split b).1=2)) (Bm [.s [],.i .i64 0,.b Qg]) (cond (nP (0<=(Nr.split b).2.2.2)) (ck (nP (0<=(Nr.split b).2.2.2/\(Nr.split b).2.2.2<=4096)&&Nt.is v2) (abv v1 v4 v3)) (ck (nP (0<=v5/\v5<=4096)&&Nt.is v3) (abv v1 v2 v6)))=ρ):ayN b=ρ:=Eq.trans (by kernel_rfl) (jL (qv K:):)
def auo:cz:=cP gz zs [(102,adB,bz),(199,adA,bz)]
def amX:Hint:=.s .o (.s .o (.s .o (.s .o (.j (sc [1,6]) .o .o))))
def aun(d:bE)(x:Int):OT:=bT PG auo 145 bz amX [.s d,.i .i64 x]
def ab9(x0:Int)(x1:bE):OT:=dj PG auo 145 bz amX 31 [.i .i64 x0,.s x1]
theorem aul(x0:Int)(x1:bE)(K:∀v1,v1=IntKind.i64.wrap (1 -x0)->∀v2,v2=(x1++[101,45])++(Nr.itoa v1)->∀v3,v3=IntKind.i64.wrap (x0 -1)->∀v4,v4=(x1++[101,43])++(Nr.itoa v3)->cond (nP (x0<1)) (ck (nP (x1.length+([101,45]:bE).length<=9223372036854775807)) (ck (Nr.i64 v1) (ck (nP ((x1++[101,45]).length+(Nr.itoa v1).length<=9223372036854775807)) (Bm [.s v2])))) (ck (nP (x1.length+([101,43]:bE).length<=9223372036854775807)) (ck (Nr.i64 v3) (ck (nP ((x1++[101,43]).length+(Nr.itoa v3).length<=9223372036854775807)) (Bm [.s v4]))))=ρ):ab9 x0 x1=ρ:=oa (by kernel_rfl) (vg K:)
theorem aum(d:bE)(x:Int)(K:∀(v1:Bool)(h1:v1=(cond (nP ((1:Int)<=x)) (nP (x<=(21:Int))) Qg))(v2:Bool)(h2:v2=(cond v1 (nP (((d).length:Int)<=x)) Qg))(v3:Int)(h3:v3=(IntKind.i64.wrap (x -((d).length:Int))))(v4:bE)(h4:v4=((List.take (x).toNat d)++([46]:bE)))(v5:bE)(h5:v5=(v4++(List.drop (x).toNat d)))(v6:Bool)(h6:v6=(cond (nP ((-5:Int)<=x)) (nP (x<=(0:Int))) Qg))(v7:bE)(h7:v7=(Sh.fk ((IntKind.i64.wrap (0 -x)))))(v8:bE)(h8:v8=((([48,46]:bE)++v7)++d))(v9:bE)(h9:v9=(List.take ((1:Int)).toNat d))(v10:bE)(kv:v10=(List.drop ((1:Int)).toNat d))(v11:bE)(nK:v11=(v9++(([46]:bE)++v10))),ck (!(nP ((1:Int)<=x))||(nP ((1:Int)<=x))) (ck (!(nP ((1:Int)<=x))||(nP ((1:Int)<=x))) (ck (!v1||(v1&&v1)) (ck (!v1||v1) (cond v2 (ck (nP ((([48]:bE))=[48]/\0<=v3/\v3<=100)) (ck (nP ((d).length+((Sh.fk v3)).length<=9223372036854775807)) (Bm [(.s (d++(Sh.fk v3)))]))) (ck (!(nP ((1:Int)<=x))||(nP ((1:Int)<=x))) (ck (!(nP ((1:Int)<=x))||(nP ((1:Int)<=x))) (cond v1 (ck (iF 0 x (d).length) (ck (nP (((List.take (x).toNat d)).length+(([46]:bE)).length<=9223372036854775807)) (ck (iF x (d).length (d).length) (ck (nP ((v4).length+((List.drop (x).toNat d)).length<=9223372036854775807)) (Bm [(.s v5)]))))) (ck (!(nP ((-5:Int)<=x))||(nP ((-5:Int)<=x))) (ck (!(nP ((-5:Int)<=x))||(nP ((-5:Int)<=x))) (cond v6 (ck (nP ((([48]:bE))=[48]/\0<=((IntKind.i64.wrap (0 -x)))/\((IntKind.i64.wrap (0 -x)))<=100)) (ck (nP ((([48,46]:bE)).length+(v7).length<=9223372036854775807)) (ck (nP (((([48,46]:bE)++v7)).length+(d).length<=9223372036854775807)) (Bm [(.s v8)])))) (ck (iF 0 (1:Int) (d).length) (cond (nP ((1:Int)<((d).length:Int))) (ck (iF (1:Int) (d).length (d).length) (ck (nP ((([46]:bE)).length+(v10).length<=9223372036854775807)) (ck (nP ((v9).length+((([46]:bE)++v10)).length<=9223372036854775807)) (ab9 x v11)))) (ab9 x v9)))))))))))))=ρ):aun d x=ρ:=Eq.trans (by kernel_rfl) (K _ rfl _ rfl _ rfl _ rfl _ rfl _ rfl _ rfl _ rfl _ rfl _ rfl _ rfl)
def atP:cz:=cP gz zs [(97,adC,aam),(144,aoy,jh),(145,amY,bz)]
def amP:Hint:=.s .o (.s .o (.s .o (.j (sc [4,7]) .o .o)))
def atO(b:UInt64):OT:=bT PG atP 98 bz amP [.u64 b]
def aaP(x0:Bool)(x1:bE):OT:=dj PG atP 98 bz amP 15 [.b x0,.s x1]
theorem atM(x0:Bool)(x1:bE):aaP x0 x1=cond x0 (ck (nP (([45]:bE).length+x1.length<=9223372036854775807)) (Bm [.s (([45]:bE)++x1)])) (Bm [.s x1]):=oa (by kernel_rfl) rfl
theorem atN(b:UInt64)(K:∀v1,v1=Sh.yE (Sh.dg b).1 (Sh.dg b).2.1->cond (nP ((Nr.split b).1=4)) (Bm [.s [78,97,78]]) (cond (nP ((Nr.split b).1=3)) (aaP (Nr.split b).2.1 [73,110,102,105,110,105,116,121]) (cond (nP ((Nr.split b).1=1)) (aaP (Nr.split b).2.1 [48]) (ck (nP (1<=(Sh.dg b).1.length/\(Sh.dg b).1.length<=17/\-900<=(Sh.dg b).2.1/\(Sh.dg b).2.1<=900)) (aaP (Nr.split b).2.1 v1))))=ρ):atO b=ρ:=Eq.trans (by kernel_rfl) (qv K:)
def aAC:cz:=cP gz zs [(354,alr,bz)]
def atF(v:UInt64)(b:Int):OT:=bT PG aAC 323 bz (.o) [.u64 v,.i .i64 b]
theorem atE(v:UInt64)(b:Int):atF v b=ck (nP (b=10)) (Bm [.s (Nr.dec v.toNat)]):=by kernel_rfl
def ath(s t:bE):OT:=bT PG eD 224 bz (.o) [.s s,.s t]
theorem atg(s:bE)(t:bE)(K:∀(v1:bE)(h1:v1=(List.take (((t).length:Int)).toNat s))(v2:Bool)(h2:v2=(cond (nP (((t).length:Int)<=((s).length:Int))) (nP (v1=t)) Qg)),ck (!(nP (((t).length:Int)<=((s).length:Int)))||(nP (((t).length:Int)<=((s).length:Int)))) (ck (!(nP (((t).length:Int)<=((s).length:Int)))||(((nP (((t).length:Int)<=((s).length:Int)))&&(nP (((t).length:Int)<=((s).length:Int))))&&(iF 0 ((t).length:Int) (s).length))) (ck (!(nP (((t).length:Int)<=((s).length:Int)))||((nP (((t).length:Int)<=((s).length:Int)))&&(nP (((t).length:Int)<=((s).length:Int))))) (ck (!(nP (((t).length:Int)<=((s).length:Int)))||(nP (((t).length:Int)<=((s).length:Int)))) (Bm [(.b v2)]))))=ρ):ath s t=ρ:=Eq.trans (by kernel_rfl) (K _ rfl _ rfl)
def aAH:cz:=cP gz zs [(224,amF,bz)]
def auw(s t:bE):OT:=bT PG aAH 177 bz (.o) [.s s,.s t]
theorem auv(s t:bE):auw s t=Bm [.b (List.isPrefixOf t s)]:=by kernel_rfl
def aAB:cz:=cP gz zs [(284,ahe,bz)]
def atn(s:bE)(c:UInt8):OT:=bT PG aAB 230 bz (.o) [.s s,.u8 c]
theorem atm(s:bE)(c:UInt8):atn s c=Bm [.i .i64 (Lib.indexByte s c)]:=by kernel_rfl
def apZ(a b:UInt64):OT:=bT PG eD 298 bP (.o) [.u64 a,.u64 b]
theorem apY(a b:UInt64)(K:∀v1,v1=(a&&&4294967295)->∀v2,v2=dc a (32:UInt64).toNat->∀v3,v3=(b&&&4294967295)->∀v4,v4=dc b (32:UInt64).toNat->∀v5,v5=dc (v1*v3) (32:UInt64).toNat->∀v6,v6=(((v2*v3)+v5)&&&4294967295)->∀v7,v7=dc ((v2*v3)+v5) (32:UInt64).toNat->∀v8,v8=dc (v6+(v1*v4)) (32:UInt64).toNat->Bm [.u64 (((v2*v4)+v7)+v8),.u64 (a*b)]=ρ):apZ a b=ρ:=Eq.trans (by kernel_rfl) (jL (uJ K:):)
def aAu:cz:=cP gz zs [(302,WC,bz)]
def asw(v:UInt64):OT:=bT PG aAu 367 bz (.o) [.u64 v]
theorem asv(v:UInt64)(K:∀v1,v1=IntKind.i64.wrap (64 -(Nt.bits v.toNat:Int))->Bm [.i .i64 v1]=ρ):asw v=ρ:=Eq.trans (by kernel_rfl) (qv K:)
end Go.Eng
