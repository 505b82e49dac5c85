/- Texts of my own, one behind the other: XU, XV, XW, XX, XY, XT, XZ, YA, YB, YC, YE, YF, YG, YH, YJ, YK, XFloatP, XArithP, XNrPure, XShPure, WrUtfPure, WrTreePure, WrRegPure, WrHexaPure, WrPure, WrJpPure, WrRpPure. -/
import Derived.Test.YthkfiedkcmpokaaGreatDoorT1
import Derived.Sort.Grow
import Derived.Laws.Externs
import Derived.Lib.BytesEntry
import Derived.Deep.LoopGhost
import Derived.ScopeJumps
import Derived.Below
import Derived.Lib.LaidTab
import Derived.Lib.ItoaNum
import Derived.Deep.Draws
import Derived.ChangeArms
import Derived.ChangeShapes
import Derived.DataReads
import Derived.Laws.FloatArith
import Derived.IntWalk
import Derived.Lib.SlTrimSet
import Derived.Lib.IndexAny
import Derived.Lib.TrailingZeros
import Derived.Lib.Bytealg
set_option linter.defProp false
set_option linter.unusedVariables false
set_option linter.unusedSimpArgs false
open Decidable renaming decide→oG
open Option renaming some→BQ
open Option renaming none→Ku
open Bool renaming true→NS
open Bool renaming false→NT
noncomputable section
namespace Go.Eng
open Go.RowKit
def RN(P:Program)(t:TypeId):Option Nat:=(P.info? t).map (·.size)
theorem su{P:Program}{w:World}:∀(fs:List Field),(∀f∈fs,(sizeOf f.type).run P w=.ok ((RN P f.type).getD 0) w)->
  ((fs.mapM λ(f:Field)=>do pure (f.offset,<-sizeOf f.type)):Sem (List (Nat×Nat))).run P w=.ok (fs.map λf=>(f.offset,(RN P f.type).getD 0)) w
 |[],_=>rfl
 |f::fs,hs=>by simp only[List.mapM_cons,Sem.run_bind,hs f (by simp),Result.andThen_ok,Sem.run_pure,su fs (λg hg=>hs g (by simp[hg])),bf]
theorem um{P:Program}{t:TypeId}:∀{l:List (Nat×Operand)}{pl:List (Nat×(Nat×TypeId))},rB P t l=BQ pl->pl.length=l.length/\∀(j:Nat)(p:Nat×Operand)(q:Nat×(Nat×TypeId)),l[j]?=BQ p->pl[j]?=BQ q->sA P t p.1=BQ q
 |[],pl,h=>by cases h;exact⟨rfl,by simp⟩
 |(i,o)::r,pl,h=>by
  simp only[rB]at h;split at h
  ·rename_i q l e1 e2;cases h;obtain⟨h1,h2⟩:=um e2;refine⟨by simp[h1],λj p q' hp hq=>?_⟩;cases j with
   |zero=>cases hp;cases hq;exact e1
   |succ j=>exact h2 j p q' (by simpa using hp) (by simpa using hq)
  {cases h}
theorem jD:∀{l:List (Nat×Cell)}{S:St}{k:Nat},(∀p∈l,p.1≠k)->gi S l k=S k
 |[],_,_,_=>rfl
 |(j,x)::l,S,k,h=>by simp only[gi];rw[fH _ _ (Ne.symm (h (j,x) (List.mem_cons_self ..)))];exact jD λp hp=>h p (List.mem_cons_of_mem _ hp)
theorem zD:∀{cs CS:List Cell}{k:Nat},rJ cs=BQ (CS,k)->cs=CS++[(.pt,.fF k)]
 |[],_,_,h=>by simp[rJ]at h
 |[c],CS,k,h=>by obtain⟨x,g⟩:=c;cases x<;>cases g<;>simp[rJ]at h;obtain⟨rfl,rfl⟩:=h;rfl
 |c::d::r,CS,k,h=>by simp only[rJ]at h;split at h;{rename_i c1 k1 e;cases h;rw[zD e];rfl};{cases h}
def Cells.snoc{R:Reach}{w:World}{τ:Nat->Value}{nt:Nat}:∀{cs:List Cell}{c:Cell}{vs:List Value},Cells R w τ nt (cs++[c]) vs->∃Kk v,vs=Kk++[v]/\Cells R w τ nt cs Kk/\fo R w τ c.1 c.2 v
 |[],_,_,.cons a b .nil=>⟨[],_,rfl,.nil,a⟩
 |_::_,_,_,.cons a b t=>by obtain⟨Kk,v,rfl,h1,h2⟩:=Cells.snoc t;exact⟨_::Kk,v,rfl,.cons a b h1,h2⟩
def jy.snoc{R:Reach}{w:World}:∀{xs:List TV}{vs:List Value}{x:TV}{v:Value},jy R w xs vs->Rep R w x v->jy R w (xs++[x]) (vs++[v])
 |_,_,_,_,.nil,h=>.cons h .nil
 |_,_,_,_,.cons a t,h=>.cons a (jy.snoc t h)
theorem Bq(place:Nat->Option (Nat×Nat)):∀(ps:List (Nat×Value))(i:Nat)(v:Value)(off:Nat)(cells fc:Array Value),place i=BQ (off,1)->v.cells.toList=[v]->Instr.fill place cells (ps++[(i,v)])=BQ fc->fc[off]?=BQ v
 |[],i,v,off,cells,fc,hp,hv,h=>by have Bk:v.cells=#[v]:=Array.toList_inj.1 hv;simp only[bg,Instr.fill,hp,Bk]at h;split at h;{cases h};{rename_i hc;cases h;have:off<cells.size:=by{simp at hc;omega};simp[Array.getElem?_setIfInBounds,this]}
 |p::ps,i,v,off,cells,fc,hp,hv,h=>by simp only[List.cons_append,Instr.fill]at h;split at h;{cases h};{split at h;{cases h};{exact Bq place ps i v off _ _ hp hv h}}
section
variable{C:Ctx}{S V:St}{a:Act}{w w':World}{R:Reach}{τ:Nat->Value}{o:Oper}{d:Nat}(h:fP C S a w R τ)(hV:Lt V S)
include h hV
omit hV in
theorem Iu(hE:kZ C.P C.E){R':Reach}{t:TypeId}{parts:Array (Nat×Operand)}{z ds xs:List TV}{pl:List (Nat×(Nat×TypeId))}(ho:o.op=.build t parts)(hz:C.E.z t=BQ z)(C5:rB C.P t parts.toList=BQ pl)(hT:jy R' w xs ((parts.toList.map (·.2)).map a.eval))(h1:∀(j:Nat)(v:Value),xs[j]?=BQ .pt->(parts.toList.map λp=>a.eval p.2)[j]?=BQ v->v.oneCell'=NS)(EA:sS z (pl.map λq=>(q.1,q.2.1)) xs=BQ ds):∃(place:Nat->Option (Nat×Nat))(cells fc:Array Value),(∀(j:Nat)(q:Nat×(Nat×TypeId)),sA C.P t j=BQ q->place j=BQ (q.1,q.2.1))/\Instr.fill place cells (parts.toList.map λp=>(p.1,a.eval p.2))=BQ fc/\dR R' w ds fc.toList/\(execOp a.eval o).run C.P w=.ok (.value (.agg fc)) w:=by
 have _:=h;obtain⟨SV,zv,hi,hzc⟩:=hE.z _ _ hz;rw[aV]at hi;obtain⟨i,hi,Xk⟩:=hi;have hL:dR R' w z zv.cells.toList:=sY hzc;obtain⟨hlen,Pu⟩:=um C5;have VA:∀(j:Nat)(p:Nat×Value)(x:TV),((parts.map λp=>(p.1,a.eval p.2)).toList)[j]?=BQ p->xs[j]?=BQ x->Rep R' w x p.2/\(x=.pt->p.2.oneCell'=NS):=λj p x hp hxj=>by
  obtain⟨y,JE,JD⟩:=hT.get j x hxj;simp only[Array.toList_map,br,bA]at hp JE;cases hq:parts.toList[j]? with
  |none=>simp[hq]at hp
  |some q=>simp[hq]at hp JE;subst hp;rw[JE];exact⟨JD,λe=>h1 j _ (e▸hxj) (by simp[hq,JE])⟩
 have SE:∀place:Nat->Option (Nat×Nat),(∀(j:Nat)(q:Nat×(Nat×TypeId)),sA C.P t j=BQ q->place j=BQ (q.1,q.2.1))->
   ∃fc,Instr.fill place zv.cells (parts.map λp=>(p.1,a.eval p.2)).toList=BQ fc/\dR R' w ds fc.toList:=λplace FC=>
  EP place _ (pl.map λq=>(q.1,q.2.1)) _ z ds zv.cells hL (by simp[hlen]) (λj p q hp hq=>by
   simp only[Array.toList_map,br]at hp hq;cases Zz:parts.toList[j]? with
   |none=>simp[Zz]at hp
   |some q'=>
    simp[Zz]at hp;subst hp;cases QT:pl[j]? with
    |none=>simp[QT]at hq
    |some q2=>simp[QT]at hq;subst hq;exact FC _ _ (Pu j q' q2 Zz QT)) VA EA
 have fin:∀place:Nat->Option (Nat×Nat),(∀(j:Nat)(q:Nat×(Nat×TypeId)),sA C.P t j=BQ q->place j=BQ (q.1,q.2.1))->
   (∀fc,Instr.fill place zv.cells (parts.map λp=>(p.1,a.eval p.2)).toList=BQ fc->(execOp a.eval o).run C.P w=.ok (.value (.agg fc)) w)->∃(place:Nat->Option (Nat×Nat))(cells fc:Array Value),(∀(j:Nat)(q:Nat×(Nat×TypeId)),sA C.P t j=BQ q->place j=BQ (q.1,q.2.1))/\Instr.fill place cells (parts.toList.map λp=>(p.1,a.eval p.2))=BQ fc/\dR R' w ds fc.toList/\(execOp a.eval o).run C.P w=.ok (.value (.agg fc)) w:=λplace FC hrr=>by
  obtain⟨fc,SY,hR⟩:=SE place FC
  exact⟨place,zv.cells,fc,FC,by rw[<-Array.toList_map];exact SY,hR,hrr fc SY⟩
 unfold sT at SV;cases hu:C.P.underlying t with
 |none=>simp[hu]at SV
 |some dd=>
  cases dd with
  |struct fs=>simp only[hu]at SV;have wL:∀f∈fs.toList,(sizeOf f.type).run C.P w=.ok ((RN C.P f.type).getD 0) w:=λf hf=>by{have:=aC.1 SV f hf;obtain⟨n,hn⟩:=Option.isSome_iff_exists.1 this;rw[T1 hn];simp[RN,hn]};refine fin (λi=>(fs.map λf=>(f.offset,(RN C.P f.type).getD 0))[i]?) (λj q hq=>?_) (λfc hc=>?_);{unfold sA at hq;rw[hu]at hq;simp only[aV,aU]at hq;obtain⟨f,h1,i',h2,rfl⟩:=hq;simp[h1,RN,h2]};{have hm:=su fs.toList wL;have ZK:((fs.mapM λ(f:Field)=>do pure (f.offset,<-sizeOf f.type)):Sem (Array (Nat×Nat))).run C.P w=.ok (fs.map λf=>(f.offset,(RN C.P f.type).getD 0)) w:=by{rw[Array.mapM_eq_mapM_toList,Sem.run_map,hm];simp only[Result.andThen_ok];congr 1;apply Array.ext';simp};simp only[execOp,ho,Instr.build,Sem.run_bind,uX hi Xk,run_underlying hu,Result.andThen_ok,ZK];rw[hc];simp}
  |array n e=>simp only[hu]at SV;obtain⟨i',h1⟩:=Option.isSome_iff_exists.1 SV;refine fin (λi=>BQ (i*i'.size,i'.size)) (λj q hq=>?_) (λfc hc=>?_);{unfold sA at hq;rw[hu]at hq;simp only[h1,Option.map_some,aN]at hq;subst hq;rfl};{simp only[execOp,ho,Instr.build,Sem.run_bind,uX hi Xk,run_underlying hu,Result.andThen_ok,T1 h1];rw[hc];simp}
  |_=>simp[hu]at SV
theorem go_bd(hd:o.dst=BQ d)(hl:d<C.nt)(hE:kZ C.P C.E){t:TypeId}{parts:Array (Nat×Operand)}{z ds xs:List TV}{pl:List (Nat×(Nat×TypeId))}{cs:List Cell}{ws:List (Nat×Cell)}(ho:o.op=.build t parts)(hz:C.E.z t=BQ z)(C5:rB C.P t parts.toList=BQ pl)(hx:tN C.E C.nt V (pl.map (·.2.2)) (parts.toList.map (·.2))=BQ cs)(hf:Oe V cs=BQ (xs,ws))(EA:sS z (pl.map λq=>(q.1,q.2.1)) xs=BQ ds)(SF:xs.all TV.plain=NS):fM C o a w (cX (gi S ws) d (.ag ds,.no)):=by obtain⟨R',h',hT,hq⟩:=h.frs hV hx hf;obtain⟨_,_,fc,_,_,hR,mW⟩:=Iu h hE ho hz C5 hT (λj v hj _=>by have:=aC.1 SF _ (aP hj);cases this) EA;exact h'.jq hd hl (v:=.agg fc) mW (by cases fc with|mk l=>exact .ag hR)
theorem go_bo(hd:o.dst=BQ d)(hl:d<C.nt)(hE:kZ C.P C.E){t:TypeId}{parts:Array (Nat×Operand)}{z ds xs:List TV}{pl:List (Nat×(Nat×TypeId))}{cs CS:List Cell}{ws:List (Nat×Cell)}{k:Nat}{q:Nat×(Nat×TypeId)}(ho:o.op=.build t parts)(hz:C.E.z t=BQ z)(C5:rB C.P t parts.toList=BQ pl)(hx:tN C.E C.nt V (pl.map (·.2.2)) (parts.toList.map (·.2))=BQ cs)(VM:rJ cs=BQ (CS,k))(hf:Oe V CS=BQ (xs,ws))(EA:sS z (pl.map λq=>(q.1,q.2.1)) (xs++[.pt])=BQ ds)(zM:pl.getLast?=BQ q)(hq:q.2.1=1)(hk:∀p∈ws,p.1≠k)(SF:xs.all TV.plain=NS):fM C o a w (cX (gi S ws) d (.ag ds,.ow [(q.1,k)])):=by
 obtain⟨hlen,Pu⟩:=um C5;have zO:=zD VM;obtain⟨h1,_,h3⟩:=ve h hV hx;have hk3:=(h3 (.pt,.fF k) (by rw[zO];simp)).2 k (by simp[Gh.dA]);rw[zO]at h1;obtain⟨Kk,v,Mf,S2,hv⟩:=Cells.snoc h1;obtain⟨R',k1,k2,k3,_⟩:=GV h.core hV.q S2 hf;have h':=h.fz k1 k2;obtain⟨e1,e2⟩:v=τ k/\v.oneCell'=NS:=hv;have hT:jy R' w (xs++[.pt]) ((parts.toList.map (·.2)).map a.eval):=by{rw[Mf];exact jy.snoc k3 (.pt v)};obtain⟨place,cells,fc,FC,Mo,hR,mW⟩:=Iu h hE ho hz C5 hT (λj v' hj xB=>by
  rw[show(parts.toList.map λp=>a.eval p.2)=Kk++[v] by rw[<-Mf];simp]at xB;have hl:=k3.length;by_cases Xv:j<xs.length;{rw[List.getElem?_append_left Xv]at hj;have:=aC.1 SF _ (aP hj);cases this}
  ·rw[aY (by omega)]at hj xB;have e:j -Kk.length=0:=by
    cases hh:j -xs.length with
    |zero=>omega
    |succ n=>rw[hh]at hj;simp at hj
   rw[e]at xB;cases xB;exact e2) EA
 obtain⟨ps,p0,hps⟩:∃ps p0,parts.toList=ps++[p0]:=by{rcases List.eq_nil_or_concat parts.toList with e|⟨ps,p0,e⟩;{rw[e]at Mf;simp at Mf};{exact⟨ps,p0,by rw[e,List.concat_eq_append]⟩}};rw[hps]at Mo Mf hlen Pu;simp only[List.map_append,bf,bw]at Mo Mf;have hv0:=(List.append_inj' Mf rfl).2;simp only[bt,and_true]at hv0;have hq0:pl[ps.length]?=BQ q:=by{rw[List.getLast?_eq_getElem?]at zM;simp only[ae,ao]at hlen;rw[hlen]at zM;simpa using zM};have VH:=FC _ _ (Pu ps.length p0 q (by simp) hq0);rw[hq]at VH;have SQ:=Bq place _ p0.1 (a.eval p0.2) q.1 cells fc VH (by rw[hv0];exact A6 e2) Mo;refine h'.val hd hl (v:=.agg fc) mW (x:=.ag ds) (g:=.ow [(q.1,k)]) ?_ rfl λj hj=>?_
 ·cases fc with
  |mk l=>exact⟨l,ds,rfl,rfl,hR,λp hp=>by rw[List.mem_singleton]at hp;subst hp;rw[<-e1,<-hv0];simpa using SQ⟩
 {simp only[Gh.dA,bf,bw,List.mem_singleton]at hj;subst hj;exact⟨hk3.1,by rw[jD hk];exact hk3.2⟩}
end
def fE.CV{t t':fE}{l n:List t.El}{m:List t'.El}(h:t.app l t' m=BQ n):∃e:t'=t,n=l++(e▸m):=by unfold fE.app at h;split at h<;>cases h<;>exact⟨rfl,rfl⟩
section
variable{C:Ctx}{S V:St}{a:Act}{w w':World}{R:Reach}{τ:Nat->Value}{o:Oper}{d:Nat}
def WX(P:Program)(R:Reach)(w:World)(p:Bool)(x0:Value)(st:fE)(n:List st.El)(r:World->Result Value):Prop:=∃v w' R',r w=.ok v w'/\gm R' w' p v (.sl st n)/\fq R w R' w'/\(∀b o,R' b o->R b o\/Value.iL v=BQ b)/\w'.os=w.os/\w'.tape=w.tape/\w'.output=w.output/\w.heap.size<=w'.heap.size/\(∀b,Value.iL v≠BQ b->b<w.heap.size->w'.heap[b]?=w.heap[b]?)/\(∀b,Value.iL v=BQ b->(w.heap.size<=b\/Value.iL x0=BQ b)/\b<w'.heap.size)/\∀b,Value.iL v=BQ b->Value.iL x0=BQ b->∃g cap m,x0=.slice (BQ ⟨g,0,Ku⟩) m cap/\v=.slice (BQ ⟨g,0,Ku⟩) n.length cap
theorem TN{P:Program}{t u ty e:TypeId}{i:TypeInfo}{z:Value}{du:TypeDesc}(gI:∀b o,R b o->b<w.heap.size)(ht:P.underlying t=BQ (.slice e))(hi:P.info? e=BQ i)(hz:i.zero=BQ z)(hzs:z.cells.size=i.size)(hu:P.underlying u=BQ du)(Cy:∀k,du≠.int k){p:Bool}{x0 x:Value}{st:fE}{l m:List st.El}{news:List Value}(hs:i.size=st.size)(h0:gm R w p x0 (.sl st l))(hx:Source P w st.size x m.length news)(hL:dR R w ((m.map st.tv).flatMap TV.cells) news)(X5:l.length+m.length<=maxLen)(hb:(l.length+m.length)*i.bytes<=140737488355328):WX P R w p x0 st (l++m) λw=>(Builtin.append_ #[t,u] ty #[x0,x]).run P w:=by
 rw[<-hs]at hx;have Ey:=hx.2.2.1;have V1:((l++m).map st.tv).flatMap TV.cells=(l.map st.tv).flatMap TV.cells++(m.map st.tv).flatMap TV.cells:=by{simp};have grow:∀(q:Option Addr)(cap:Nat)(zg:List Value),x0=.slice q l.length cap->cap<l.length+m.length->(∀w':World,w'.heap=w.heap->(Builtin.firstCells i.size l.length (.slice q l.length cap)).run P w'=.ok ⟨zg⟩ w')->
   dR R w ((l.map st.tv).flatMap TV.cells) zg->WX P R w p x0 st (l++m) λw=>(Builtin.append_ #[t,u] ty #[x0,x]).run P w:=by
  rintro q cap zg rfl SO ho Ui
  have mW:=wh (ty:=ty) ht hi hz hu Cy ho hx SO X5 hb
  have Mn:=grownCap_ge w (l.length+m.length) cap e
  have hle:=grownCap_le_maxLen w (l.length+m.length) cap e X5
  generalize hG:grownCap w (l.length+m.length) cap e=G at mW Mn hle
  have FE:zg.length=l.length*i.size:=by rw[<-Ui.length,py,hs]
  let cur:Array Value:=(⟨zg⟩:Array Value)++⟨news⟩++Builtin.zeroCells z.cells (G -(l.length+m.length))
  let R':Reach:=λb o=>R b o\/(p=NS/\b=w.heap.size/\o<(l.length+m.length)*st.size)
  have hold:∀b,b<w.heap.size->(w.drew.alloc (.cells cur e)).heap[b]?=w.heap[b]?:=λb hb=>by show(w.heap.push _)[b]?=_;rw[Array.getElem?_push,ak (by omega)]
  have eC:fq R w R' (w.drew.alloc (.cells cur e)):=λb o hr=>⟨.inl hr,World.cell?_of_block (w:=w) (hold b (gI b o hr))⟩
  have SZ:cur.toList.take ((l++m).length*st.size)=zg++news:=by have e1:cur.toList=(zg++news)++(Builtin.zeroCells z.cells (G -(l.length+m.length))).toList:=by{simp[cur]};have e2:(zg++news).length=(l++m).length*st.size:=by{rw[ae,ae,FE,Ey,hs,Nat.add_mul]};rw[e1,<-e2,List.take_left]
  refine⟨_,_,R',mW,⟨st,l++m,rfl,.inr ⟨w.heap.size,G,cur,e,(0,0),by rw[ae],?_,λo _=>by simp,?_,by rw[ae];exact Mn,hle,?_,λo=>⟨λhr=>?_,λhr=>.inr ⟨hr.1,rfl,by have:=hr.2;rwa[ae]at this⟩⟩⟩⟩,eC,λb o hr=>hr.imp id λe=>by rw[e.2.1];rfl,rfl,rfl,rfl,?_,λb _ hb=>hold b hb,λb hb=>?_,λb hb oZ=>?_⟩
  {show(w.heap.push _)[w.heap.size]?=BQ _;rw[Array.getElem?_push,ar rfl]}
  {simp only[cur,Array.size_append,List.size_toArray,size_zeroCells,hzs,FE,Ey,<-Nat.add_mul,<-hs];congr 1;omega}
  {rw[SZ,V1];exact(Ui.append hL).mono eC}
  {rcases hr with hr|⟨h1,_,h2⟩;{have:=gI _ _ hr;omega};{exact⟨h1,by rwa[ae]⟩}}
  {show w.heap.size<=(w.heap.push _).size;simp}
  {cases hb;exact⟨.inl (Nat.le_refl _),by show w.heap.size<(w.heap.push _).size;simp⟩}
  {cases hb;exact absurd (h0.lt oZ) (Nat.lt_irrefl _)}
 rcases h0.cells with⟨rfl,rfl⟩|⟨g,cap,cur,ce,fz,rfl,hg,hfz,zO,hnc,Py,Ui,hR⟩;{by_cases hm:m.length=0;{have ZM:m=[]:=bm hm;subst ZM;refine⟨.slice Ku 0 0,w,R,?_,h0,fq.refl _ _,λb o=>.inl,rfl,rfl,rfl,Nat.le_refl _,λ_ _ _=>rfl,λb hb=>(by cases hb),λb hb=>by cases hb⟩;obtain⟨h1,h2,h3,h4⟩:=hx;have ZZ:(match du with|.int _=>NS|_=>NT)=NT:=by{cases du<;>first|rfl|exact(Cy _ rfl).elim};have CC:=h2 w rfl;simp only[aE]at h1 CC;simp[Builtin.append_,run_underlying ht,run_underlying hu,ZZ,sizeOf,typeInfo,hi,h1,CC]};{exact grow Ku 0 [] rfl (by simp;omega) (λ_ _=>rfl) .nil}}
 ·have FE:(cur.toList.take (l.length*st.size)).length=l.length*i.size:=by{rw[<-Ui.length,py,hs]};by_cases Bm:l.length+m.length<=cap
  ·have mW:=wg (ty:=ty) ht hi hu Cy hg hfz hx Bm (by rw[hs];exact zO);have hle:(l.length+m.length)*st.size<=cap*st.size:=ay _ Bm;rw[Nat.add_mul]at hle;rw[hs]at mW Ey FE;have AE:cur.toList.length=cap*st.size:=by{simp[zO]};let cur':Array Value:=(cur.toList.take (l.length*st.size)++news++cur.toList.drop (l.length*st.size+news.length)).toArray;have VZ:∀j,j<l.length*st.size->cur'[j]?=cur[j]?:=λj hj=>by{simp only[cur',List.getElem?_toArray,aA];rw[List.getElem?_append_left (by rw[FE];exact hj),bc,ar hj];simp};have zP:∀j,(w.setRow g cur').cell? ⟨g,j,Ku⟩=cur'[j]?:=λj=>cell_setRow_same w g j cur cur' ce fz hg;let R':Reach:=λb o=>R b o\/(p=NS/\b=g/\o<(l.length+m.length)*st.size);have eC:fq R w R' (w.setRow g cur'):=λc o Kn=>⟨.inl Kn,by
    by_cases hcb:c=g;{subst hcb;rw[zP,VZ o ((hR o).1 Kn).2];simp[World.cell?,hg]}
    ·exact cell_setRow_other w g cur' ⟨c,o,Ku⟩ hcb⟩
   have Kq:g<w.heap.size:=(Array.getElem?_eq_some_iff.1 hg).1;have Xn:cur'.toList.take ((l++m).length*st.size)=cur.toList.take (l.length*st.size)++news:=by{have e2:(cur.toList.take (l.length*st.size)++news).length=(l++m).length*st.size:=by{rw[ae,ae,FE,Ey,Nat.add_mul]};show(cur.toList.take (l.length*st.size)++news++_).take _=_;rw[<-e2,List.take_left]};have wL:cur'.size=cur.size:=by{simp only[cur',List.size_toArray,ae,FE,aR,AE,Ey,<-Array.length_toList];omega};refine⟨_,_,R',mW,⟨st,l++m,rfl,.inr ⟨g,cap,cur',ce,fz,by rw[ae],setRow_heap w g cur cur' ce fz hg,λo ho=>hfz o (by rw[<-wL];exact ho),by rw[wL];exact zO,by rw[ae];exact Bm,Py,?_,λo=>⟨λhr=>?_,λhr=>.inr ⟨hr.1,rfl,by have:=hr.2;rwa[ae]at this⟩⟩⟩⟩,
    eC,λb o hr=>hr.imp id λe=>by rw[e.2.1];rfl,rfl,rfl,rfl,by rw[setRow_size];exact Nat.le_refl _,λb hb _=>setRow_other w g b cur' (λe=>hb (by rw[e];rfl)),λb hb=>?_,λb _ _=>⟨g,cap,l.length,rfl,by rw[ae]⟩⟩
   {rw[Xn,V1];exact(Ui.append hL).mono eC};{rcases hr with hr|⟨h1,_,h2⟩;{have:=(hR o).1 hr;refine⟨this.1,?_⟩;rw[ae,Nat.add_mul];omega};{exact⟨h1,by rwa[ae]⟩}};{cases hb;exact⟨.inr rfl,by rw[setRow_size];exact Kq⟩}
  ·refine grow (BQ ⟨g,0,Ku⟩) cap _ rfl (by omega) (λw' hw=>?_) Ui;rw[hs];exact run_firstCells_some (P:=P) w' st.size l.length ⟨g,0,Ku⟩ l.length cap _ (by rw[FE,hs]) (λj v hj=>by
    rw[Ur,Nat.zero_add,World.cell?_of_block (w:=w) (by rw[hw])];rw[bc]at hj;split at hj;{simp only[World.cell?,hg];simpa using hj}
    ·cases hj)
theorem fP.Tb(h:fP C S a w R τ){k k2:Nat}{v:Value}{x:TV}{g c:Gh}{y:TV}{R':Reach}(hk:C.nt<=k/\(S k).2.own=NS/\(S k).2.HZ=NT)(zN:(S k2).2=.no/\k2<1000000/\C.nt<=k2)(eC:fq R w R' w')(hn:∀b o,R' b o->R b o\/Value.iL v=BQ b)(os:w'.os=w.os)(tape:w'.tape=w.tape)(out:w'.output=w.output)(size:w.heap.size<=w'.heap.size)(heap:∀b,Value.iL v≠BQ b->b<w.heap.size->w'.heap[b]?=w.heap[b]?)(hb:∀b,Value.iL v=BQ b->(w.heap.size<=b\/Value.iL (τ k)=BQ b)/\b<w'.heap.size)(hg:g=.pv\/g=.lv)(new:kY R' w' τ x g v)(hc:c=.zz\/c=.us)(hy:kY R' w' τ y c (τ k)):fP C (cX (cX S k (y,c)) k2 (x,g)) a w' R' (Ap τ k2 v):=by have nW:k≠k2:=by{rintro rfl;rw[zN.1]at hk;cases hk.2.1};have Oc:g.own=NS:=by{rcases hg with rfl|rfl<;>rfl};have hgm:g.dA=[]:=by{rcases hg with rfl|rfl<;>rfl};have Py:c.dA=[]:=by{rcases hc with rfl|rfl<;>rfl};have Mh:cX (cX S k (y,c)) k2 (x,g) k=(y,c):=by{rw[fH _ _ nW,cO]};have oth:∀j,j≠k->iL τ S j≠Ku->∀b,iL τ S j=BQ b->Value.iL v≠BQ b:=λj hj _ b JJ hv=>by{rcases(hb b hv).1 with e|e;{have:=h.core.lt JJ;omega};{exact hj (h.core.yO (iK hk.2.1 (Cr hk.2.2) e) JJ).symm}};have eG:∀b,Value.iL v=BQ b->C.eG b:=λb hv=>by{rcases(hb b hv).1 with e|e;{exact .inr (Nat.le_trans h.ext.size e)};{exact h.core.eG k b (iK hk.2.1 (Cr hk.2.2) e)}};have Mq:Core C.nt R' w' C.eG (Ap τ k2 v) (cX (cX S k (y,c)) k2 (x,g)):=by{refine h.core.step (λj=>j=k\/j=k2) eC (λj hj=>?_) (λj b hj JJ=>?_) ?_ ?_ ?_ ?_ ?_ ?_ (λ_=>id) ?_ ?_ ?_;{have h1:j≠k:=λe=>hj (.inl e);have h2:j≠k2:=λe=>hj (.inr e);exact⟨by rw[fH _ _ h2,fH _ _ h1],jz _ _ h2⟩};{have h1:j≠k:=λe=>hj (.inl e);have:=oth j h1 (by rw[JJ];simp) b JJ;exact⟨heap b this (h.core.lt JJ),λo hr=>(hn b o hr).resolve_right this⟩};{rintro j (rfl|rfl);{rw[Mh,jz _ _ nW];exact hy.eC (fq.refl _ _) (by rw[Py];simp) λb e=>by rcases hc with rfl|rfl<;>cases e};{rw[cO,iE];exact new.eC (fq.refl _ _) (by rw[hgm];simp) λ_ _=>⟨rfl,λ_=>id⟩}};{rintro j (rfl|rfl);{exact .inl (jz _ _ nW)};{exact .inr (.inr zN.1)}};{rintro j (rfl|rfl);{rw[Mh];right;rcases hc with rfl|rfl<;>simp};{rw[cO];right;rcases hg with rfl|rfl<;>simp}};{rintro j (rfl|rfl);{rw[Mh];exact .inl ⟨hk.2.2,by rcases hc with rfl|rfl<;>rfl⟩};{rw[cO,zN.1];exact .inl ⟨rfl,by rcases hg with rfl|rfl<;>rfl⟩}};{rintro j (rfl|rfl) _;{exact .inl hk.2.1};{exact .inr zN.1}};{rintro j b (rfl|rfl) JJ;{have:=(gT JJ).1;rw[Mh]at this;rcases hc with rfl|rfl<;>cases this};{have hv:=(gT JJ).2;rw[iE]at hv;refine⟨eG b hv,?_,(hb b hv).1.imp id λe=>⟨k,.inl rfl,iK hk.2.1 (Cr hk.2.2) e⟩⟩;rintro q (rfl|rfl) hq hqb;{have:=(gT hqb).1;rw[Mh]at this;rcases hc with rfl|rfl<;>cases this};{exact hq rfl}}};{rintro j (rfl|rfl) q hq;{rw[Mh,Py]at hq;cases hq};{rw[cO,hgm]at hq;cases hq}};{intro b o hr;rcases hn b o hr with hr|hr;{have:=h.core.vK b o hr;omega};{exact(hb b hr).2}};{rintro j (rfl|rfl) hj<;>omega}};refine⟨h.size,h.defers,Mq,λt ht=>by rw[jz _ _ (by omega)];exact h.tmps t ht,⟨h.io.1,λj hj=>by rw[jz _ _ (by omega)];exact h.io.2 j hj⟩,h.ext.trans (io':=λb=>Value.iL v=BQ b) ⟨os,tape,out,size,λb oZ hv=>heap b hv oZ,eC,λb o hr=>(hn b o hr).imp id .inr⟩ (λb hv=>eG b hv),h.gl.eC eC⟩
end
section
variable{C:Ctx}{S V:St}{a:Act}{w w':World}{R:Reach}{τ:Nat->Value}{o:Oper}{d:Nat}
theorem fP.Wd(h:fP C S a w R τ){k2:Nat}{v:Value}{x:TV}{R':Reach}(zN:(S k2).2=.no/\k2<1000000/\C.nt<=k2)(eC:fq R w R' w')(hn:∀b o,R' b o->R b o\/Value.iL v=BQ b)(os:w'.os=w.os)(tape:w'.tape=w.tape)(out:w'.output=w.output)(size:w.heap.size<=w'.heap.size)(heap:∀b,Value.iL v≠BQ b->b<w.heap.size->w'.heap[b]?=w.heap[b]?)(hb:∀b,Value.iL v=BQ b->w.heap.size<=b/\b<w'.heap.size)(new:kY R' w' τ x .pv v):fP C (cX S k2 (x,.pv)) a w' R' (Ap τ k2 v):=by
 have Vk:∀b,b<w.heap.size->Value.iL v≠BQ b:=λb h1 h2=>by{have:=(hb b h2).1;omega};refine⟨h.size,h.defers,h.core.kD zN.2.2 eC (λj b _ JJ=>?_) new (.inr zN.1) ⟨by rw[zN.1];rfl,rfl⟩ (by simp) (λ_=>.inr zN.1) (λb _ hv=>⟨.inr (Nat.le_trans h.ext.size (hb b hv).1),.inl (hb b hv).1⟩) (by simp[Gh.dA]) (λb o hr=>?_),
  λt ht=>by rw[jz _ _ (by omega)];exact h.tmps t ht,⟨h.io.1,λj hj=>by rw[jz _ _ (by omega)];exact h.io.2 j hj⟩,
  h.ext.trans (io':=λb=>Value.iL v=BQ b) ⟨os,tape,out,size,λb oZ hv=>heap b hv oZ,eC,λb o hr=>(hn b o hr).imp id .inr⟩ (λb hv=>.inr (Nat.le_trans h.ext.size (hb b hv).1)),h.gl.eC eC⟩
 {have hl:=h.core.lt JJ;exact⟨heap b (Vk b hl) hl,λo hr=>(hn b o hr).resolve_right (Vk b hl)⟩};{rcases hn b o hr with hr|hr;{have:=h.core.vK b o hr;omega};{simp_all}}
theorem fP.recover(h:fP C S a w R τ){k c:Nat}{x:TV}(hk:S k=(x,.pw c)):fP C (cX (cX S k (x,.pv)) c (.dead,.zz)) a w R τ:=⟨h.size,h.defers,by have:=h.core.recover hk;rwa[xV,xV]at this,h.tmps,h.io,h.ext,h.gl⟩
variable(h:fP C S a w R τ)(hV:Lt V S)
include h hV
section
variable(hd:o.dst=BQ d)(hl:d<C.nt)
include hd hl
theorem go_app (hE:kZ C.P C.E) {t u:TypeId} {x y:Operand} {st:fE} {tE k k2:Nat} {l m:List st.El} {news:List Value} {du:TypeDesc} {g c:Gh} {z:TV} (ho:o.op = .call { callee := .builtin .append,args:=#[x,y],argTypes:=#[t,u] }) (ht:C.E.ty t=BQ (st,tE)) (hx:ik C.E C.nt V t x=BQ (.pt,.fF k)) (hk:S k=(.sl st l,g))
  (hu:C.P.underlying u=BQ du) (Cy:∀k,du ≠ .int k) (zL:Source C.P w st.size (a.eval y) m.length news) (hL:dR R w ((m.map st.tv).flatMap TV.cells) news) (C6:dP (l.length+m.length) tE=NS) (zN:(S k2).2 = .no∧k2<1000000∧C.nt≤k2) (hg:(g = .pv∧c = .zz∧z = .dead)∨(g = .lv∧c = .us∧z = .sl st l)) :
  fM C o a w (cX (cX (cX S k (z,c)) k2 (.sl st (l++m),g)) d (.pt,.fF k2)):=by
 obtain ⟨e,i,zv,h1,h2,h3,h4,h5,h6,h7⟩:=hE.ty _ _ _ ht
 obtain ⟨q1,_,q3⟩:=iy h hV hx
 have hv:a.eval x=τ k:=q1.1
 have hK:=h.core.key k
 rw [hk] at hK
 simp only [dP,af,aD] at C6
 have Oc:g.own=NS∧g.HZ=NT∧g.slot=NT:=by rcases hg with ⟨rfl,_⟩ | ⟨rfl,_⟩ <;> exact ⟨rfl,rfl,rfl⟩
 obtain ⟨p,hp,hpk⟩:∃p,gm R w p (τ k) (.sl st l)∧∀R w τ x v,kY R w τ x g v=gm R w p v x:=by rcases hg with ⟨rfl,_⟩ | ⟨rfl,_⟩ <;> exact ⟨_,hK,fun _ _ _ _ _=>rfl⟩
 obtain ⟨v,w',R',mW,hs,eC,hn,os,tape,out,size,heap,hb,zQ⟩:=TN (P:=C.P) (ty:=o.type) h.core.vK h1 h2 h5 (by omega) hu Cy h3 hp zL hL C6.1 (by simp_all)
 have Cv:v.oneCell'=NS:=by
  rcases hs.cells with ⟨_,rfl⟩ | ⟨_,_,_,_,_,rfl,_⟩ <;> rfl
 have FD:=h.Tb (k:=k) (k2:=k2) (x := .sl st (l++m)) (g:=g) (c:=c) (y:=z) ⟨(q3 k (by simp [Gh.dA])).1,by rw [hk];exact ⟨Oc.1,Oc.2.1⟩⟩ zN eC hn os tape out size heap hb (by grind) (by simp_all)
  (by grind) (by
   rcases hg with ⟨_,rfl,_⟩ | ⟨rfl,rfl,rfl⟩
   ·trivial
   ·exact (gm.rep hK).1.mono eC)
 refine FD.zS (v:=v) hd hl ?_ (g := .fF k2) ⟨(iE _ _ _).symm,Cv⟩ rfl fun j hj=>?_
 ·simp only [execOp,ho]
  have:(Builtin.append_ #[t,u] o.type #[τ k,a.eval y]).run C.P w = .ok v w':=mW
  simp [resolve,invoke,builtin,this,hv]
 ·simp_all [Gh.dA,cO]
theorem go_lend(hE:kZ C.P C.E){t u:TypeId}{x y:Operand}{st:fE}{tE k k2:Nat}{l m:List st.El}{news:List Value}{du:TypeDesc}(ho:o.op=.call {callee:=.builtin .append,args:=#[x,y],argTypes:=#[t,u]})(ht:C.E.ty t=BQ (st,tE))(hv:a.eval x=τ k)(Ob:C.nt<=k)(hk:S k=(.sl st l,.pv))(hu:C.P.underlying u=BQ du)(Cy:∀k,du≠.int k)(zL:Source C.P w st.size (a.eval y) m.length news)(hL:dR R w ((m.map st.tv).flatMap TV.cells) news)(C6:dP (l.length+m.length) tE=NS)(zN:(S k2).2=.no/\k2<1000000/\C.nt<=k2):fM C o a w (cX (cX (cX S k (.sl st l,.pw k2)) k2 (.sl st (l++m),.pc k)) d (.pt,.fF k2)):=by
 have _:=hV;obtain⟨e,i,zv,h1,h2,h3,h4,h5,h6,h7⟩:=hE.ty _ _ _ ht;have hK:gm R w NT (τ k) (.sl st l):=by{have:=h.core.key k;rw[hk]at this;exact this};simp only[dP,af,aD]at C6;have nW:k2≠k:=by{grind};obtain⟨v,w',R',mW,hs,eC,hn,os,tape,out,size,heap,hb,zQ⟩:=TN (P:=C.P) (ty:=o.type) h.core.vK h1 h2 h5 (by omega) hu Cy h3 hK zL hL C6.1 (by simp_all);have Cv:v.oneCell'=NS:=by{rcases hs.cells with⟨_,rfl⟩|⟨_,_,_,_,_,rfl,_⟩<;>rfl};have FD:=h.Tb (k:=k) (k2:=k2) (x:=.sl st (l++m)) (g:=.pv) (c:=.zz) (y:=.dead) ⟨Ob,by rw[hk];exact⟨rfl,rfl⟩⟩ zN eC hn os tape out size heap hb (.inl rfl) hs (.inl rfl) trivial;have own:∀b,gb (Ap τ k2 v) (.pw k2) (τ k)=BQ b->Value.iL (τ k)=BQ b/\Value.iL v≠BQ b:=λb oZ=>by{simp only[gb,iE]at oZ;split at oZ;{cases oZ};{grind}};have hp:TZ R' w' (Ap τ k2 v k) (.sl st l) (Ap τ k2 v k2):=by
  rw[iE,jz _ _ (Ne.symm nW)];cases Q5:Value.iL (τ k)with
  |none=>exact .inl ⟨hK.eC eC λg hg=>(by simp_all),.inl Q5⟩
  |some b=>by_cases Xm:Value.iL v=BQ b;{obtain⟨g,cap,q,e1,e2⟩:=zQ b Xm Q5;refine .inr ⟨st,l,g,cap,_,rfl,?_,e2⟩;obtain⟨t2,l2,e3,⟨_,e4⟩|⟨g',cap',_,_,_,e4,_⟩⟩:=hK;{simp_all};{grind}};{refine .inl ⟨hK.eC eC λg hg=>?_,.inr (by rw[Q5];exact Ne.symm Xm)⟩;rw[Q5]at hg;cases hg;exact⟨heap b Xm (hK.lt Q5),λo hr=>(hn b o hr).resolve_right Xm⟩}
 have e1:cX (cX S k (.dead,.zz)) k2 (.sl st (l++m),.pv) k=(.dead,.zz):=by{rw[fH _ _ (Ne.symm nW),cO]};have V4:=FD.core.Wx (k:=k) (d:=k2) (t:=st) (l:=l) (m:=m) Ob zN.2.2 e1 (cO ..) hp (λb oZ=>by
  rw[jz _ _ (Ne.symm nW)]at oZ;obtain⟨q1,q2⟩:=own b oZ;have hkb:iL τ S k=BQ b:=iK (by rw[hk];rfl) (by rw[hk];rfl) q1;refine⟨h.core.eG k b hkb,λj hj=>?_⟩;by_cases c1:j=k2;{grind[gT,iE]}
  ·by_cases c2:j=k;{rw[c2]at hj;have:=(gT hj).1;rw[e1]at this;cases this}
   ·have ej:cX (cX S k (.dead,.zz)) k2 (.sl st (l++m),.pv) j=S j:=by{rw[fH _ _ c1,fH _ _ c2]};have xB:iL τ S j=BQ b:=by{unfold iL at hj⊢;rw[ej,jz _ _ c1]at hj;rw[<-hj,Mw λq hq=>?_];refine(jz _ _ ?_).symm;rintro rfl;exact(h.core.inv j q hq).2 zN.1};exact c2 (h.core.sep _ _ _ xB hkb))
 rw[xV,xV]at V4;have e2:cX (cX (cX (cX S k (.dead,.zz)) k2 (.sl st (l++m),.pv)) k (.sl st l,.pw k2)) k2 (.sl st (l++m),.pc k)=cX (cX S k (.sl st l,.pw k2)) k2 (.sl st (l++m),.pc k):=by{grind[cO,fH]};rw[e2]at V4;have ZI:fP C (cX (cX S k (.sl st l,.pw k2)) k2 (.sl st (l++m),.pc k)) a w' R' (Ap τ k2 v):=⟨FD.size,FD.defers,V4,FD.tmps,FD.io,FD.ext,FD.gl⟩;refine ZI.zS (v:=v) hd hl ?_ (g:=.fF k2) ⟨(iE _ _ _).symm,Cv⟩ rfl λj hj=>?_;{have:(Builtin.append_ #[t,u] o.type #[τ k,a.eval y]).run C.P w=.ok v w':=mW;simp[execOp,ho,resolve,invoke,builtin,this,hv]};{simp_all[Gh.dA,List.mem_singleton,cO]}
theorem go_apn(hE:kZ C.P C.E){t u:TypeId}{x y:Operand}{st:fE}{tE k2:Nat}{m:List st.El}{news:List Value}{du:TypeDesc}(ho:o.op=.call {callee:=.builtin .append,args:=#[x,y],argTypes:=#[t,u]})(ht:C.E.ty t=BQ (st,tE))(hx:ik C.E C.nt V t x=BQ (.nl st,.no))(hu:C.P.underlying u=BQ du)(Cy:∀k,du≠.int k)(zL:Source C.P w st.size (a.eval y) m.length news)(hL:dR R w ((m.map st.tv).flatMap TV.cells) news)(C6:dP m.length tE=NS)(zN:(S k2).2=.no/\k2<1000000/\C.nt<=k2):fM C o a w (cX (cX S k2 (.sl st m,.pv)) d (.pt,.fF k2)):=by
 obtain⟨e,i,zv,h1,h2,h3,h4,h5,h6,h7⟩:=hE.ty _ _ _ ht;have hv:a.eval x=.slice Ku 0 0:=by
  have:=fJ h hV hx;generalize a.eval x=v at this⊢;cases this with
  |sc h=>cases h
  |nl=>rfl
 simp only[dP,af,aD]at C6;obtain⟨v,w',R',mW,hs,eC,hn,os,tape,out,size,heap,hb,zQ⟩:=TN (P:=C.P) (ty:=o.type) (p:=NT) (x0:=.slice Ku 0 0) (l:=[]) h.core.vK h1 h2 h5 (by rw[h3];exact h6) hu Cy h3 ⟨st,[],rfl,.inl ⟨rfl,rfl⟩⟩ zL hL (by simpa using C6.1) (by rw[h4];simpa using C6.2);have Cv:v.oneCell'=NS:=by{rcases hs.cells with⟨_,rfl⟩|⟨_,_,_,_,_,rfl,_⟩<;>rfl};refine(h.Wd (x:=.sl st m) zN eC hn os tape out size heap (λb hv=>⟨(hb b hv).1.resolve_right (by simp[Value.iL]),(hb b hv).2⟩) hs).zS (v:=v) hd hl ?_ (g:=.fF k2) ⟨(iE _ _ _).symm,Cv⟩ rfl λj hj=>?_;{have:(Builtin.append_ #[t,u] o.type #[.slice Ku 0 0,a.eval y]).run C.P w=.ok v w':=mW;simp[execOp,ho,resolve,invoke,builtin,this,hv]};{simp only[Gh.dA,List.mem_singleton]at hj;subst hj;exact⟨zN.2.2,by rw[cO];simp⟩}
theorem go_psl{t:TypeId}{x y:Operand}{st:fE}{k k2:Nat}{l:List st.El}{n:Int}(hE:kZ C.P C.E)(ho:o.op=.slice t x Ku (BQ y) Ku)(ht:xI C.E t st=NS)(hx:ik C.E C.nt V t x=BQ (.pt,.fF k))(hk:S k=(.sl st l,.pv))(hy:qn C.E C.nt V (BQ y)=BQ (BQ n))(hc:fe 0 n l.length=NS)(zN:(S k2).2=.no/\k2<1000000/\C.nt<=k2):fM C o a w (cX (cX (cX S k (.dead,.zz)) k2 (.sl st (l.take n.toNat),.pv)) d (.pt,.fF k2)):=by obtain⟨e,inf,ht,uK,hz⟩:=s0 hE ht;obtain⟨q1,_,q3⟩:=iy h hV hx;have hv:a.eval x=τ k:=q1.1;have hK:=h.core.key k;rw[hk]at hK;have hb:=λcap zQ=>abt h hV (lo:=Ku) (p:=Ku) rfl hy hc NS (cap:=cap) zQ (λe=>by cases e);simp only[Option.getD_some,Option.getD_none]at hb;obtain⟨_,_,k2'⟩:=hb l.length (Nat.le_refl _);generalize hu:n.toNat=u at*;have gI:(l.take u).length=u:=by{rw[aF];omega};have fin:∀v,(execOp a.eval o).run C.P w=.ok (.value v) w->gm R w NT v (.sl st (l.take u))->(∀b,Value.iL v=BQ b->Value.iL (τ k)=BQ b)->v.oneCell'=NS->fM C o a w (cX (cX (cX S k (.dead,.zz)) k2 (.sl st (l.take u),.pv)) d (.pt,.fF k2)):=λv mW hs hb Cv=>by{have FD:=h.Tb (w':=w) (R':=R) (k:=k) (k2:=k2) (v:=v) (x:=.sl st (l.take u)) (g:=.pv) (c:=.zz) (y:=.dead) ⟨(q3 k (by simp[Gh.dA])).1,by rw[hk];exact⟨rfl,rfl⟩⟩ zN (fq.refl _ _) (λ_ _=>.inl) rfl rfl rfl (Nat.le_refl _) (λ_ _ _=>rfl) (λb oZ=>⟨.inr (hb b oZ),hs.lt oZ⟩) (.inl rfl) hs (.inl rfl) trivial;refine FD.zS (v:=v) hd hl mW (g:=.fF k2) ⟨(iE _ _ _).symm,Cv⟩ rfl λj hj=>?_;simp only[Gh.dA,List.mem_singleton]at hj;subst hj;exact⟨zN.2.2,by rw[cO];simp⟩};rcases gm.cells hK with⟨rfl,e1⟩|⟨g,cap,cur,ce,fz,e1,e2,e3,e4,e5,e6,e7,e8⟩;{obtain rfl:u=0:=by{simpa using k2'};have uL:=(hb 0 (by simp)).1;simp only[aE]at uL;refine fin (.slice Ku 0 0) ?_ ⟨st,[],rfl,.inl ⟨rfl,rfl⟩⟩ (λb hb=>by cases hb) rfl;simp only[execOp,ho,hv,e1,Instr.sliceAt,Instr.slice,Sem.run_bind,run_underlying ht,Result.andThen_ok,Option.map_none,Option.map_some,T1 uK,Sem.run_pure];simp at uL;simp[uL]};{have uL:=(hb cap e5).1;refine fin (.slice (BQ ⟨g,0,Ku⟩) u cap) ?_ ⟨st,l.take u,rfl,.inr ⟨g,cap,cur,ce,fz,by rw[gI],e2,e3,e4,by omega,e6,?_,λo=>⟨λhr=>by simpa using(e8 o).1 hr,λhr=>by simp at hr⟩⟩⟩ (λb hb=>by rw[e1];exact hb) rfl;{simp only[execOp,ho,hv,e1,Instr.sliceAt,Instr.slice,Sem.run_bind,run_underlying ht,Result.andThen_ok,Option.map_none,Option.map_some,T1 uK,Sem.run_pure];simp at uL;simp[uL,Ur]};{rw[gI];have:((l.take u).map st.tv).flatMap TV.cells=((l.map st.tv).flatMap TV.cells).take (u*st.size):=by{have e:=congrArg (λm:List st.El=>(m.map st.tv).flatMap TV.cells) (List.take_append_drop u l);simp only[List.map_append,List.flatMap_append]at e;rw[<-e,show u*st.size=(((l.take u).map st.tv).flatMap TV.cells).length by rw[py,gI],List.take_left]};rw[this];have hle:u*st.size<=l.length*st.size:=ay _ k2';have:=e7.take (u*st.size);rwa[List.take_take,Nat.min_eq_left hle]at this}}
end
theorem go_stt(hd:o.dst=Ku){x v:Operand}{t:TypeId}{inf:TypeInfo}{m q k:Nat}{cs:List TV}{ts:List (Nat×Nat)}(ho:o.op=.store t x v)(hi:C.P.info? t=BQ inf)(hn:inf.size=1)(hx:ik C.E C.nt V 0 x=BQ (.pt,.ptr m q))(hm:S m=(.ag cs,.cl ts))(hv:ik C.E C.nt V t v=BQ (.pt,.fF k))(pd:q<cs.length)(nW:k≠m)(T7:∀t∈ts,t.2≠m):fM C o a w (cX S m (.ag (iC cs q [.pt]),.cl ((q,k)::HD q 1 ts))):=by obtain⟨q1,_,q3⟩:=iy h hV hv;have e1:a.eval v=τ k:=q1.1;have e2:(a.eval v).oneCell'=NS:=q1.2;have e3:(a.eval v).cells.toList=[a.eval v]:=A6 e2;refine go_st' h hV hd ho hi hx hm (qs:=[.pt]) (by rw[e3];exact .cons e2 (.pt _) .nil) (by simp[hn]) (by omega) λu hu=>?_;rcases aQ.1 hu with rfl|hu;{exact⟨nW,.inr ⟨(q3 k (by simp[Gh.dA])).1,(q3 k (by simp[Gh.dA])).2,Nat.le_refl _,by rw[e3,e1];simp⟩⟩};{obtain⟨h1,h2⟩:=AY hu;rw[hn];exact⟨T7 u h1,.inl ⟨h1,h2⟩⟩}
theorem go_sto(hd:o.dst=Ku){x v:Operand}{t:TypeId}{inf:TypeInfo}{m:Nat}{cs xs:List TV}{ts us:List (Nat×Nat)}(ho:o.op=.store t x v)(hi:C.P.info? t=BQ inf)(hx:ik C.E C.nt V 0 x=BQ (.pt,.ptr m 0))(hm:S m=(.ag cs,.cl ts))(hv:ik C.E C.nt V t v=BQ (.ag xs,.ow us))(hn:xs.length=inf.size)(pd:inf.size=cs.length)(hus:∀t∈us,t.2≠m):fM C o a w (cX S m (.ag xs,.cl us)):=by obtain⟨q1,_,q3⟩:=iy h hV hv;obtain⟨ys,vs,e1,e2,e3,e4⟩:∃ys vs,a.eval v=.agg ⟨ys⟩/\TV.ag xs=.ag vs/\dR R w vs ys/\∀p∈us,ys[p.1]?=BQ (τ p.2):=q1;cases e2;have e5:(a.eval v).cells.toList=ys:=by{rw[e1];rfl};have:=go_st' h hV hd ho hi hx hm (qs:=xs) (us:=us) (by rw[e5];exact e3) hn (by omega) λu hu=>⟨hus u hu,.inr ⟨(q3 u.2 (List.mem_map_of_mem (f:=(·.2)) hu)).1,(q3 u.2 (List.mem_map_of_mem (f:=(·.2)) hu)).2,Nat.zero_le _,by rw[e5,Nat.sub_zero];exact e4 u hu⟩⟩;have e6:iC cs 0 xs=xs:=by{simp[iC,hn,pd]};rwa[e6]at this
end
def th(P:Program)(f:Nat):Bool:=(P.funcs[f]?).any λfn=>fn.body.isSome&&!(fn.name== "runtime.NumGoroutine")
def Vn:Nat->Value:=λ_=>undef
def IC(R:Reach)(w:World)(m:Md)(x:TV)(v:Value):Prop:=
 match m with
 |.pl=>Rep R w x v
 |.rf=>BP R w Vn v x []
 |_=>gm R w NT v x
def C0(R:Reach)(w:World)(ms:List Md)(ins:List TV)(xs:List Value):Prop:=ins.length=xs.length/\∀i x v,ins[i]?=BQ x->xs[i]?=BQ v->IC R w (ms.getD i .pl) x v
def TX(p:Md->Prop)(ms:List Md)(xs:List Value):Prop:=∀i j v v' b,p (ms.getD i .pl)->p (ms.getD j .pl)->xs[i]?=BQ v->xs[j]?=BQ v'->Value.iL v=BQ b->Value.iL v'=BQ b->i=j
def C2(ms:List Md)(xs:List Value)(b:Nat):Prop:=∃i v,ms.getD i .pl≠.pl/\xs[i]?=BQ v/\Value.iL v=BQ b
def Md.Ju(m:Md):Prop:=m≠.pl/\m≠.gv
def N0(R:Reach)(w:World)(m:Md)(y:TV)(v:Value):Prop:=
 match m with
 |.rf=>BP R w Vn v y []
 |.sl=>gm R w NT v y
 |.sm=>gm R w NT v y
 |_=>True
def rC(vs:List Value)(i:Nat):Option Value:=cond (Nat.blt i 1000) (vs[i]?) (match vs[0]? with|some (Value.agg cs)=>cs.toList[i -1000]? |_=>Ku)
structure CZ (sg:iB) (R:Reach) (w:World) (eG:Nat->Prop) (ins:List TV) (xs:List Value) (outs:List TV) (x:Value) (qb:List Value) (ys:List TV):Prop where
 len:qb.length=sg.jE
 le:sg.jE<=outs.length
 val:x=if sg.jE=1 then qb.headD undef else .tuple ⟨qb⟩
 rep:jy R w (uk sg.own (outs.take sg.jE)) qb
 own:∀i∈sg.own,∀v y,rC qb i=BQ v->tM outs i=BQ y->gm R w NT v y
 back:nH sg.md ins (outs.drop sg.jE)=BQ ys
 Wp:∀i y v,ys[i]?=BQ y->xs[i]?=BQ v->N0 R w (sg.md.getD i .pl) y v
 eG:∀i∈sg.own,∀v b,rC qb i=BQ v->Value.iL v=BQ b->eG b
 YU:∀(j j' i i':Nat)(v v':Value)(b:Nat),sg.own[j]?=BQ i->sg.own[j']?=BQ i'->rC qb i=BQ v->rC qb i'=BQ v'->Value.iL v=BQ b->Value.iL v'=BQ b->j=j'
 YT:∀i∈sg.own,∀v b,rC qb i=BQ v->Value.iL v=BQ b->∀q u,(sg.md.getD q .pl).Ju->xs[q]?=BQ u->Value.iL u≠BQ b
def gp(P:Program)(gl:Nat->Option (List Value))(f:Nat)(c:dn×iB):Prop:=∀ins outs,(c.1 ins).holds outs->th P f=NS/\∀w R xs,(∀b o,R b o->b<w.heap.size)->GlOK gl R w->C0 R w c.2.md ins xs->TX (· ≠.pl) c.2.md xs->Calls P f ⟨xs⟩ w λe w'=>∃x R' qb ys,e=.returned x/\Ext w R (C2 c.2.md xs) w' R'/\(∀b o,R' b o->b<w'.heap.size)/\CZ c.2 R' w' (λb=>C2 c.2.md xs b\/w.heap.size<=b) ins xs outs x qb ys
def Rq(V:St)(R:Reach)(w:World)(τ:Nat->Value)(m:Md)(c:Cell)(x:TV)(v:Value):Prop:=
 match m with
 |.pl=>Rep R w x v
 |.rf=>∃k cs ts b ys e xs,c=(.pt,.ptr k 0)/\V k=(.ag cs,.cl ts)/\v=τ k/\τ k=.pointer (BQ ⟨b,0,Ku⟩)/\w.heap[b]?=BQ (.cells ⟨ys⟩ e (0,0))/\x=.ag xs/\dR R w xs ys
 |m=>(∃k g,c=(.pt,.fF k)/\V k=(x,g)/\(g=.pv\/(m=.sm/\∃r,g=.pc r))/\v=τ k)\/((m=.sm\/m=.gv)/\∃t,c=(.nl t,.no)/\x=.sl t []/\v=.slice Ku 0 0)
def Rq.mono{V:St}{R R':Reach}{w:World}{τ:Nat->Value}{m:Md}{c:Cell}{x:TV}{v:Value}(h:Rq V R w τ m c x v)(k:fq R w R' w):Rq V R' w τ m c x v:=by(cases m<;>simp only[Rq]at h⊢<;>first|exact h.mono k|exact h|skip);obtain⟨q,cs,ts,b,ys,e,xs,h1,h2,h3,h4,h5,h6,h7⟩:=h;exact⟨q,cs,ts,b,ys,e,xs,h1,h2,h3,h4,h5,h6,h7.mono k⟩
inductive vI (V:St) (R:Reach) (w:World) (τ:Nat->Value):List Md->List Cell->List TV->List Value->Prop
 |nil (ms:List Md):vI V R w τ ms [] [] []
 |cons {ms:List Md} {c:Cell} {x:TV} {v:Value} {cs:List Cell} {xs:List TV} {vs:List Value}:Rq V R w τ (ms.headD .pl) c x v->vI V R w τ ms.tail cs xs vs->vI V R w τ ms (c::cs) (x::xs) (v::vs)
def vI.mono{V:St}{R R':Reach}{w:World}{τ:Nat->Value}(k:fq R w R' w):∀{ms:List Md}{cs:List Cell}{xs:List TV}{vs:List Value},vI V R w τ ms cs xs vs->vI V R' w τ ms cs xs vs
 |_,_,_,_,.nil _=>.nil _
 |_,_,_,_,.cons a b=>.cons (a.mono k) (vI.mono k b)
theorem vI.len{V:St}{R:Reach}{w:World}{τ:Nat->Value}:∀{ms:List Md}{cs:List Cell}{xs:List TV}{vs:List Value},vI V R w τ ms cs xs vs->xs.length=vs.length/\cs.length=vs.length
 |_,_,_,_,.nil _=>⟨rfl,rfl⟩
 |_,_,_,_,.cons _ b=>by obtain⟨h1,h2⟩:=vI.len b;simp[h1,h2]
theorem JQ{ms:List Md}{i:Nat}:ms.tail.getD i .pl=ms.getD (i+1) .pl:=by cases ms<;>rfl
theorem JR{ms:List Md}:ms.headD .pl=ms.getD 0 .pl:=by cases ms<;>rfl
def vI.get{V:St}{R:Reach}{w:World}{τ:Nat->Value}:∀{ms:List Md}{cs:List Cell}{xs:List TV}{vs:List Value},vI V R w τ ms cs xs vs->∀(i:Nat)(v:Value),vs[i]?=BQ v->∃c x,cs[i]?=BQ c/\xs[i]?=BQ x/\Rq V R w τ (ms.getD i .pl) c x v
 |_,_,_,_,.nil _,i,v,h=>by simp at h
 |_,_,_,_,.cons a b,0,v,h=>by cases h;exact⟨_,_,rfl,rfl,by rw[<-JR];exact a⟩
 |_,_,_,_,.cons a b,i+1,v,h=>by obtain⟨c,x,h1,h2,h3⟩:=vI.get b i v (by simpa using h);exact⟨c,x,by simpa using h1,by simpa using h2,by rw[<-JQ];exact h3⟩
section
variable{nt:Nat}{R:Reach}{w:World}{eG:Nat->Prop}{τ:Nat->Value}{S V:St}
theorem P9(h:Core nt R w eG τ S)(hV:Lq V S){m:Md}{c:Cell}{v:Value}{x:TV}{ws:List (Nat×Cell)}(hs:fo R w τ c.1 c.2 v)(hc:∀k∈c.2.dA,nt<=k)(he:TM V m c=BQ (x,ws)):∃R',Core nt R' w eG τ (gi S ws)/\Fz eG R w R'/\Rq V R' w τ m c x v/\Lq V (gi S ws):=by
 have fF:∀{m:Md}{k:Nat}{g:Gh},m≠.pl->m≠.rf->c=(.pt,.fF k)->ws=[]->V k=(x,g)->(g=.pv\/(m=.sm/\∃r,g=.pc r))->∃R',Core nt R' w eG τ (gi S ws)/\Fz eG R w R'/\Rq V R' w τ m c x v/\Lq V (gi S ws):=by{rintro m k g h1 h2 rfl rfl hk hg;have:v=τ k:=hs.1;refine⟨R,h,Fz.refl _ _ _,?_,hV⟩;cases m<;>first|exact(h1 rfl).elim|exact(h2 rfl).elim|exact .inl ⟨k,g,rfl,hk,hg,this⟩};unfold TM at he;split at he;{obtain⟨R',h1,h2,h3,h4⟩:=CH h hV hs hc he;exact⟨R',h1,h2,h3,h4⟩};{rename_i k;split at he;{rename_i cs ts hk;split at he;{rename_i CS WY hf;cases he;have e:S k=(.ag cs,.cl ts):=by{rcases hV k with e|e|⟨e,_⟩;{rw[<-e,hk]};{rw[hk]at e;cases e};{rw[hk]at e;cases e}};have hK:=h.key k;rw[e]at hK;obtain⟨b,ys,el,xs,h1,h2,h3,h4,h5,h6⟩:=hK;cases h3;obtain⟨b',p1,hv⟩:∃b,τ k=.pointer (BQ ⟨b,0,Ku⟩)/\v=.pointer (BQ ⟨b,0,Ku⟩):=hs;obtain⟨R',f1,f2,f3,f4,_⟩:=qU h hV h4 (λt ht=>⟨by have:=h.inv k t.2;rw[e]at this;exact(this (List.mem_map_of_mem (f:=(·.2)) ht)).1,h5 t ht⟩) hf;exact⟨R',f1,f2,⟨k,cs,ts,b,ys,el,_,rfl,hk,by rw[hv,p1],h1,h2,rfl,sE f3⟩,f4⟩};{cases he}};{cases he}};{cases he};{rename_i k n1 _;split at he;{rename_i y hk;cases he;exact fF (by intro e;subst e;simp_all) (by intro e;subst e;simp_all) rfl rfl (by assumption) (.inl rfl)};{rename_i y r hk;cases he;exact fF (by simp) (by simp) rfl rfl (by assumption) (.inr ⟨rfl,_,rfl⟩)};{cases he}}
 ·rename_i t;cases he;refine⟨R,h,Fz.refl _ _ _,.inr ⟨.inl rfl,t,rfl,rfl,?_⟩,hV⟩;have:Rep R w (.nl t) v:=lM.rep hs;cases this with
  |sc h=>cases h
  |nl=>rfl
 ·rename_i t;cases he;refine⟨R,h,Fz.refl _ _ _,.inr ⟨.inr rfl,t,rfl,rfl,?_⟩,hV⟩;have:Rep R w (.nl t) v:=lM.rep hs;cases this with
  |sc h=>cases h
  |nl=>rfl
 {cases he}
theorem Fo:∀{cs:List Cell}{ms:List Md}{R:Reach}{S:St}{vs:List Value}{xs:List TV}{ws:List (Nat×Cell)},Core nt R w eG τ S->Lq V S->Cells R w τ nt cs vs->Fp V ms cs=BQ (xs,ws)->
  ∃R',Core nt R' w eG τ (gi S ws)/\Fz eG R w R'/\vI V R' w τ ms cs xs vs/\Lq V (gi S ws)
 |[],ms,R,S,_,_,_,h,hV,.nil,he=>by cases he;exact⟨R,h,Fz.refl _ _ _,.nil _,hV⟩
 |c::cs,ms,R,S,_,_,_,h,hV,.cons a b t,he=>by simp only[Fp]at he;split at he;{rename_i x ws e1;split at he;{rename_i xs us e2;cases he;obtain⟨R1,h1,k1,r1,q1⟩:=Fo h hV t e2;obtain⟨R2,h2,k2,r2,q2⟩:=P9 h1 q1 (a.eC k1.1 λ_ _=>rfl) b e1;rw[lV];exact⟨R2,h2,k1.trans k2,.cons r2 (r1.mono k2.1),q2⟩};{cases he}};{cases he}
theorem B9:∀{l:List (Nat×Cell)}{S:St}{k:Nat}{x:Cell},(k,x)∈l->(∀y,(k,y)∈l->y=x)->gi S l k=x
 |(j,y)::l,S,k,x,h,hu=>by simp only[gi];by_cases e:k=j;{subst e;rw[cO];exact hu y (List.mem_cons_self ..)};{rw[fH _ _ e];rcases aQ.1 h with h|h;{cases h;exact(e rfl).elim};{exact B9 h λy hy=>hu y (List.mem_cons_of_mem _ hy)}}
theorem tI{V:St}:∀{ms:List Md}{cs:List Cell}{ys:List TV}{p:Nat×Cell},p∈jt V ms cs ys->∃i c y,cs[i]?=BQ c/\ys[i]?=BQ y/\i<ms.length/\o0 V (ms.getD i .pl) c y=BQ p
 |m::ms,c::cs,y::ys,p,h=>by simp only[jt]at h;split at h;{rename_i q e;rcases aQ.1 h with rfl|h;{exact⟨0,c,y,rfl,rfl,by simp,e⟩};{obtain⟨i,c',y',h1,h2,h3,h4⟩:=tI h;exact⟨i+1,c',y',by simpa using h1,by simpa using h2,by simpa using h3,h4⟩}};{obtain⟨i,c',y',h1,h2,h3,h4⟩:=tI h;exact⟨i+1,c',y',by simpa using h1,by simpa using h2,by simpa using h3,h4⟩}
 |[],_,_,_,h=>by simp[jt]at h
 |_::_,[],_,_,h=>by simp[jt]at h
 |_::_,_::_,[],_,h=>by simp[jt]at h
theorem qP{V:St}:∀{ms:List Md}{cs:List Cell}{ys:List TV}{p:Nat×Cell}{i:Nat}{c:Cell}{y:TV},cs[i]?=BQ c->ys[i]?=BQ y->i<ms.length->o0 V (ms.getD i .pl) c y=BQ p->p∈jt V ms cs ys
 |m::ms,c::cs,y::ys,p,0,_,_,h1,h2,_,h4=>by cases h1;cases h2;simp only[jt];have:o0 V m c y=BQ p:=h4;rw[this];exact List.mem_cons_self ..
 |m::ms,c::cs,y::ys,p,i+1,_,_,h1,h2,h3,h4=>by have:=qP (ms:=ms) (cs:=cs) (ys:=ys) (i:=i) (by simpa using h1) (by simpa using h2) (by simpa using h3) h4;simp only[jt];split;{exact List.mem_cons_of_mem _ this};{exact this}
 |[],_,_,_,_,_,_,_,_,h,_=>by simp at h
 |_::_,[],_,_,_,_,_,h,_,_,_=>by simp at h
 |_::_,_::_,[],_,_,_,_,_,h,_,_=>by simp at h
theorem EX{k:Nat}{x:Cell}{l:List (Nat×Cell)}(h:CQ ((k,x)::l)=NS){p:Nat×Cell}(hp:p∈l):p.1≠k:=by simp only[CQ,af,aC]at h;have:=h.1 p hp;intro e;rw[e]at this;simp at this
theorem J6{p:Nat×Cell}{l:List (Nat×Cell)}(h:CQ (p::l)=NS):CQ l=NS:=by obtain⟨k,x⟩:=p;simp only[CQ,af]at h;exact h.2
theorem CP{V:St}:∀{ms:List Md}{cs:List Cell}{ys:List TV}{k i j:Nat}{c c':Cell}{y y':TV}{x x':Cell},CQ (jt V ms cs ys)=NS->cs[i]?=BQ c->ys[i]?=BQ y->i<ms.length->o0 V (ms.getD i .pl) c y=BQ (k,x)->
  cs[j]?=BQ c'->ys[j]?=BQ y'->j<ms.length->o0 V (ms.getD j .pl) c' y'=BQ (k,x')->i=j
 |m::ms,c::cs,y::ys,k,0,0,_,_,_,_,_,_,_,_,_,_,_,_,_,_,_=>rfl
 |m::ms,c::cs,y::ys,k,0,j+1,_,_,_,_,_,_,hd,h1,h2,h3,h4,k1,k2,k3,k4=>by cases h1;cases h2;have e:o0 V m c y=BQ (k,_):=h4;simp only[jt,e]at hd;exact(EX hd (qP (by simpa using k1) (by simpa using k2) (by simpa using k3) k4) rfl).elim
 |m::ms,c::cs,y::ys,k,i+1,0,_,_,_,_,_,_,hd,h1,h2,h3,h4,k1,k2,k3,k4=>by cases k1;cases k2;have e:o0 V m c y=BQ (k,_):=k4;simp only[jt,e]at hd;exact(EX hd (qP (by simpa using h1) (by simpa using h2) (by simpa using h3) h4) rfl).elim
 |m::ms,c::cs,y::ys,k,i+1,j+1,_,_,_,_,_,_,hd,h1,h2,h3,h4,k1,k2,k3,k4=>by have Kr:CQ (jt V ms cs ys)=NS:=by{simp only[jt]at hd;split at hd;{exact J6 hd};{exact hd}};rw[CP Kr (by simpa using h1) (by simpa using h2) (by simpa using h3) h4 (by simpa using k1) (by simpa using k2) (by simpa using k3) k4]
 |[],_,_,_,_,_,_,_,_,_,_,_,_,_,_,h,_,_,_,_,_=>by simp at h
 |_::_,[],_,_,_,_,_,_,_,_,_,_,_,h,_,_,_,_,_,_,_=>by simp at h
 |_::_,_::_,[],_,_,_,_,_,_,_,_,_,_,_,h,_,_,_,_,_,_=>by simp at h
theorem D5{nt:Nat}{own:Nat->Nat}:∀{l:List Nat}{j:Nat}{outs:List TV}{ns:List (Nat×Cell)},O9 nt own V l j outs=BQ ns->
  (∀p∈ns,∃q i y,l[q]?=BQ i/\p=(own (j+q),(y,.pv))/\tM outs i=BQ y/\wB nt V (own (j+q))=NS)/\(∀q i,l[q]?=BQ i->∃y,tM outs i=BQ y/\(own (j+q),(y,.pv))∈ns/\wB nt V (own (j+q))=NS)
 |[],j,outs,ns,h=>by cases h;exact⟨by simp,by simp⟩
 |i::l,j,outs,ns,h=>by
  simp only[O9]at h;split at h
  ·rename_i x hx;obtain⟨h1,h2⟩:=bL.1 h;rw[aU]at h2;obtain⟨ns',h2,rfl⟩:=h2;obtain⟨k1,k2⟩:=D5 h2;refine⟨λp hp=>?_,λq i' hq=>?_⟩;{rcases aQ.1 hp with rfl|hp;{exact⟨0,i,x,rfl,rfl,hx,h1⟩};{obtain⟨q,i',y,e1,e2,e3,e4⟩:=k1 p hp;rw[show j+1+q=j+(q+1) by omega]at e2 e4;exact⟨q+1,i',y,by simpa using e1,e2,e3,e4⟩}}
   ·cases q with
    |zero=>cases hq;exact⟨x,hx,List.mem_cons_self ..,h1⟩
    |succ q=>obtain⟨y,e1,e2,e3⟩:=k2 q i' (by simpa using hq);rw[show j+1+q=j+(q+1) by omega]at e2 e3;exact⟨y,e1,List.mem_cons_of_mem _ e2,e3⟩
  {cases h}
theorem O1{R:Reach}{w:World}{l:List Nat}{outs:List TV}{qb:List Value}{i:Nat}{y:TV}(h:jy R w (uk l outs) qb)(hi:i∈l)(hy:tM outs i=BQ y):∃v,rC qb i=BQ v:=by
 unfold tM at hy;unfold rC;cases hb:Nat.blt i 1000 with
 |true=>rw[hb,au]at hy;simp only[au];have hl:=h.length;have:(uk l outs).length=outs.length:=by{unfold uk;cases nK l<;>simp};have gI:=(aH.1 hy).1;exact⟨_,aw (by omega)⟩
 |false=>
  rw[hb,ai]at hy;simp only[ai];have hs:nK l=NT:=by
   cases hs:nK l with
   |false=>rfl
   |true=>have:=aC.1 hs i hi;rw[hb]at this;cases this
  unfold uk at h;rw[hs,ai]at h;match outs,hy with
  |.ag cs::r,hy=>
   simp only[List.getElem?_cons_zero]at hy;simp only[bf,Xc]at h;cases h with
   |cons h1 h2=>
    cases h1 with
    |sc e=>cases e
    |@ag _ ys hL=>have hl:=hL.length;simp only[List.length_mapIdx]at hl;have gI:=(aH.1 hy).1;exact⟨_,aw (l:=ys) (by simpa using(by omega:i -1000<ys.length))⟩
theorem A3{outs:List TV}{n i:Nat}{y:TV}(h:tM (outs.take n) i=BQ y):tM outs i=BQ y:=by
 unfold tM at h⊢;have t:∀j x,(outs.take n)[j]?=BQ x->outs[j]?=BQ x:=λj x hj=>by{rw[bc]at hj;split at hj;{exact hj};{cases hj}};cases hb:Nat.blt i 1000 with
 |true=>rw[hb,au]at h;rw[au];exact t _ _ h
 |false=>rw[hb,ai]at h;rw[ai];split at h;{rename_i cs e;rw[t _ _ e];exact h};{cases h}
end
theorem BN:∀{ms:List Md}{ins outs ys:List TV},nH ms ins outs=BQ ys->ys.length=ms.length
 |[],_,_,_,h=>by grind[nH]
 |m::ms,ins,outs,ys,h=>by have key:∀{y:TV}{ins outs:List TV},(nH ms ins outs).map (y::·)=BQ ys->ys.length=(m::ms).length:=λh=>by{rw[aU]at h;obtain⟨zs,h1,rfl⟩:=h;simp[BN h1]};unfold nH at h;(split at h<;>first|(rename_i e;cases e;exact key h)|(rename_i e _;cases e;exact key h)|(rename_i e _ _;cases e;exact key h)|(cases h;done)|skip);all_goals simp_all
theorem Fm:∀{ms:List Md}{ins outs ys:List TV}{i:Nat},nH ms ins outs=BQ ys->ms.getD i .pl=.sm->ys[i]?=ins[i]?
 |m::ms,ins,outs,ys,i,h,hm=>by
  have key:∀{y z:TV}{So Qw:List TV},ins=z::So->(nH ms So Qw).map (y::·)=BQ ys->(m=.sm->y=z)->ys[i]?=ins[i]?:=λ{y z So Qw}e h hy=>by
   rw[aU]at h;obtain⟨zs,h1,rfl⟩:=h;subst e;cases i with
   |zero=>simp at hm⊢;exact hy hm
   |succ i=>simp at hm⊢;exact Fm h1 (by simpa using hm)
  unfold nH at h;(split at h<;>first|(rename_i e;cases e;exact key rfl h (by simp))|(rename_i e _;cases e;exact key rfl h (by simp))|(rename_i e _ _;cases e;exact key rfl h (by simp))|(cases h;done)|skip);all_goals simp_all
theorem DS(l:List TV):uk [] l=l:=by unfold uk;simp only[nK,List.all_nil,au];apply List.ext_getElem?;intro i;rw[List.getElem?_mapIdx];cases l[i]? <;>rfl
def gm.one{R:Reach}{w:World}{p:Bool}{v:Value}{x:TV}(h:gm R w p v x):v.oneCell'=NS:=by obtain⟨t,l,_,⟨_,rfl⟩|⟨g,cap,cur,e,fz,rfl,_⟩⟩:=h<;>rfl
section
variable{C:Ctx}{S V:St}{a:Act}{w:World}{R:Reach}{τ:Nat->Value}{o:Oper}{d:Nat}
theorem fP.Vf(h:fP C S a w R τ)(hl:d<C.nt){v:Value}{x:TV}{g:Gh}(hs:fo R w τ x g v)(hg:g.slot=NS)(hm:∀k∈g.dA,C.nt<=k/\(S k).2≠.no):yq C (cX S d (x,g)) (a.put (BQ d) v) w:=by refine⟨R,_,by simp[Act.put,h.size],h.defers,h.core.put hl hs hg hm,λt ht=>?_,⟨h.io.1,λk hk=>?_⟩,h.ext,h.gl⟩;{by_cases e:t=d;{subst e;rw[iE];simp[Act.put,h.size,ht]};{rw[jz _ _ e,<-h.tmps t ht];simp only[Act.put,Array.getD_eq_getD_getElem?];rw[Array.getElem?_setIfInBounds_ne (Ne.symm e)]}};{have:=h.io.1;rw[jz _ _ (by omega)];exact h.io.2 k hk}
theorem Nl{f:Nat}{args:Array Operand}{ts:Array TypeId}{x:Operand}(ho:o.op=.call {callee:=.value x,args,argTypes:=ts})(hx:a.eval x=.func (.func f) #[] #[])(hp:th C.P f=NS):(execOp a.eval o).run C.P w=.ok (.enter f (args.map a.eval)) w:=by
 unfold th at hp;cases hf:C.P.funcs[f]? with
 |none=>simp[hf]at hp
 |some fn=>simp only[hf,Option.any_some,af,Bool.not_eq_true',beq_eq_false_iff_ne]at hp;obtain⟨h1,h2⟩:=hp;simp[execOp,ho,resolve,Deferred.ofValue,hx,invoke,callFunc,hf];rw[ak h2,ak (by grind)]
open Classical in
def D4(τ:Nat->Value)(own:Nat->Nat)(l:List Nat)(qb:List Value)(k:Nat):Value:=if h:∃q i,l[q]?=BQ i/\own q=k then(rC qb (l.getD h.choose 0)).getD undef else τ k
theorem LF{own:Nat->Nat}{l:List Nat}{qb:List Value}{q i:Nat}(Cw:∀j j',own j=own j'->j=j')(hq:l[q]?=BQ i):D4 τ own l qb (own q)=(rC qb i).getD undef:=by have h:∃q' i,l[q']?=BQ i/\own q'=own q:=⟨q,i,hq,rfl⟩;unfold D4;rw[dif_pos h];obtain⟨i',h1,h2⟩:=h.choose_spec;have:h.choose=q:=Cw _ _ h2;rw[this,show l.getD q 0=i by simp[aj,hq]]
theorem Jh{own:Nat->Nat}{l:List Nat}{qb:List Value}{k:Nat}(h:∀q i,l[q]?=BQ i->own q≠k):D4 τ own l qb k=τ k:=by unfold D4;rw[dif_neg];rintro⟨q,i,h1,h2⟩;exact h q i h1 h2
set_option maxHeartbeats 2000000 in
theorem abH(h:fP C S a w R τ)(hV:Lt V S)(hd:o.dst=Ku\/∃d,o.dst=BQ d/\d<C.nt){f:Nat}{c:dn}{sg:iB}(hS:gp C.P C.gl f (c,sg)){args:Array Operand}{ts:Array TypeId}{x:Operand}(ho:o.op=.call {callee:=.value x,args,argTypes:=ts})(hx:a.eval x=.func (.func f) #[] #[]){tl:List TypeId}{cs:List Cell}{xs:List TV}{ws:List (Nat×Cell)}{outs:List TV}{own:Nat->Nat}{p:Option Bool}{e:iN}(zO:tN C.E C.nt V tl args.toList=BQ cs)(QM:Fp V sg.md cs=BQ (xs,ws))(hc:(c xs).holds outs)(Cw:0<C.nt->∀j j',own j=own j'->j=j')(he:Fc C.nt own V sg cs xs ws p outs=BQ e):fM C o a w (kp S o.dst e):=by
 unfold Fc at he;obtain⟨hh,he⟩:=bL.1 he;simp only[af]at hh;obtain⟨hh,ZE⟩:=hh;have Cw:=Cw (Nat.le_of_ble_eq_true hh.2);have hle:=Nat.le_of_ble_eq_true hh.1;(split at he<;>try(cases he;done));rename_i ns ys hns Sv;obtain⟨hh2,he⟩:=bL.1 he;cases he;simp only[af]at hh2;obtain⟨Q2,N9⟩:=hh2;have N9:∀q∈ws,∀p∈jt V sg.md cs ys,p.1≠q.1:=λq hq p hp e=>by{have:=aC.1 (aC.1 N9 q hq) p hp;rw[e]at this;simp at this};obtain⟨ll,_,SM⟩:=ve h hV zO;obtain⟨R1,h1,f1,SD,hq⟩:=Fo h.core hV.q ll QM;have h':fP C (gi S ws) a w R1 τ:=h.fz h1 f1;obtain⟨VN,SR⟩:=SD.len;generalize Mf:args.toList.map a.eval=vs at*;generalize hS1:gi S ws=S1 at*;have T6:=BN Sv;obtain⟨Pw,FD⟩:=D5 hns;simp only[Nat.zero_add]at Pw FD;have hand:∀i v,vs[i]?=BQ v->sg.md.getD i .pl≠.pl->∃c y x,cs[i]?=BQ c/\ys[i]?=BQ y/\xs[i]?=BQ x/\i<sg.md.length/\IC R1 w (sg.md.getD i .pl) x v/\
   ((v=.slice Ku 0 0/\∀y,o0 V (sg.md.getD i .pl) c y=Ku)\/∃k x',o0 V (sg.md.getD i .pl) c y=BQ (k,x')/\v=τ k/\C.nt<=k/\(S1 k).2.own=NS/\(S1 k).2.HY=NT/\((S1 k).2.HZ=NT\/sg.md.getD i .pl=.sm)/\(sg.md.getD i .pl=.sm->S1 k=(x,(V k).2)/\((V k).2=.pv\/∃r,(V k).2=.pc r))):=by
  intro i v hv hm
  obtain⟨c,x,e1,e2,e3⟩:=SD.get i v hv
  have hi:i<sg.md.length:=by rcases Nat.lt_or_ge i sg.md.length with hi|hi;{exact hi};{rw[aj,List.getElem?_eq_none hi]at hm;exact(hm rfl).elim}
  have ey:ys[i]?=BQ ys[i]:=aw (by omega)
  have VK:=SM c (aP e1)
  have Vk:∀k x',o0 V (sg.md.getD i .pl) c ys[i]=BQ (k,x')->(V k).2≠.hid->S1 k=V k:=λk x' hb hg=>by have wM:=qP e1 ey hi hb;rw[<-hS1,jD λq hq e=>N9 q hq _ wM e.symm];exact((hV k).resolve_right hg).symm
  refine⟨c,ys[i],x,e1,ey,e2,hi,?_⟩
  generalize sg.md.getD i .pl=m at*
  have fF:m≠.pl->m≠.rf->(∃k g,c=(.pt,.fF k)/\V k=(x,g)/\(g=.pv\/(m=.sm/\∃r,g=.pc r))/\v=τ k)->IC R1 w m x v/\((v=.slice Ku 0 0/\∀y,o0 V m c y=Ku)\/∃k x',o0 V m c ys[i]=BQ (k,x')/\v=τ k/\C.nt<=k/\(S1 k).2.own=NS/\(S1 k).2.HY=NT/\((S1 k).2.HZ=NT\/m=.sm)/\(m=.sm->S1 k=(x,(V k).2)/\((V k).2=.pv\/∃r,(V k).2=.pc r))):=by rintro hm1 hm3 ⟨k,g,rfl,hk,hg,rfl⟩;have Oc:g.own=NS/\g.HY=NT/\g≠.hid/\∀R w τ x v,kY R w τ x g v=gm R w NT v x:=by{rcases hg with rfl|⟨_,r,rfl⟩<;>exact⟨rfl,rfl,by simp,λ_ _ _ _ _=>rfl⟩};obtain⟨x',hb⟩:∃x',o0 V m (.pt,.fF k) ys[i]=BQ (k,x'):=by{cases m<;>first|exact(hm1 rfl).elim|exact(hm3 rfl).elim|exact⟨_,rfl⟩};have e:=Vk k x' hb (by rw[hk];exact Oc.2.2.1);have hK:=h1.key k;rw[e,hk,Oc.2.2.2]at hK;refine⟨?_,.inr ⟨k,x',hb,rfl,(VK.2 k (by simp[Gh.dA])).1,by rw[e,hk];exact Oc.1,by rw[e,hk];exact Oc.2.1,by rw[e,hk];exact hg.imp (λe=>by rw[e];rfl) (·.1),λ_=>by rw[e,hk];exact⟨rfl,hg.imp id (·.2)⟩⟩⟩;cases m<;>first|exact(hm1 rfl).elim|exact(hm3 rfl).elim|exact hK
  cases m with
  |pl=>exact(hm rfl).elim
  |rf=>obtain⟨k,CS,ts,b,zs,el,N5,rfl,hk,rfl,hb,hhp,rfl,hL⟩:=e3;have e:=Vk k _ rfl (by rw[hk];simp);have hK:=h1.key k;rw[e,hk]at hK;obtain⟨b',_,_,_,k1,_,_,_,_,k2⟩:=hK;rw[hb]at k1;cases k1;exact⟨⟨b,zs,el,N5,hb,hhp,rfl,hL,by simp,k2⟩,.inr ⟨k,_,rfl,rfl,(VK.2 k (by simp[Gh.dA])).1,by rw[e,hk];rfl,by rw[e,hk];rfl,.inl (by rw[e,hk];rfl),λe=>by cases e⟩⟩
  |sl=>exact fF (by simp) (by simp) (e3.resolve_right (by simp))
  |gv=>rcases e3 with e3|⟨_,t,rfl,rfl,rfl⟩;{exact fF (by simp) (by simp) e3};{exact⟨⟨t,[],rfl,.inl ⟨rfl,rfl⟩⟩,.inl ⟨rfl,λ_=>rfl⟩⟩}
  |sm=>rcases e3 with e3|⟨_,t,rfl,rfl,rfl⟩;{exact fF (by simp) (by simp) e3};{exact⟨⟨t,[],rfl,.inl ⟨rfl,rfl⟩⟩,.inl ⟨rfl,λ_=>rfl⟩⟩}
 have hargs:C0 R1 w sg.md xs vs:=⟨VN,λi x v hx hv=>by
  by_cases hm:sg.md.getD i .pl=.pl;{obtain⟨c,x',_,e2,e3⟩:=SD.get i v hv;rw[hx]at e2;cases e2;rw[hm]at e3⊢;exact e3}
  ·obtain⟨_,_,x',_,_,e2,_,e3,_⟩:=hand i v hv hm;rw[hx]at e2;cases e2;exact e3⟩
 have Zq:TX (· ≠.pl) sg.md vs:=λi j v v' b hi hj hv Bk hb oZ=>by{obtain⟨c,y,_,a1,a2,_,a3,_,a4⟩:=hand i v hv hi;obtain⟨c',y',_,b1,b2,_,b3,_,b4⟩:=hand j v' Bk hj;rcases a4 with⟨rfl,_⟩|⟨k,x1,k1,rfl,_,k2,k3,_⟩;{cases hb};rcases b4 with⟨rfl,_⟩|⟨k',x2,l1,rfl,_,l2,l3,_⟩;{cases oZ};have:=h1.yO (iK k2 k3 hb) (iK l2 l3 oZ);subst this;exact CP Q2 a1 a2 a3 k1 b1 b2 b3 l1};obtain⟨hpf,zR⟩:=hS xs outs hc;intro K Q hK;unfold Oper.wp;rw[Nl ho hx hpf,Oper.upon_enter];have e0:(⟨vs⟩:Array Value)=args.map a.eval:=by{apply Array.ext';simp[<-Mf]};have zR:=zR w R1 vs h1.vK h'.gl hargs Zq;rw[e0]at zR;refine zR.mono ?_;rintro e w' ⟨x,R',qb,BS,rfl,JK,Zt,xL⟩;have:BS=ys:=by{have:=xL.back;simp only at this;rw[Sv]at this;cases this;rfl};subst this;simp only at JK xL;have bk:∀k x,(k,x)∈jt V sg.md cs BS->∃i v y,vs[i]?=BQ v/\BS[i]?=BQ y/\v=τ k/\C.nt<=k/\(S1 k).2.own=NS/\(S1 k).2.HY=NT/\((x,sg.md.getD i .pl)∈[((y,.cl []),.rf),((y,.pv),.sl),((.dead,.zz),.gv)]/\(S1 k).2.HZ=NT\/sg.md.getD i .pl=.sm/\x=S1 k/\y=x.1/\(x.2=.pv\/∃r,x.2=.pc r))/\(∀x',(k,x')∈jt V sg.md cs BS->x'=x):=by{intro k x wM;obtain⟨i,c,y,e1,e2,e3,e4⟩:=tI wM;have hi:i<vs.length:=by{have:=(aH.1 e1).1;omega};have ev:vs[i]?=BQ vs[i]:=aw hi;have hm:sg.md.getD i .pl≠.pl:=by{intro e;rw[e]at e4;cases e4};obtain⟨c',y',xi,a1,a2,ax,a3,_,a4⟩:=hand i _ ev hm;rw[e1]at a1;cases a1;rw[e2]at a2;cases a2;have hu:∀x',(k,x')∈jt V sg.md cs BS->x'=x:=λx' Cu=>by{obtain⟨j,c2,y2,k1,k2,k3,k4⟩:=tI Cu;have:=CP Q2 e1 e2 e3 e4 k1 k2 k3 k4;subst this;rw[e1]at k1;cases k1;rw[e2]at k2;cases k2;rw[e4]at k4;cases k4;rfl};rcases a4 with⟨_,a4⟩|⟨k',x',k1,k2,k3,k4,k5,k6,k7⟩;{rw[a4]at e4;cases e4};{rw[e4]at k1;cases k1;refine⟨i,_,y,ev,e2,k2,k3,k4,k5,?_,hu⟩;by_cases hs:sg.md.getD i .pl=.sm;{right;obtain⟨q1,q2⟩:=k7 hs;have ey:y=xi:=by{have:=Fm Sv hs;rw[e2,ax]at this;exact Option.some.inj this};rw[hs]at e4;unfold o0 at e4;(split at e4<;>first|(cases e4;done)|(rename_i em _;cases em;done)|skip);rename_i ec;cases e4;exact⟨hs,by rw[q1,ey],rfl,q2⟩};{left;refine⟨?_,k6.resolve_right hs⟩;unfold o0 at e4;split at e4<;>first|(cases e4;done)|(rename_i em _;exact(hs em).elim)|(rename_i em _;cases e4;rw[em];simp)}}};have nw:∀q i,sg.own[q]?=BQ i->(S1 (own q)).2=.no/\own q<1000000/\C.nt<=own q:=λq i oH=>jP hq (FD q i oH).choose_spec.2.2;have Uq:∀k x,(k,x)∈jt V sg.md cs BS->∀q i,sg.own[q]?=BQ i->own q≠k:=λk x wM q i oH e=>by{obtain⟨_,_,_,_,_,_,_,ho,_⟩:=bk k x wM;rw[<-e,(nw q i oH).1]at ho;cases ho};have Zf:∀g,C2 sg.md vs g->∃k x,(k,x)∈jt V sg.md cs BS/\iL τ S1 k=BQ g:=by{rintro g ⟨i,v,hm,hv,hb⟩;obtain⟨c',y',_,a1,a2,_,a3,_,a4⟩:=hand i v hv hm;rcases a4 with⟨rfl,_⟩|⟨k',x',k1,rfl,k3,k4,k5,_⟩;{cases hb};{exact⟨k',x',qP a1 a2 a3 k1,iK k4 k5 hb⟩}};have Px:∀g,C2 sg.md vs g->C.eG g:=λg hg=>by{obtain⟨k,_,_,hb⟩:=Zf g hg;exact h1.eG k g hb};have rv:∀q i,sg.own[q]?=BQ i->∃v y,rC qb i=BQ v/\(rC qb i).getD undef=v/\tM (outs.take sg.jE) i=BQ y/\tM outs i=BQ y/\gm R' w' NT v y:=λq i oH=>by{obtain⟨y,e1,_⟩:=FD q i oH;have hi:=aP oH;obtain⟨v,hv⟩:=O1 xL.rep hi e1;exact⟨v,y,hv,by rw[hv];rfl,e1,A3 e1,xL.own i hi _ _ hv (A3 e1)⟩};let rX:=D4 τ own sg.own qb;have t1:∀q i,sg.own[q]?=BQ i->rX (own q)=(rC qb i).getD undef:=λq i=>LF Cw;have t2:∀k,(∀q i,sg.own[q]?=BQ i->own q≠k)->rX k=τ k:=λk=>Jh;have SC:gi S (jt V sg.md cs BS++(ns++ws))=gi (gi S1 ns) (jt V sg.md cs BS):=by{rw[lV,lV,hS1]};generalize Uh:gi S (jt V sg.md cs BS++(ns++ws))=S' at*;have s1:∀k x,(k,x)∈jt V sg.md cs BS->S' k=x:=λk x wM=>by{obtain⟨_,_,_,_,_,_,_,_,_,_,hu⟩:=bk k x wM;rw[SC];exact B9 wM hu};have s2:∀q i y,sg.own[q]?=BQ i->tM (outs.take sg.jE) i=BQ y->S' (own q)=(y,.pv):=λq i y oH hy=>by{obtain⟨y',e1,e2,_⟩:=FD q i oH;rw[hy]at e1;cases e1;rw[SC,jD λp hp e=>Uq p.1 p.2 hp q i oH e.symm];refine B9 e2 λz hz=>?_;obtain⟨q',i',y2,k1,k2,k3,_⟩:=Pw _ hz;have ek:own q=own q':=congrArg Prod.fst k2;have:=Cw _ _ ek;subst this;rw[oH]at k1;cases k1;rw[hy]at k3;cases k3;exact congrArg Prod.snd k2};have s3:∀k,(∀x,(k,x)∉jt V sg.md cs BS)->(∀q i,sg.own[q]?=BQ i->own q≠k)->S' k=S1 k:=λk hb hn=>by{rw[SC,jD λp hp e=>hb p.2 (by rw[<-e];exact hp),jD λp hp e=>by obtain⟨q,i,y,k1,rfl,_⟩:=Pw p hp;exact hn q i k1 e]};have Mq:Core C.nt R' w' C.eG rX S':=by{refine h1.step (λk=>(∃x,(k,x)∈jt V sg.md cs BS)\/∃q i,sg.own[q]?=BQ i/\own q=k) JK.eC (λk hk=>?_) (λk g hk hb=>?_) ?_ ?_ ?_ ?_ ?_ ?_ (λ_=>id) ?_ Zt ?_;{have e1:∀q i,sg.own[q]?=BQ i->own q≠k:=λq i a b=>hk (.inr ⟨q,i,a,b⟩);exact⟨s3 k (λx hx=>hk (.inl ⟨x,hx⟩)) e1,t2 k e1⟩};{have gI:=h1.lt hb;have hni:¬C2 sg.md vs g:=λhg=>by{obtain⟨k',x,hm,oZ⟩:=Zf g hg;obtain⟨_,_,_,_,_,_,_,_,hp,_⟩:=bk k' x hm;have:=h1.yO oZ hb;subst this;exact hk (.inl ⟨x,hm⟩)};exact⟨JK.heap g gI hni,λo hr=>(JK.I4 g o hr).resolve_right (by rintro(h|h);exact absurd gI (by omega);exact hni h)⟩};{rintro k (⟨x,hx⟩|⟨q,i,oH,rfl⟩);{obtain⟨i,v,y,e1,e2,rfl,e3,e4,e5,e6,_⟩:=bk k x hx;have hB:=xL.Wp i y _ e2 e1;rw[s1 k x hx,t2 k (Uq k x hx)];simp only[aQ,Prod.mk.injEq,List.not_mem_nil,or_false]at e6;rcases e6 with⟨⟨rfl,em⟩|⟨rfl,em⟩|⟨rfl,em⟩,_⟩|⟨em,_,rfl,em2⟩<;>rw[em]at hB;{obtain⟨b,cs,e,xs,k1,k2,k3,k4,k5,k6⟩:=hB;exact⟨b,cs,e,xs,k1,k2,k3,k4,by simp,k6⟩};{exact hB};{trivial};{rcases em2 with e|⟨r,e⟩<;>rw[e]<;>exact hB}};{obtain⟨v,y,e1,e2,e3,e4,e5⟩:=rv q i oH;rw[s2 q i y oH e3,t1 q i oH,e2];exact e5}};{rintro k (⟨x,hx⟩|⟨q,i,oH,rfl⟩);{exact .inl (t2 k (Uq k x hx))};{exact .inr (.inr (nw q i oH).1)}};{rintro k (⟨x,hx⟩|⟨q,i,oH,rfl⟩);{obtain⟨i,v,y,e1,e2,rfl,e3,e4,e5,e6,_⟩:=bk k x hx;rw[s1 k x hx];simp only[aQ,Prod.mk.injEq,List.not_mem_nil,or_false]at e6;right;rcases e6 with⟨⟨rfl,em⟩|⟨rfl,em⟩|⟨rfl,em⟩,_⟩|⟨em,_,rfl,e|⟨r,e⟩⟩<;>first|(rw[e];simp)|simp};{obtain⟨v,y,e1,e2,e3,e4,e5⟩:=rv q i oH;rw[s2 q i y oH e3];right;simp}};{rintro k (⟨x,hx⟩|⟨q,i,oH,rfl⟩);{obtain⟨i,v,y,e1,e2,rfl,e3,e4,e5,e6,_⟩:=bk k x hx;rw[s1 k x hx];simp only[aQ,Prod.mk.injEq,List.not_mem_nil,or_false]at e6;rcases e6 with⟨e6,hP⟩|⟨em,ex,_⟩;{exact .inl ⟨hP,by rcases e6 with⟨rfl,em⟩|⟨rfl,em⟩|⟨rfl,em⟩<;>rfl⟩};{exact .inr ⟨e5,ex⟩}};{obtain⟨v,y,e1,e2,e3,e4,e5⟩:=rv q i oH;rw[s2 q i y oH e3,(nw q i oH).1];exact .inl ⟨rfl,rfl⟩}};{rintro k (⟨x,hx⟩|⟨q,i,oH,rfl⟩) _;{obtain⟨i,v,y,e1,e2,rfl,e3,e4,e5,e6,_⟩:=bk k x hx;exact .inl e4};{exact .inr (nw q i oH).1}};{have Ju:∀k x,(k,x)∈jt V sg.md cs BS->(S' k).2.own=NS->∃i,(sg.md.getD i .pl).Ju/\vs[i]?=BQ (τ k):=λk x hx ho=>by{obtain⟨i,v,y,e1,e2,rfl,e3,e4,e5,e6,_⟩:=bk k x hx;rw[s1 k x hx]at ho;refine⟨i,?_,e1⟩;simp only[aQ,Prod.mk.injEq,List.not_mem_nil,or_false]at e6;rcases e6 with⟨⟨rfl,em⟩|⟨rfl,em⟩|⟨rfl,em⟩,_⟩|⟨em,_⟩<;>rw[em]<;>first|(cases ho;done)|exact⟨by simp,by simp⟩};have Rg:∀k x q i g,(k,x)∈jt V sg.md cs BS->sg.own[q]?=BQ i->iL rX S' k=BQ g->iL rX S' (own q)=BQ g->False:=λk x q i g hx oH h1 h2=>by{obtain⟨o1,b1⟩:=gT h1;obtain⟨o2,b2⟩:=gT h2;obtain⟨j,l1,l2⟩:=Ju k x hx o1;obtain⟨v,y,e1,e2,e3,e4,e5⟩:=rv q i oH;rw[t1 q i oH,e2]at b2;rw[t2 k (Uq k x hx)]at b1;exact xL.YT i (aP oH) v g e1 b2 j _ l1 l2 b1};rintro k g (⟨x,hx⟩|⟨q,i,oH,rfl⟩) hb;{obtain⟨i,v,y,e1,e2,rfl,e3,e4,e5,e6,_⟩:=bk k x hx;have b1:=(gT hb).2;rw[t2 k (Uq k x hx)]at b1;have b2:=iK e4 e5 b1;refine⟨h1.eG k g b2,?_,.inr ⟨k,.inl ⟨x,hx⟩,b2⟩⟩;rintro k' (⟨x',Cu⟩|⟨q,i,oH,rfl⟩) nW oZ;{obtain⟨_,_,_,_,_,_,_,f4,f5,_⟩:=bk k' x' Cu;have b3:=(gT oZ).2;rw[t2 k' (Uq k' x' Cu)]at b3;exact nW (h1.yO b2 (iK f4 f5 b3)).symm};{exact Rg k x q i g hx oH hb oZ}};{obtain⟨v,y,e1,e2,e3,e4,e5⟩:=rv q i oH;have b1:=(gT hb).2;rw[t1 q i oH,e2]at b1;have hm:=xL.eG i (aP oH) v g e1 b1;refine⟨hm.elim (Px g) λe=>.inr (Nat.le_trans h'.ext.size e),?_,hm.symm.imp id λhg=>?_⟩;{rintro k' (⟨x',Cu⟩|⟨q',i',SB,rfl⟩) nW oZ;{exact Rg k' x' q i g Cu oH oZ hb};{obtain⟨v',y',f1,f2,_⟩:=rv q' i' SB;have b2:=(gT oZ).2;rw[t1 q' i' SB,f2]at b2;exact nW (by rw[xL.YU q q' i i' v v' g oH SB e1 f1 b1 b2])}};{obtain⟨k0,x0,h0,uL⟩:=Zf g hg;exact⟨k0,.inl ⟨x0,h0⟩,uL⟩}}};{rintro k (⟨x,hx⟩|⟨q,i,oH,rfl⟩) j hj;{obtain⟨i,v,y,e1,e2,rfl,e3,e4,e5,e6,_⟩:=bk k x hx;rw[s1 k x hx]at hj;simp only[aQ,Prod.mk.injEq,List.not_mem_nil,or_false]at e6;(rcases e6 with⟨⟨rfl,em⟩|⟨rfl,em⟩|⟨rfl,em⟩,_⟩|⟨em,ex,_⟩<;>first|(simp[Gh.dA]at hj;done)|skip);rw[ex]at hj;obtain⟨q1,q2⟩:=h1.inv k j hj;refine⟨q1,?_⟩;by_cases hb:∃x',(j,x')∈jt V sg.md cs BS;{obtain⟨x',Cu⟩:=hb;obtain⟨i',_,_,_,_,_,_,f3,_,f6,_⟩:=bk j x' Cu;rw[s1 j x' Cu];simp only[aQ,Prod.mk.injEq,List.not_mem_nil,or_false]at f6;rcases f6 with⟨⟨rfl,_⟩|⟨rfl,_⟩|⟨rfl,_⟩,_⟩|⟨_,rfl,_⟩<;>first|(simp;done)|exact q2};{rw[s3 j (λx' Cu=>hb ⟨x',Cu⟩) λq i oH e=>by rw[<-e]at q2;exact q2 (nw q i oH).1];exact q2}};{obtain⟨v,y,e1,e2,e3,e4,e5⟩:=rv q i oH;rw[s2 q i y oH e3]at hj;simp[Gh.dA]at hj}};{rintro k (⟨x,hx⟩|⟨q,i,oH,rfl⟩) hk;{obtain⟨_,_,_,_,_,_,e3,_⟩:=bk k x hx;omega};{have:=(nw q i oH).2.2;omega}}};have Ew:fP C S' a w' R' rX:=⟨h'.size,h'.defers,Mq,λt ht=>by
   rw[t2 t λq i oH e=>by have:=(nw q i oH).2.2;omega];exact h'.tmps t ht,
  ⟨h'.io.1,λk hk=>by rw[t2 k λq i oH e=>by have:=(nw q i oH).2.1;omega];exact h'.io.2 k hk⟩,h'.ext.trans JK (λb hb=>Px b hb),h'.gl.eC JK.eC⟩
 show K (a.put o.dst x) w';rcases hd with hd|⟨d,hd,hl⟩;{rw[hd]at hK⊢;exact hK _ _ ⟨R',rX,show fP C _ a w' R' rX by simpa only[kp,Uh]using Ew⟩}
 ·rw[hd]at hK⊢;refine hK _ _ ?_;simp only[kp,Uh];have Bl:fo R' w' rX (I7 own sg (outs.take sg.jE)).1 (I7 own sg (outs.take sg.jE)).2 x/\(I7 own sg (outs.take sg.jE)).2.slot=NS/\∀k∈(I7 own sg (outs.take sg.jE)).2.dA,∃q i,sg.own[q]?=BQ i/\k=own q:=by
   have mM:=xL.rep;unfold I7;cases hb:Nat.beq sg.jE 1 with
   |true=>
    have hb:=aB hb;have hx:=xL.val;simp only[hb,if_true]at hx;have hl:=xL.len;simp only[hb]at hl;obtain⟨v,rfl⟩:∃v,qb=[v]:=by
     match qb,hl with
     |[v],_=>exact⟨v,rfl⟩
    subst hx;simp only[au];cases ho:sg.own with
    |nil=>
     rw[ho,DS]at mM;refine⟨?_,rfl,by simp[Gh.dA]⟩;generalize outs.take sg.jE=l at*;cases mM with
     |cons hr _=>exact .no hr
    |cons i r=>
     have h0:sg.own[0]?=BQ i:=by{rw[ho];rfl};obtain⟨v',y,e1,e2,e3,e4,e5⟩:=rv 0 i h0;cases Ue:Nat.blt i 1000 with
     |true=>have G8:=e1;unfold rC at G8;rw[Ue,au]at G8;have hi:i=0:=by{have:=(aH.1 G8).1;simp at this;exact this};subst hi;cases G8;dsimp only;simp only[Ue,au];exact⟨⟨by rw[t1 0 0 h0];rfl,e5.one⟩,rfl,λk hk=>⟨0,0,by rw[<-ho];exact h0,by simpa[Gh.dA]using hk⟩⟩
     |false=>
      have G8:=e1;unfold rC at G8;rw[Ue,ai]at G8;simp only[List.getElem?_cons_zero]at G8;have VF:nK (i::r)=NT:=by{unfold nK;rw[List.all_cons,Ue];rfl};rw[ho]at mM;dsimp only;simp only[Ue,ai];unfold uk at mM⊢;rw[VF]at mM⊢;simp only[ai]at mM⊢;unfold tM at e3;rw[Ue,ai]at e3;generalize outs.take sg.jE=l at*;match l,e3,mM with
      |.ag CS::l',_,mM=>
       simp only[bf,Xc]at mM⊢;cases mM with
       |cons hr ht=>
        cases hr with
        |sc e=>cases e
        |@ag _ ys hL=>have zP:ys[i -1000]?=BQ (rX (own 0)):=by{rw[t1 0 i h0,e2];exact G8};exact⟨⟨_,_,rfl,rfl,hL,λp hp=>by simp at hp;subst hp;exact zP⟩,rfl,λk hk=>⟨0,i,by rw[<-ho];exact h0,by simpa[Gh.dA]using hk⟩⟩
   |false=>
    have hb:sg.jE≠1:=λe=>by{rw[e]at hb;cases hb};have hx:=xL.val;simp only[ak hb]at hx;subst hx;simp only[ai];cases ho:sg.own with
    |nil=>rw[ho]at mM;exact⟨.no (.tu mM),rfl,by simp[Gh.dA]⟩
    |cons i r=>
     simp only[List.isEmpty_cons,ai];rw[<-ho];have key:∀p∈(sg.own.mapIdx λj i=>(i,own j)),∃q,sg.own[q]?=BQ p.1/\p.2=own q:=λp hp=>by{obtain⟨q,hq⟩:=List.mem_iff_getElem?.1 hp;rw[List.getElem?_mapIdx,aU]at hq;obtain⟨i,h1,rfl⟩:=hq;exact⟨q,h1,rfl⟩};refine⟨⟨qb,_,rfl,rfl,mM,λp hp=>?_⟩,rfl,λk hk=>?_⟩
     ·obtain⟨q,k1,k2⟩:=key p hp;obtain⟨v',y,e1,e2,e3,e4,e5⟩:=rv q p.1 k1;have VF:nK sg.own=NS:=by
       unfold okO at ZE;cases hs:nK sg.own with
       |true=>rfl
       |false=>rw[hs,Bool.false_or,af]at ZE;exact(hb (aB ZE.1)).elim
      have G8:=e1;unfold rC at G8;rw[aC.1 VF p.1 (aP k1),au]at G8;rw[k2,t1 q p.1 k1,e2,G8]
     {obtain⟨p,hp,rfl⟩:=bn.1 hk;obtain⟨q,k1,k2⟩:=key p hp;exact⟨q,p.1,k1,k2⟩}
  refine Ew.Vf hl Bl.1 Bl.2.1 λk hk=>?_;obtain⟨q,i,oH,rfl⟩:=Bl.2.2 k hk;obtain⟨v,y,e1,e2,e3,e4,e5⟩:=rv q i oH;exact⟨(nw q i oH).2.2,by rw[s2 q i y oH e3];simp⟩
end
def KK{P:Program}{w:World}{nm:String}{b:Nat}(hb:Fl.num b=NS):(Extern.MathFloor.toIntegral nm .zero #[.float .f64 b]).run P w=.ok (.float .f64 (Fl.om b)) w:=by
 unfold Fl.num at hb;have e:Extern.MathFloor.toIntegral nm .zero #[.float .f64 b]=(match FloatKind.f64.decode b with
  |.nan s t=>
   if FloatKind.f64.format.quiet t=t then pure (.float .f64 b)else do
   let kept<-choose (.extern "math.Floor,Ceil,Trunc,RoundToEven.signallingNaN kept" 2);pure (.float .f64 (if kept==1 then b else FloatKind.f64.encode (.nan s (FloatKind.f64.format.quiet t))))
  |d=>pure (.float .f64 (FloatKind.f64.encode (d.integral .zero)))):=rfl
 rw[e];unfold Fl.om;cases hd:FloatKind.f64.decode b with
 |nan s t=>rw[hd]at hb;cases hb
 |number s m e=>rfl
 |infinity s=>rfl
def MG{fn:Func}{nm:String}{f:Array Value->Sem Value}(h:fn.name=nm)(e1:Extern.allGenericRows.lookup nm=Ku)(e2:Extern.allTypedRows.lookup nm=Ku)(e3:Extern.allRows.lookup nm=BQ f):Extern.find fn=BQ f:=by unfold Extern.find;simp only[h,e1,e2,e3];rfl
def MF{fn:Func}{nm:String}(h:fn.name=nm)(h2:fn.origin= "" \/fn.origin=nm)(e1:Extern.allNextRows.lookup nm=Ku):Extern.findNext fn=Ku:=by have e2:(Extern.allNextRows.lookup "")=Ku:=by{kernel_rfl};unfold Extern.findNext;rcases h2 with h2|h2<;>simp only[h,h2,e1,e2]<;>rfl
theorem Fe(l:bD):Lib.bytesOf (l.map λx=>(x.toNat:Int))=l:=by unfold Lib.bytesOf;rw[bA];(conv=>rhs;rw[<-List.map_id l]);exact List.map_congr_left λx _=>by simp
def DH{P:Program}{w:World}{R:Reach}{l:bD}{v:Value}{c:UInt8}(h:Rep R w (.sl .bs l) v):(Extern.BytealgIndexByte.indexByte #[v,.int .u8 c.toNat]).run P w=.ok (.int .i64 (Lib.indexByte l c)) w:=by
 have hs:=Lib.run_indexByteString (P:=P) .empty (c.toNat:Int) w;cases h with
 |sc h=>cases h
 |sn=>exact hs
 |em=>exact hs
 |@sl _ _ b off n cap hn _ _ hE=>
  have e:=Lib.run_indexByteSlice (P:=P) w b off n cap (l.map λx=>(x.toNat:Int)) (by simp[hn]) (λi hi=>by
   have hi:i<l.length:=by{omega};have hg:=hE.get i (.u8 l[i]) (by rw[br,aw hi];rfl);rw[show fE.size .bs=1 from rfl,Nat.mul_one]at hg;cases hg with
   |one _ _ hc _ hr=>rw[hc,hr.dW rfl,aj,br,aw hi];rfl) (c.toNat:Int)
  rw[e,Fe];simp
section
variable{C:Ctx}{S V:St}{a:Act}{w:World}{R:Reach}{τ:Nat->Value}{o:Oper}
theorem z7{f:Nat}{nm:String}{args:Array Operand}{ts:Array TypeId}{g:Array Value->Sem Value}{vs:Array Value}{v:Value}(ho:o.op=.call {callee:=.value (.func f),args:=args,argTypes:=ts})(hv:args.map a.eval=vs)(hf:sU C.P f nm=NS)(hg:(nm== "runtime.NumGoroutine")=NT)(e1:Extern.allGenericRows.lookup nm=Ku)(e2:Extern.allTypedRows.lookup nm=Ku)(e3:Extern.allRows.lookup nm=BQ g)(e4:Extern.allNextRows.lookup nm=Ku)(hr:(g vs).run C.P w=.ok v w):(execOp a.eval o).run C.P w=.ok (.value v) w:=by
 unfold sU at hf;cases hfn:C.P.funcs[f]? with
 |none=>simp[hfn]at hf
 |some fn=>simp only[hfn,Option.any_some,af,beq_iff_eq,Bool.or_eq_true]at hf;obtain⟨⟨hn,hb⟩,hor⟩:=hf;have zR:=run_callFunc_extern (P:=C.P) hfn (by rw[hn];simpa using hg) hb (MF hn hor e4) (MG hn e1 e2 e3) vs w;rw[hr]at zR;have he:a.eval (.func f)=.func (.func f) #[] #[]:=rfl;simp only[execOp,ho,resolve,Deferred.ofValue,he,invoke];simpa[hv,resolve,Deferred.ofValue,invoke]using zR
theorem fM.any(h:fP C S a w R τ)(hd:o.dst=Ku\/∃d,o.dst=BQ d/\d<C.nt){v:Value}{x:TV}(hr:(execOp a.eval o).run C.P w=.ok (.value v) w)(hs:Rep R w x v):fM C o a w (kp S o.dst ⟨Ku,(x,.no),[]⟩):=by rcases hd with hd|⟨d,hd,hl⟩;{intro K Q hK;unfold Oper.wp;rw[hr,Oper.upon_value,hd];rw[hd]at hK;exact hK _ _ ⟨R,τ,h⟩};{rw[hd];exact h.jq hd hl hr hs}
theorem go_xtn(h:fP C S a w R τ)(hV:Lt V S)(hd:o.dst=Ku\/∃d,o.dst=BQ d/\d<C.nt){f:Nat}{args:Array Operand}{ts:Array TypeId}{e:iN}(hp:∀p,e.p=BQ p->p=NS)(ho:o.op=.call {callee:=.value (.func f),args:=args,argTypes:=ts})(he:Ti C.P f (tN C.E C.nt V ts.toList args.toList)=BQ e):fM C o a w (kp S o.dst e):=by
 cases zO:tN C.E C.nt V ts.toList args.toList with
 |none=>rw[zO]at he;cases he
 |some cs=>
  obtain⟨ll,_,_⟩:=ve h hV zO;have ea:∀{vs:List Value},args.toList.map a.eval=vs->args.map a.eval=⟨vs⟩:=λhv=>by{apply Array.ext';simpa using hv};rw[zO]at he;unfold Ti at he;split at he
  ·rename_i b hb;cases hb;obtain⟨h1,h2⟩:=bL.1 he;cases h2;generalize hv:args.toList.map a.eval=vs at ll;cases ll with
   |cons a1 _ t=>cases t;obtain rfl:=(lM.rep a1).dW rfl;have:=z7 ho (ea hv) h1 (by decide+kernel) (by kernel_rfl) (by kernel_rfl) (by kernel_rfl) (by kernel_rfl) (KK (P:=C.P) (w:=w) (nm:=KN) (hp _ rfl));exact fM.any h hd this (.sc rfl)
  ·rename_i l c hb;cases hb;obtain⟨h1,h2⟩:=bL.1 he;cases h2;generalize hv:args.toList.map a.eval=vs at ll;cases ll with
   |cons a1 _ t=>
    cases t with
    |cons a2 _ t=>cases t;obtain rfl:=(lM.rep a1).dW rfl;obtain rfl:=(lM.rep a2).dW rfl;have hr:(Extern.BytealgIndexByte.indexByte #[.string ⟨⟨l⟩⟩,.int .u8 c.toNat]).run C.P w=.ok (.int .i64 (Lib.indexByte l c)) w:=by{rw[Lib.run_indexByteString];simp};have:=z7 ho (ea hv) h1 (by decide+kernel) (by kernel_rfl) (by kernel_rfl) (by kernel_rfl) (by kernel_rfl) hr;exact fM.any h hd this (.sc rfl)
  ·rename_i l c hb;cases hb;obtain⟨h1,h2⟩:=bL.1 he;cases h2;generalize hv:args.toList.map a.eval=vs at ll;cases ll with
   |cons a1 _ t=>
    cases t with
    |cons a2 _ t=>cases t;obtain rfl:=(lM.rep a2).dW rfl;have:=z7 ho (ea hv) h1 (by decide+kernel) (by kernel_rfl) (by kernel_rfl) (by kernel_rfl) (by kernel_rfl) (DH (lM.rep a1));exact fM.any h hd this (.sc rfl)
  {cases he}
end
def Ka{e:iN}{st:fE}{l:List st.El}{lo hi:Option Int}(he:Tv st l lo hi=BQ e)(hp:∀p,e.p=BQ p->p=NS):fe (lo.getD 0) (hi.getD l.length) l.length=NS/\e.x=(.sl st ((l.take (hi.getD l.length).toNat).drop (lo.getD 0).toNat),.no)/\e.ws=[]:=by unfold Tv at he;split at he<;>cases he;{simp_all};{simp_all};{simp_all};{simp[fe]}
def J8{e:iN}{l:bD}{lo hi:Option Int}(he:Tu l lo hi=BQ e)(hp:∀p,e.p=BQ p->p=NS):fe (lo.getD 0) (hi.getD l.length) l.length=NS/\e.x=(.s ((l.take (hi.getD l.length).toNat).drop (lo.getD 0).toNat),.no)/\e.ws=[]:=by unfold Tu at he;split at he<;>cases he;{simp_all};{simp_all};{simp_all};{simp[fe]}
def Hh{l:List (Nat×Nat)}{m:Nat}(h:(l.all λt=>!Nat.beq t.2 m)=NS)(t:Nat×Nat)(ht:t∈l):t.2≠m:=λe=>by have:=aC.1 h t ht;rw[e]at this;simp at this
def CW{l:List (Nat×Cell)}{m:Nat}(h:(l.all λt=>!Nat.beq t.1 m)=NS)(t:Nat×Cell)(ht:t∈l):t.1≠m:=λe=>by have:=aC.1 h t ht;rw[e]at this;simp at this
theorem EG{V:St}{c:Cell}{x:TV}{ws:List (Nat×Cell)}(h:H9 V c=BQ (x,ws))(p:Nat×Cell)(hp:p∈ws):p.1∈c.2.dA:=by unfold H9 at h;split at h;{split at h;{grind[List.mem_singleton,Gh.dA]};{simp_all};{grind};{cases h}};{simp_all};{cases h}
theorem uB{V:St}{o n:Nat}:∀{ts:List (Nat×Nat)}{cs ds:List TV}{ws:List (Nat×Cell)},qV V o n ts cs=BQ (ds,ws)->∀p∈ws,p.1∈ts.map (·.2)
 |(c,k)::ts,cs,ds,ws,h,p,hp=>by
  simp only[qV]at h;split at h
  ·rename_i CS WY h1;cases hb:(Nat.ble o c&&Nat.blt c (o+n))with
   |true=>rw[hb,au]at h;split at h;{rename_i h2;cases h;rcases List.mem_append.1 hp with hp|hp;{have:=EG h2 p hp;simp[Gh.dA]at this;exact this▸List.mem_cons_self ..};{exact List.mem_cons_of_mem _ (uB h1 p hp)}};{cases h}
   |false=>rw[hb,ai]at h;cases h;exact List.mem_cons_of_mem _ (uB h1 p hp)
  {cases h}
def MA{V:St}{c:Cell}{x:TV}{ws:List (Nat×Cell)}(h:EH V c=BQ (x,ws))(p:Nat×Cell)(hp:p∈ws):p.1∈c.2.dA:=by unfold EH at h;split at h;{split at h;{rename_i hf;cases h;exact uB hf p hp};{cases h}};{grind[EG]}
def Jd{E:cE}{nt:Nat}{V V':St}{t:TypeId}{x:Operand}(h:∀i,i<nt->V' i=V i):ik E nt V' t x=ik E nt V t x:=by
 (cases x<;>try rfl);rename_i i;unfold ik;by_cases hi:i<nt;{simp_all}
 ·have:Nat.blt i nt=NT:=by
   cases hb:Nat.blt i nt with
   |false=>rfl
   |true=>exact absurd (Nat.le_of_ble_eq_true hb) hi
  simp only[this,ai]
theorem Lt.gi{V S:St}(h:Lt V S):∀ws:List (Nat×Cell),Lt (gi V ws) (gi S ws)
 |[]=>h
 |(k,x)::ws=>λj=>by by_cases e:j=k;{subst e;simp only[Go.Eng.gi,cO];exact .inl trivial};{simp only[Go.Eng.gi,fH _ _ e];exact h.gi ws j}
section
variable{C:Ctx}{S V:St}{a:Act}{w:World}{R:Reach}{τ:Nat->Value}{o:Oper}{d:Nat}{own:Nat->Nat}{e:iN}(h:fP C S a w R τ)(hV:Lt V S)(hE:kZ C.P C.E)(hp:∀p,e.p=BQ p->p=NS)
include h hV hE hp
section
variable(hd:o.dst=BQ d)(hl:d<C.nt)
include hd hl
omit hE in
theorem M8{s t:TypeId}{x:Operand}{c:Cell}{y:TV}(ho:o.op=.convert s t x)(hx:ik C.E C.nt V s x=BQ c)(hy:Ar V c=BQ y)(he:M9 C.P C.nt own V s t y=BQ e):fM C o a w (kp S (BQ d) e):=by unfold M9 at he;split at he;{rename_i hs ht;split at he<;>cases he;exact go_ci h hV hd hl ho hx hy (by assumption) hs ht};{rename_i hs ht;split at he<;>cases he;exact go_cf h hV hd hl ho hx hy (by rw[hs];rfl) ht};{rename_i hs ht;split at he<;>cases he;exact go_fc h hV hd hl ho hx hy (hp _ rfl) (by rw[hs];rfl) ht};{rename_i hs ht;split at he<;>cases he;exact go_cs h hV hd hl ho hx hy hs ht};{rename_i hs ht;split at he;{rename_i hu;obtain⟨h1,h2⟩:=bL.1 he;cases h2;exact go_sb h hd hl hV ho hx hy hs ht hu (hp _ rfl) (jP hV.q h1)};{cases he}};{rename_i hs ht;split at he<;>cases he;exact go_bs h hV hd hl ho hx hy hs (by assumption) ht};{cases he}
omit hE in
theorem M6{s t:TypeId}{x:Operand}{c:Cell}(ho:o.op=.convert s t x)(hx:ik C.E C.nt V s x=BQ c)(he:M7 C.P V s t c=BQ e):fM C o a w (kp S (BQ d) e):=by unfold M7 at he;split at he;{split at he;{rename_i hk hs;split at he;{rename_i hu;obtain⟨h1,h2⟩:=bL.1 he;cases h2;have:=aB h1;subst this;refine go_cc h hd hl hV ho hx hk hs hu λhn=>?_;have:=hp _ rfl;rw[hn]at this;cases this};{cases he}};{cases he}};{cases he}
theorem IA{t u:TypeId}{x y:Operand}{st st':fE}{tE:Nat}{c:Cell}{m:List st'.El}{du:TypeDesc}{news:List Value}(ho:o.op=.call {callee:=.builtin .append,args:=#[x,y],argTypes:=#[t,u]})(ht:C.E.ty t=BQ (st,tE))(hx:ik C.E C.nt V t x=BQ c)(hu:C.P.underlying u=BQ du)(Cy:∀k,du≠.int k)(zL:Source C.P w st'.size (a.eval y) m.length news)(hL:dR R w ((m.map st'.tv).flatMap TV.cells) news)(he:Qa C.E C.nt own V st tE c st' m=BQ e):fM C o a w (kp S (BQ d) e):=by unfold Qa at he;split at he;{rename_i k;obtain⟨q1,_,q3⟩:=iy h hV hx;have hv:a.eval x=τ k:=q1.1;have Ob:C.nt<=k:=(q3 k (by simp[Gh.dA])).1;split at he;{rename_i t' l hk;split at he;{obtain⟨h0,hq⟩:=bL.1 he;obtain rfl:=aq h0;unfold HT at hq;split at hq;{rename_i n hn;obtain⟨h1,h2⟩:=bL.1 hq;cases h2;obtain⟨e1,rfl⟩:=fE.CV hn;subst e1;exact go_lend h hV hd hl hE ho ht hv Ob (hV.of hk) hu Cy zL hL (hp _ rfl) (jP hV.q h1)};{cases hq}};split at he;{rename_i n hn;obtain⟨h1,h2⟩:=bL.1 he;cases h2;simp at h1;obtain⟨rfl,h1⟩:=h1;obtain⟨e1,rfl⟩:=fE.CV hn;subst e1;exact go_app h hV hd hl hE ho ht hx (hV.of hk) hu Cy zL hL (hp _ rfl) (jP hV.q h1) (.inl ⟨rfl,rfl,rfl⟩)};{cases he}};{rename_i t' l d0 hk;obtain⟨h0,hq⟩:=bL.1 he;obtain rfl:=aq h0;unfold HT at hq;split at hq;{rename_i n hn;obtain⟨h1,h2⟩:=bL.1 hq;cases h2;obtain⟨e1,rfl⟩:=fE.CV hn;subst e1;have hk:=hV.of hk;obtain⟨p1,_⟩:=h.core.par k d0 (by rw[hk]);obtain⟨n1,n2,n3⟩:=jP hV.q h1;have c1:own 0≠k:=by{grind};have c2:own 0≠d0:=by{grind};have hr:=h.recover hk;have:=go_lend hr (Lt.refl _) hd hl hE ho ht hv Ob (by grind[fH,cO]) hu Cy zL hL (hp _ rfl) (k2:=own 0) ⟨by rw[fH _ _ c2,fH _ _ c1];exact n1,n2,n3⟩;have e2:cX (cX (cX (cX S k (.sl st' l,.pv)) d0 (.dead,.zz)) k (.sl st' l,.pw (own 0))) (own 0) (.sl st' (l++m),.pc k)=cX (cX (cX S d0 (.dead,.zz)) k (.sl st' l,.pw (own 0))) (own 0) (.sl st' (l++m),.pc k):=by{funext j;by_cases j1:j=own 0;{simp_all[cO]};{grind[fH,cO]}};rw[e2]at this;exact this};{cases hq}};{rename_i t' l hk;split at he;{rename_i n hn;obtain⟨h1,h2⟩:=bL.1 he;cases h2;simp at h1;obtain⟨rfl,h1⟩:=h1;obtain⟨e1,rfl⟩:=fE.CV hn;subst e1;exact go_app h hV hd hl hE ho ht hx (hV.of hk) hu Cy zL hL (hp _ rfl) (jP hV.q h1) (.inr ⟨rfl,rfl,rfl⟩)};{cases he}};{cases he}};{rename_i t';obtain⟨h1,h2⟩:=bL.1 he;simp at h1;obtain⟨rfl,rfl⟩:=h1;obtain⟨h1,h2⟩:=bL.1 h2;cases h2;exact go_apn h hV hd hl hE ho ht hx hu Cy zL hL (hp _ rfl) (jP hV.q h1)};{cases he}
theorem Ff{b:Builtin}{ts:Array TypeId}{args:Array Operand}(ho:o.op=.call {callee:=.builtin b,args:=args,argTypes:=ts})(he:Ab C.P C.E C.nt own V b ts.toList args.toList=BQ e):fM C o a w (kp S (BQ d) e):=by obtain⟨ts⟩:=ts;obtain⟨args⟩:=args;simp only at he;unfold Ab at he;split at he;{split at he<;>cases he;{exact go_len h hV hd hl ho (by assumption) (by assumption)};{exact go_lens h hV hd hl ho (by assumption) (by assumption)}};{split at he;{rename_i hm;obtain⟨news,h1,h2⟩:=Source.of (P:=C.P) (y7 h hV hm);exact IA h hV hE hp hd hl ho (by assumption) (by assumption) (by assumption) (by simp) h1 h2 he};{rename_i hm;obtain⟨h1,h2⟩:=Source.R5 (P:=C.P) (w:=w) (R:=R) _;have e1:=Lh h hV hm;rw[<-e1]at h1;exact IA h hV hE hp hd hl (st':=.bs) ho (by assumption) (by assumption) (by assumption) (by simp) h1 h2 he};{cases he}};{split at he;{obtain⟨h1,h2⟩:=bL.1 he;cases h2;have h1:=aq h1;subst h1;exact go_minmax h hV hd hl (mx:=NT) ho (by assumption) (by assumption)};{cases he}};{split at he;{obtain⟨h1,h2⟩:=bL.1 he;cases h2;have h1:=aq h1;subst h1;exact go_minmax h hV hd hl (mx:=NS) ho (by assumption) (by assumption)};{cases he}};{split at he<;>cases he;exact go_real h hV hd hl (im:=NT) ho (by assumption)};{split at he<;>cases he;exact go_real h hV hd hl (im:=NS) ho (by assumption)};{split at he<;>cases he;exact go_cx h hV hd hl ho (by assumption) (by assumption)};{cases he}
theorem Sm{t:TypeId}{x i:Operand}{c:Cell}{n:Int}(ho:o.op=.indexAddr t x i)(hx:ik C.E C.nt V t x=BQ c)(hi:uA C.E C.nt V i=BQ n)(he:Zd C.P C.E V t c n=BQ e):fM C o a w (kp S (BQ d) e):=by have fF:∀{k:Nat},c=(.pt,.fF k)->a.eval x=τ k:=by{rintro k rfl;exact(iy h hV hx).1.1};unfold Zd at he;split at he;{rename_i k _;split at he;{rename_i hk;obtain⟨h1,h2⟩:=bL.1 he;cases h2;exact go_pix h hV hd hl hE ho h1 hx (hV.of hk) hi (hp _ rfl)};{rename_i hk;obtain⟨h1,h2⟩:=bL.1 he;cases h2;have hK:=h.core.key k;rw[hV.of hk]at hK;exact go_ix h hV hd hl hE ho h1 (by rw[fF rfl];exact(gm.rep hK).1) hi (hp _ rfl)};{rename_i hk;obtain⟨h1,h2⟩:=bL.1 he;cases h2;have hK:=h.core.key k;rw[hV.of hk]at hK;exact go_ix h hV hd hl hE ho h1 (by rw[fF rfl];exact hK) hi (hp _ rfl)};{cases he}};{obtain⟨h1,h2⟩:=bL.1 he;cases h2;exact go_ix h hV hd hl hE ho h1 (fJ h hV hx) hi (hp _ rfl)};{split at he;{rename_i hk;rw[aV]at he;obtain⟨inf,h1,h2⟩:=he;cases h2;exact go_la h hV hd hl ho (by assumption) h1 hx (hV.of hk) hi (hp _ rfl)};{cases he}};{cases he}
theorem PV{t:TypeId}{x:Operand}{lo hi:Option Operand}{p q:Option Int}{c:Cell}(ho:o.op=.slice t x lo hi Ku)(hx:ik C.E C.nt V t x=BQ c)(h1:qn C.E C.nt V lo=BQ p)(h2:qn C.E C.nt V hi=BQ q)(he:M4 C.E V t c p q=BQ e):fM C o a w (kp S (BQ d) e):=by unfold M4 at he;split at he;{rename_i hf;obtain⟨k1,k2⟩:=bL.1 he;rw[aU]at k2;obtain⟨e',k2,rfl⟩:=k2;obtain⟨c1,c2,c3⟩:=Ka (e:=e') k2 hp;unfold kp;simp only[c2];exact go_sc h hV hd hl hE ho k1 hx hf h1 h2 c1};{cases he}
omit hE in
theorem LP{t:TypeId}{x:Operand}{c:Cell}(ho:o.op=.load t x)(hx:ik C.E C.nt V 0 x=BQ c)(he:LQ C.P C.E own V t c=BQ e):fM C o a w (kp S (BQ d) e):=by unfold LQ at he;split at he;{rename_i n agg hs;obtain⟨h1,GN⟩:=bL.1 he;clear he;have he:=GN;clear GN;have h1:agg=NS\/n=1:=by{rcases Bool.or_eq_true _ _▸h1 with h|h;{exact .inl h};{exact .inr (aB h)}};split at he;{split at he;{rename_i hm;split at he;{rename_i hf;cases he;have:n=1:=by{simpa using h1};subst this;exact go_ldt h hV hd hl ho hs hx (hV.of hm) (by assumption)};{split at he;{obtain⟨k1,k2⟩:=bL.1 he;cases k2;simp only[af]at k1;obtain⟨⟨rfl,k1⟩,k2⟩:=k1;have k1:=aB k1;have k2:=aB k2;subst k1 k2;exact go_ldo h hV hd hl ho hs hx (hV.of hm)};{split at he;{split at he<;>cases he;exact go_ld h hV hd hl ho hs h1 hx (hV.of hm) (by assumption) (by assumption)};{cases he}}}};{cases he}};{rename_i k;split at he;{rename_i st l g hk;split at he;{rename_i hpt;obtain⟨k1,k2⟩:=bL.1 he;cases k2;simp only[af,Bool.or_eq_true,aD]at k1;obtain⟨k1,k2⟩:=k1;have gI:=aq (hp _ rfl);have hK:=h.core.key k;rw[hV.of hk (by rcases k1 with rfl|rfl<;>simp)]at hK;obtain⟨p,hK⟩:∃p,gm R w p (τ k) (.sl st l):=by{rcases k1 with rfl|rfl<;>exact⟨_,hK⟩};exact go_pld h hV hd hl ho hs h1 hx hK (aB k2) gI hpt};{cases he}};{rename_i cs hk;split at he;{obtain⟨k1,k2⟩:=bL.1 he;cases k2;simp only[af,Bool.not_eq_true']at k1;obtain⟨⟨⟨k1,k2⟩,k3⟩,rfl⟩:=k1;have k1:=aB k1;have k2:=aB k2;have k3:=aB k3;subst k1 k2 k3;exact go_pla h hV hd hl ho hs hx (hV.of hk) (aq (hp _ rfl)) (by assumption)};{cases he}};{cases he}};{obtain⟨k1,k2⟩:=bL.1 he;cases k2;simp only[af,beq_iff_eq]at k1;exact go_lr h hV hd hl ho hs h1 hx k1.1.2 (aB k1.2)};{cases he}};{cases he}
end
omit hE in
theorem IP(hd:o.dst=Ku){t:TypeId}{x y:Operand}{c v:Cell}(ho:o.op=.store t x y)(hx:ik C.E C.nt V 0 x=BQ c)(hy:ik C.E C.nt V t y=BQ v)(he:F4 C.P V t c v=BQ e):fM C o a w (kp S Ku e):=by unfold F4 at he;split at he;{rename_i n agg hs;obtain⟨inf,hi,rfl,_⟩:=iq hs;split at he;{split at he;{rename_i cs ts hm;split at he;{rename_i k;obtain⟨k1,k2⟩:=bL.1 he;cases k2;simp only[af,Bool.not_eq_true']at k1;have hn:=aB k1.1.1;have JI:=hV.of hm;rw[hn];exact go_stt h hV hd ho hi hn hx JI hy (Nat.le_of_ble_eq_true k1.1.2) (Nat.ne_of_beq_eq_false k1.2.1) (Hh k1.2.2)};{obtain⟨k1,k2⟩:=bL.1 he;cases k2;simp only[af]at k1;obtain⟨⟨⟨k1,k2⟩,k3⟩,k4⟩:=k1;have k1:=aB k1;subst k1;exact go_sto h hV hd ho hi hx (hV.of hm) hy (aB k2) (aB k3) (Hh k4)};{obtain⟨k1,k2⟩:=bL.1 he;cases k2;simp only[af]at k1;have JI:=hV.of hm;have hr:=fJ h hV hy;have hn:=aB k1.1.1.2;refine go_st' h hV hd ho hi hx JI (pn hr k1.1.1.1) hn (Nat.le_of_ble_eq_true k1.1.2) λu hu=>?_;obtain⟨h1,h2⟩:=AY hu;exact⟨Hh k1.2 u h1,.inl ⟨h1,h2⟩⟩};{cases he}};{cases he}};{rename_i i s q k;split at he;{rename_i y' ws hf;obtain⟨R',h',e1,_⟩:=h.fr hV hy hf;have Xu:∀p∈ws,C.nt<=p.1:=λp hp=>((iy h hV hy).2.2 _ (MA hf p hp)).1;have X2:Lt (gi V ws) (gi S ws):=hV.gi ws;have Cu:ik C.E C.nt (gi V ws) 0 x=BQ (.el i s q,.pe k):=by{rw[<-hx];exact Jd λi hi=>jD λp hp e=>by have:=Xu p hp;omega};split at he;{rename_i st l hk;split at he;{split at he;{obtain⟨k1,k2⟩:=bL.1 he;cases k2;simp only[af]at k1;exact go_pst h' X2 hd ho hi Cu (by rw[jD (CW k1.2)];exact hV.of hk) e1 k1.1.1.1 (aB k1.1.2) (aB k1.1.1.2) (aq (hp _ rfl)) (by assumption) (by assumption)};{cases he}};{cases he}};{rename_i cs hk;split at he;{obtain⟨k1,k2⟩:=bL.1 he;cases k2;simp only[af]at k1;have k2:=aB k1.1.1.1;have k3:=aB k1.1.1.2;subst k2 k3;exact go_ls h' X2 hd ho hi (aB k1.1.2) Cu (by rw[jD (CW k1.2)];exact hV.of hk) (aq (hp _ rfl)) e1 (by assumption)};{cases he}};{cases he}};{cases he}};{cases he}};{cases he}
theorem Dv(hF:∀f,gp C.P C.gl f (C.E.fs f))(Cw:0<C.nt->∀j j',own j=own j'->j=j')(pV:zW C.nt o=NS)(he:Dw C.P C.E C.nt own V o.type o.op=BQ e):fM C o a w (kp S o.dst e):=by
 have qY:(∀t x y,o.op≠.store t x y)->(∀x args ts,o.op≠.call {callee:=.value x,args:=args,argTypes:=ts})->∃d,o.dst=BQ d/\d<C.nt:=λh1 h2=>by{unfold zW at pV;split at pV;{exact(h1 _ _ _ (by assumption)).elim};{cases pV};{exact(h2 _ _ _ (by assumption)).elim};{exact⟨_,by assumption,Nat.le_of_ble_eq_true pV⟩};{cases pV}};have Tr:∀{x:Operand}{args:Array Operand}{ts:Array TypeId},o.op=.call {callee:=.value x,args:=args,argTypes:=ts}->o.dst=Ku\/∃d,o.dst=BQ d/\d<C.nt:=λ{x args ts}h1=>by
  cases hd:o.dst with
  |none=>exact .inl rfl
  |some d=>right;unfold zW at pV;rw[h1,hd]at pV;exact⟨d,rfl,Nat.le_of_ble_eq_true pV⟩
 have call:∀{f:Nat}{x:Operand}{args:Array Operand}{ts:Array TypeId},o.op=.call {callee:=.value x,args:=args,argTypes:=ts}->a.eval x=.func (.func f) #[] #[]->Iq C.E C.nt own V f ts.toList args.toList=BQ e->fM C o a w (kp S o.dst e):=λ{f x args ts}ho hx he=>by{unfold Iq at he;split at he;{rename_i cs zO;split at he;{rename_i xs ws QM;split at he;{rename_i outs hc;exact abH h hV (Tr ho) (c:=(C.E.fs f).1) (sg:=(C.E.fs f).2) (hF f) ho hx zO QM (by rw[hc];rfl) Cw he};{rename_i p outs hc;have FC:p=NS:=by{have GN:=he;unfold Fc at GN;obtain⟨_,GN⟩:=bL.1 GN;split at GN;{obtain⟨_,GN⟩:=bL.1 GN;cases GN;exact hp _ rfl};{cases GN}};exact abH h hV (Tr ho) (c:=(C.E.fs f).1) (sg:=(C.E.fs f).2) (hF f) ho hx zO QM (by rw[hc];exact⟨FC,rfl⟩) Cw he};{cases he}};{cases he}};{cases he}};generalize kI:o.op=op at he;unfold Dw at he;split at he;{obtain⟨d,hd,hl⟩:=qY (by simp[kI]) (by simp[kI]);rw[aU]at he;obtain⟨c,h1,rfl⟩:=he;rw[hd];exact go_move h hV hd hl (.inl kI) h1};{obtain⟨d,hd,hl⟩:=qY (by simp[kI]) (by simp[kI]);rw[aU]at he;obtain⟨c,h1,rfl⟩:=he;rw[hd];exact go_move h hV hd hl (.inr kI) h1};{obtain⟨d,hd,hl⟩:=qY (by simp[kI]) (by simp[kI]);split at he;{obtain⟨z,h1,h2,h3⟩:=sa.G7 he hp;rw[vy hd h2 h3];exact go_pick h hV hd hl kI (by assumption) (by assumption) (by assumption) h1};{cases he}};{obtain⟨d,hd,hl⟩:=qY (by simp[kI]) (by simp[kI]);split at he;{split at he;{split at he;{cases he;rw[hd];exact go_nl h hV hd hl kI (by assumption) (by assumption) (by assumption) (by assumption)};{cases he}};{split at he<;>cases he<;>rw[hd];{exact go_be h hV hd hl (neg:=NT) kI rfl (by assumption) (by assumption) (by assumption)};{exact go_be h hV hd hl (neg:=NS) kI rfl (by assumption) (by assumption) (by assumption)}};{split at he;{obtain⟨r,hr,he⟩:=aV.1 he;cases he;rw[hd];exact go_es h hV hd hl NT kI rfl (by assumption) (by assumption) (by assumption) hr};{obtain⟨r,hr,he⟩:=aV.1 he;cases he;rw[hd];exact go_es h hV hd hl NS kI rfl (by assumption) (by assumption) (by assumption) hr};{cases he}};{split at he;{obtain⟨z,h1,h2,h3⟩:=sa.G7 he hp;rw[vy hd h2 h3];exact go_bin h hV hd hl kI (by assumption) (by assumption) h1};{cases he}}};{cases he}};{obtain⟨d,hd,hl⟩:=qY (by simp[kI]) (by simp[kI]);split at he;{obtain⟨z,h1,h2,h3⟩:=sa.G7 he hp;rw[vy hd h2 h3];exact go_un h hV hd hl kI (by assumption) h1};{cases he}};{obtain⟨d,hd,hl⟩:=qY (by simp[kI]) (by simp[kI]);split at he;{split at he;{cases he;rw[hd];exact M6 h hV hp hd hl kI (by assumption) (by assumption)};{split at he;{rw[hd];exact M8 h hV hp hd hl kI (by assumption) (by assumption) he};{cases he}}};{cases he}};{obtain⟨d,hd,hl⟩:=qY (by simp[kI]) (by simp[kI]);rw[hd];exact Ff h hV hE hp hd hl kI he}
 ·rename_i f _ _;cases hb:H6 C.P f with
  |true=>rw[hb]at he;exact call kI rfl he
  |false=>rw[hb]at he;exact go_xtn h hV (Tr kI) hp kI he
 {split at he;{rename_i hx;exact call kI ((fJ h hV hx).dW rfl) he};{cases he}};{obtain⟨d,hd,hl⟩:=qY (by simp[kI]) (by simp[kI]);split at he;{rw[hd];exact Sm h hV hE hp hd hl kI (by assumption) (by assumption) he};{cases he}};{obtain⟨d,hd,hl⟩:=qY (by simp[kI]) (by simp[kI]);split at he;{split at he;{cases he;rw[hd];exact go_si h hV hd hl kI (by assumption) (by assumption) (hp _ rfl) (by assumption)};{cases he}};{rename_i hi;split at he;{split at he;{rename_i hs;split at he;{rename_i hx;obtain⟨k1,k2⟩:=bL.1 he;cases k2;rw[hd];have hn:=hp _ rfl;have Ez:=hn;simp only[bG,af,aD]at Ez;have hm:=aB k1;exact go_ai h hV hd hl kI (by assumption) hi (by assumption) hs (.inr rfl) hn (by rw[Nat.mul_one];exact CU hx (by omega))};{cases he}};{rename_i hs;split at he;{rename_i hx;obtain⟨k1,k2⟩:=bL.1 he;cases k2;rw[hd];have hn:=hp _ rfl;have Ez:=hn;simp only[bG,af,aD]at Ez;have hm:=aB k1;refine go_ai h hV hd hl kI (by assumption) hi (by assumption) hs (.inl rfl) hn ?_;have hx:=E4 hm (by omega) _ (Nat.le_refl _) hx;rw[Nat.sub_self,Nat.add_zero]at hx;have hb:∀{x y:Nat},x<=y->Nat.ble x y=NS:=Nat.ble_eq_true_of_le;simp only[qg];rw[hb (by rw[<-hm,<-Nat.succ_mul];exact ay _ (by omega)),au,hx]};{cases he}};{cases he}};{cases he}};{cases he}};{obtain⟨d,hd,hl⟩:=qY (by simp[kI]) (by simp[kI]);split at he;{split at he;{rename_i agg hs;split at he;{obtain⟨k1,k2⟩:=bL.1 he;cases k2;rw[hd];refine go_fe h hV hd hl kI (by assumption) (by assumption) hs (by assumption) ?_;rcases Bool.or_eq_true _ _▸k1 with h|h;{exact .inl h};{exact .inr (aB h)}};{cases he}};{cases he}};{cases he}};{obtain⟨d,hd,hl⟩:=qY (by simp[kI]) (by simp[kI]);split at he;{split at he;{rename_i hs;obtain⟨k1,k2⟩:=bL.1 he;clear he;have k1:=Nat.le_of_ble_eq_true k1;rw[hd];split at k2;{cases k2;exact go_fa h hV hd hl kI (by assumption) hs k1 (by assumption)};{cases k2;exact go_pfa h hV hd hl kI (by assumption) hs k1 (by assumption)};{split at k2<;>cases k2;exact go_fr h hV hd hl kI (by assumption) hs k1 (by assumption) (by assumption)};{cases k2}};{cases he}};{cases he}};{obtain⟨d,hd,hl⟩:=qY (by simp[kI]) (by simp[kI]);split at he<;>cases he<;>rw[hd];{exact go_nc h hV hd hl kI (by assumption)};{exact go_ncr h hV hd hl kI (by assumption)}};{obtain⟨d,hd,hl⟩:=qY (by simp[kI]) (by simp[kI]);split at he;{rw[aV]at he;obtain⟨y,h1,h2⟩:=he;cases h2;rw[hd];exact go_ex h hV hd hl (l:=[]) kI (.inl (by assumption)) h1};{split at he;{rename_i k _;split at he;{rename_i hk;cases he;rw[hd];have hK:=h.core.key k;rw[hV.of hk]at hK;exact go_ext h hV hd hl kI (by assumption) (by assumption) (gm.one hK)};{cases he}};{rw[aV]at he;obtain⟨y,h1,h2⟩:=he;cases h2;rw[hd];exact go_ex h hV hd hl kI (.inr (by assumption)) h1}};{cases he}};{obtain⟨d,hd,hl⟩:=qY (by simp[kI]) (by simp[kI]);split at he;{rw[hd];exact LP h hV hp hd hl kI (by assumption) he};{cases he}}
 ·have hd:o.dst=Ku:=by
   unfold zW at pV;rw[kI]at pV;cases hd:o.dst with
   |none=>rfl
   |some d=>rw[hd]at pV;cases pV
  split at he;{rw[hd];exact IP h hV hp hd kI (by assumption) (by assumption) he};{cases he}
 {obtain⟨d,hd,hl⟩:=qY (by simp[kI]) (by simp[kI]);split at he;{obtain⟨c1,c2,c3⟩:=J8 he hp;rw[vy hd c2 c3];exact go_ss h hV hd hl kI (by assumption) (by assumption) (by assumption) (by assumption) c1};{rename_i c lo hi ht hx h1 h2;have cx:M4 C.E V _ c lo hi=BQ e->fM C o a w (kp S o.dst e):=λhe=>by{rw[hd];exact PV h hV hE hp hd hl kI hx h1 h2 he};split at he;{rename_i k n;split at he;{rename_i hk;obtain⟨k1,k2⟩:=bL.1 he;cases k2;simp only[af]at k1;rw[hd];obtain⟨rfl,_⟩:_=Ku/\True:=by{rcases zG h hV h1 with⟨e1,_⟩|⟨_,_,_,_,e1,_⟩;{exact⟨e1,trivial⟩};{cases e1}};obtain⟨y,rfl⟩:∃y,_=BQ y:=by{rcases zG h hV h2 with⟨_,e1⟩|⟨y,_,_,e1,_⟩;{cases e1};{exact⟨y,e1⟩}};exact go_psl h hV hd hl hE kI k1.1 hx (hV.of hk) h2 (hp _ rfl) (jP hV.q k1.2)};{exact cx he}};{exact cx he}};{cases he}};{obtain⟨d,hd,hl⟩:=qY (by simp[kI]) (by simp[kI]);split at he;{split at he;{split at he;{split at he;{obtain⟨k1,k2⟩:=bL.1 he;simp only[af,aD]at k1;obtain⟨k4,k3⟩:=bL.1 k2;cases k3;rw[hd];exact go_bl h hV hd hl hE kI (by assumption) (by assumption) (by assumption) (by assumption) (aB k1.1.1) (Nat.le_of_ble_eq_true k1.1.2) k1.2 k4};{cases he}};{cases he}};{cases he}};{cases he}};{obtain⟨d,hd,hl⟩:=qY (by simp[kI]) (by simp[kI]);split at he;{split at he;{split at he;{split at he;{split at he;{obtain⟨k1,k2⟩:=bL.1 he;simp only[af,aC,Bool.not_eq_true']at k1;cases k2;rw[hd];exact go_bo h hV hd hl hE kI (by assumption) (by assumption) (by assumption) (by assumption) (by assumption) (by assumption) (by assumption) (aB k1.2.1) (λp hp e=>by have:=k1.2.2 p hp;rw[e,Nat.beq_refl]at this;cases this) (aC.2 k1.1)};{cases he}};{cases he}};{split at he;{split at he;{obtain⟨k1,k2⟩:=bL.1 he;cases k2;rw[hd];exact go_bd h hV hd hl hE kI (by assumption) (by assumption) (by assumption) (by assumption) (by assumption) k1};{cases he}};{cases he}}};{cases he}};{cases he}};{obtain⟨d,hd,hl⟩:=qY (by simp[kI]) (by simp[kI]);rw[aV]at he;obtain⟨z,h1,h2⟩:=he;obtain⟨k1,k2⟩:=bL.1 h2;cases k2;rw[hd];exact go_al h hd hl hE kI h1 (jP hV.q k1)};{obtain⟨d,hd,hl⟩:=qY (by simp[kI]) (by simp[kI]);split at he;{obtain⟨k1,k2⟩:=bL.1 he;cases k2;simp only[af]at k1;rw[hd];exact go_bx h hd hl hV kI (by assumption) k1.1 (jP hV.q k1.2)};{cases he}};{obtain⟨d,hd,hl⟩:=qY (by simp[kI]) (by simp[kI]);split at he;{obtain⟨k1,k2⟩:=bL.1 he;cases k2;rw[hd];exact go_mk h hd hl hE hV kI (by assumption) (by assumption) (by assumption) (hp _ rfl) (jP hV.q k1)};{cases he}};{cases he}
end
def wV{l:List TV}(h:xN l=Ku):∀x∈l,x.Nc=Ku:=by
 induction l with
 |nil=>simp
 |cons x l ih=>simp only[xN]at h;split at h;{rename_i h1;intro y hy;rcases aQ.1 hy with rfl|hy;{exact h1};{exact ih h y hy}};{cases h};{cases h}
def BG{l:List TV}(h:xN l=BQ NS):∀x∈l,∀q,x.Nc=BQ q->q=NS:=by
 induction l with
 |nil=>simp
 |cons x l ih=>simp only[xN]at h;split at h;{rename_i h1;intro y hy q hq;rcases aQ.1 hy with rfl|hy;{rw[h1]at hq;cases hq};{exact ih h y hy q hq}};{rename_i p h1 h2;cases h;intro y hy q hq;rcases aQ.1 hy with rfl|hy;{rw[h1]at hq;cases hq;rfl};{rw[wV h2 y hy]at hq;cases hq}};{rename_i p q' h1 h2;have h:=Option.some.inj h;rw[af]at h;obtain⟨rfl,rfl⟩:=h;intro y hy q hq;rcases aQ.1 hy with rfl|hy;{rw[h1]at hq;cases hq;rfl};{exact ih h2 y hy q hq}}
section
variable{C:Ctx}{S V:St}{a:Act}{w:World}{R:Reach}{τ:Nat->Value}{o:Oper}{d:Nat}{e:iN}{K:Act->World->Prop}{Q:Exit->Act->World->Prop}
theorem Hu{x:TV}{g:Gh}{v:Value}(hx:x.Ma=NT):fo R w τ (.gd NS x) g v↔fo R w τ x g v:=by cases x<;>first|(cases hx;done)|exact Iff.rfl
theorem Core.Ht{nt:Nat}{eG:Nat->Prop}{S S':St}(h:Core nt R w eG τ S)(h1:∀k,nt<=k->S' k=S k)(h2:∀k,k<nt->(S' k).2=(S k).2)(h3:∀k,k<nt->fo R w τ (S k).1 (S k).2 (τ k)->fo R w τ (S' k).1 (S' k).2 (τ k)):Core nt R w eG τ S':=by have hg:∀k,(S' k).2=(S k).2:=λk=>by{rcases Nat.lt_or_ge k nt with hk|hk;{exact h2 k hk};{rw[h1 k hk]}};have hb:∀k,iL τ S' k=iL τ S k:=λk=>by{unfold iL;rw[hg]};refine⟨λk=>?_,λk k' g a b=>?_,λk g a=>?_,λj k hk=>?_,h.vK,λk hk=>by rw[hg];exact h.slt k hk,λk d hk=>?_⟩;{rcases Nat.lt_or_ge k nt with hk|hk;{have hs:=h.slt k hk;have hK:=h.key k;rw[kY.slot hs]at hK;rw[kY.slot (by rw[hg];exact hs)];exact h3 k hk hK};{rw[h1 k hk];exact h.key k}};{rw[hb]at a b;exact h.sep k k' g a b};{rw[hb]at a;exact h.eG k g a};{rw[hg]at hk;rw[hg];exact h.inv j k hk};{rw[hg]at hk;have Ob:nt<=k:=by{rcases Nat.lt_or_ge k nt with ZR|ZR;{have:=h.slt k ZR;rw[hk]at this;cases this};{exact ZR}};have hdn:nt<=d:=(h.inv k d (by rw[hk];exact List.mem_singleton.2 rfl)).1;rw[h1 k Ob,h1 d hdn];exact h.par k d hk}
theorem fP.Ht{S':St}(h:fP C S a w R τ)(h1:∀k,C.nt<=k->S' k=S k)(h2:∀k,k<C.nt->(S' k).2=(S k).2)(h3:∀k,k<C.nt->fo R w τ (S k).1 (S k).2 (τ k)->fo R w τ (S' k).1 (S' k).2 (τ k)):fP C S' a w R τ:={h with core:=h.core.Ht h1 h2 h3}
theorem xR(h:fP C S a w R τ){t:Nat}(ht:t<C.nt):fo R w τ (S t).1 (S t).2 (a.tmps.getD t undef):=by have:=h.core.key t;rw[kY.slot (h.core.slt t ht),<-h.tmps t ht]at this;exact this
theorem Dc(h:fP C S a w R τ){ops:Array Oper}{j t:Nat}{x:Bool}(ht:t<C.nt)(hj:(ops[j]?).bind (·.dst)=BQ t)(hx:a.tmps.getD t undef=.bool x):yielded ops a.tmps j=BQ x:=by have hs:t<a.tmps.size:=by{rw[h.size];exact ht};have e2:a.tmps[t]?=BQ (.bool x):=by{rw[Array.getElem?_eq_getElem hs,<-hx];simp[Array.getD,hs]};simp[yielded,hj,e2]
theorem Kw(h:fP C S a w R τ){ops:Array Oper}{j t:Nat}(ht:t<C.nt)(hj:(ops[j]?).bind (·.dst)=BQ t)(hx:a.tmps.getD t undef=undef):yielded ops a.tmps j=Ku:=by have hs:t<a.tmps.size:=by{rw[h.size];exact ht};have e2:a.tmps[t]?=BQ undef:=by{rw[Array.getElem?_eq_getElem hs,<-hx];simp[Array.getD,hs]};simp[yielded,hj,e2,undef]
theorem DX{nt:Nat}{dst:Option Nat}(h:0<nt)(j j':Nat)(e:DY nt dst j=DY nt dst j'):j=j':=by unfold DY at e;have:(j+1)*nt=(j'+1)*nt:=by{omega};have:=Nat.eq_of_mul_eq_mul_right h this;omega
theorem tH{nt:Nat}{ts:List Nat}{S:St}{k:Nat}(h:k<nt)(hk:k∈ts):mO nt ts S k=((S k).1.bare,(S k).2):=by have h1:Nat.blt k nt=NS:=Nat.ble_eq_true_of_le h;have h2:ts.contains k=NS:=by{simpa using hk};unfold mO;simp only[h1,h2,aX,au]
theorem rQ{nt:Nat}{ts:List Nat}{S:St}{k:Nat}(h:nt<=k\/k∉ts):mO nt ts S k=S k:=by
 unfold mO;cases hb:(Nat.blt k nt&&ts.contains k)with
 |false=>rfl
 |true=>exfalso;simp only[af]at hb;have h1:k+1<=nt:=Nat.le_of_ble_eq_true hb.1;have h2:k∈ts:=by{simpa using hb.2};rcases h with h|h;{omega};{exact h h2}
theorem Lt.mO{nt:Nat}{ts:List Nat}(h:Lt V S):Lt (mO nt ts V) (mO nt ts S):=λk=>by by_cases hk:k<nt/\k∈ts;{rw[tH hk.1 hk.2,tH hk.1 hk.2];exact(h k).imp (λe=>by rw[e]) id};{have:nt<=k\/k∉ts:=by{by_cases h1:k<nt;{exact .inr λh2=>hk ⟨h1,h2⟩};{exact .inl (by omega)}};rw[rQ this,rQ this];exact h k}
theorem y8:∀{l:List (Nat×Cell)}{S S':St}{k:Nat},k∈l.map (·.1)->gi S l k=gi S' l k
 |(j,x)::l,S,S',k,h=>by simp only[gi];by_cases e:k=j;{subst e;rw[cO,cO]};{rw[fH _ _ e,fH _ _ e];rcases aQ.1 h with h|h;{exact(e h).elim};{exact y8 h}}
theorem AP(h:fP C S a w R τ)(hV:Lt V S)(hE:kZ C.P C.E)(hF:∀f,gp C.P C.gl f (C.E.fs f)){d:Nat}{x':Cell}{e0:iN}(hd:o.dst=BQ d)(hl:d<C.nt)(pV:zW C.nt o=NS)(Q4:∀t∈watch o.op,∀q,(V t).1.Nc=BQ q->q=NS)(H4:(watch o.op).all (λt=>!(V t).1.bare.Ma)=NS)(Xz:Dw C.P C.E C.nt (DY C.nt o.dst) (mO C.nt (watch o.op) V) o.type o.op=BQ e0)(Ml:∀p,e0.p=BQ p->p=NS)(N9:∀p∈e0.ws,C.nt<=p.1)(Bj:x'.2=e0.x.2)(hx:∀(R:Reach)(w:World)(τ:Nat->Value)(v:Value),fo R w τ e0.x.1 e0.x.2 v->fo R w τ x'.1 x'.2 v)(hK:∀a' w',yq C (cX (gi S e0.ws) d x') a' w'->K a' w'):o.wp C.P a w K Q:=by
 let S':St:=λk=>if(V k).2=.hid then S k else mO C.nt (watch o.op) S k;have bk:∀k,S' k=S k\/(k<C.nt/\S' k=((S k).1.bare,(S k).2)/\(S k).1.bare.Ma=NT/\∀q,(S k).1.Nc=BQ q->q=NS):=λk=>by{show(if(V k).2=.hid then S k else mO C.nt (watch o.op) S k)=S k\/_;by_cases hh:(V k).2=.hid;{left;rw[ar hh]};by_cases hk:k<C.nt/\k∈watch o.op;{right;have e:=(hV k).resolve_right hh;have hn:=aC.1 H4 k hk.2;refine⟨hk.1,?_,?_,?_⟩;{show(if(V k).2=.hid then S k else mO C.nt (watch o.op) S k)=_;rw[ak hh,tH hk.1 hk.2]};{rw[<-e];simpa using hn};{rw[<-e];exact Q4 k hk.2}};{left;rw[ak hh,rQ];by_cases h1:k<C.nt;{exact .inr λh2=>hk ⟨h1,h2⟩};{exact .inl (by omega)}}};have conv:∀{R:Reach}{w:World}{τ:Nat->Value}k,k<C.nt->(S' k).2=(S k).2/\(fo R w τ (S k).1 (S k).2 (τ k)↔fo R w τ (S' k).1 (S' k).2 (τ k)):=λ{R w τ}k _=>by rcases bk k with e|⟨_,e,h1,h2⟩;{rw[e];exact⟨rfl,Iff.rfl⟩};{rw[e];refine⟨rfl,?_⟩;generalize S k=c at*;obtain⟨x,g⟩:=c;(cases x<;>first|exact Iff.rfl|skip);rename_i q x;have:=h2 q rfl;subst this;exact Hu h1}
 have Uh:fP C S' a w R τ:=h.Ht (λk hk=>by
  rcases bk k with e|⟨h1,_⟩;{exact e}
  ·omega) (λk hk=>(conv (R:=R) (w:=w) (τ:=τ) k hk).1) λk hk=>(conv k hk).2.1
 have X2:Lt (mO C.nt (watch o.op) V) S':=λk=>by{show _=(if(V k).2=.hid then S k else mO C.nt (watch o.op) S k)\/_;by_cases hh:(V k).2=.hid;{right;by_cases hk:k<C.nt/\k∈watch o.op;{rw[tH hk.1 hk.2];exact hh};{rw[rQ];{exact hh};{by_cases h1:k<C.nt;{exact .inr λh2=>hk ⟨h1,h2⟩};{exact .inl (by omega)}}}};{rw[ak hh];exact hV.mO k}};have Oc:=Dv Uh X2 hE Ml hF (λhn=>DX hn) pV Xz;refine Oc K Q λa' w' Ew=>hK _ _ ?_;obtain⟨R2,Fy,Ew⟩:=Ew;rw[hd]at Ew;simp only[kp]at Ew;have put:∀k,gi S e0.ws k=gi S' e0.ws k\/(k<C.nt/\gi S e0.ws k=S k/\gi S' e0.ws k=S' k):=λk=>by{by_cases hk:k<C.nt;{have hn:∀p∈e0.ws,p.1≠k:=λp hp e=>by{have:=N9 p hp;omega};exact .inr ⟨hk,jD hn,jD hn⟩};{left;by_cases hm:k∈e0.ws.map (·.1);{exact y8 hm};{have hn:∀p∈e0.ws,p.1≠k:=λp hp e=>hm (bn.2 ⟨p,hp,e⟩);rw[jD hn,jD hn];rcases bk k with e|⟨h1,_⟩;{exact e.symm};{exact(hk h1).elim}}}};refine⟨R2,Fy,Ew.Ht (λk hk=>?_) (λk hk=>?_) λk hk=>?_⟩;{have hk:C.nt<=k:=hk;have nW:k≠d:=Nat.ne_of_gt (Nat.lt_of_lt_of_le hl hk);rw[fH _ _ nW,fH _ _ nW];rcases put k with e|⟨h1,_⟩;{exact e};{omega}};{by_cases e:k=d;{subst e;rw[cO,cO];exact Bj};{rw[fH _ _ e,fH _ _ e];rcases put k with e|⟨h1,e1,e2⟩;{rw[e]};{rw[e1,e2];exact(conv (R:=R) (w:=w) (τ:=τ) k h1).1.symm}}};{by_cases e:k=d;{subst e;rw[cO,cO];exact hx _ _ _ _};{rw[fH _ _ e,fH _ _ e];rcases put k with e|⟨h1,e1,e2⟩;{rw[e];exact id};{rw[e1,e2];exact(conv k h1).2.2}}}
theorem abw(h:fP C S a w R τ)(hV:Lt V S)(hE:kZ C.P C.E)(hF:∀f,gp C.P C.gl f (C.E.fs f)){ops:Array Oper}(hp:∀p,e.p=BQ p->p=NS)(he:qI C.P C.E C.nt ops o V=BQ e)(hK:∀a' w',yq C (kp S o.dst e) a' w'->K a' w'):if Region.wanted o (yielded ops a.tmps)then o.wp C.P a w K Q\/(o.asks C.P a w/\LetsOut Q)else K (a.put o.dst undef) w:=by
 unfold qI at he;obtain⟨pV,he⟩:=bL.1 he;split at he;{rename_i hg;simp only[Region.wanted,hg,if_true];exact .inl (Dv h hV hE hp hF (λhn=>DX hn) pV he K Q hK)}
 ·rename_i j b hg;split at he
  ·rename_i t hj;split at he
   ·rename_i x hVt;split at he
    ·rename_i c e0 hc Xz;obtain⟨h1,Uc⟩:=bL.1 he;simp only[af]at h1;obtain⟨ht,hds,H4⟩:=h1;have ht:t<C.nt:=Nat.le_of_ble_eq_true ht;obtain⟨d,hd⟩:=Option.isSome_iff_exists.1 hds;have hl:d<C.nt:=by{unfold zW at pV;split at pV;{rename_i Kr;rw[hd]at Kr;cases Kr};{cases pV};{rename_i Kr;rw[hd]at Kr;cases Kr};{rename_i Kr _;rw[hd]at Kr;cases Kr;exact Nat.le_of_ble_eq_true pV};{cases pV}};have Xp:=xR h ht;have hSt:S t=(x,.no):=hV.of hVt;rw[hSt]at Xp;have hw:Region.wanted o (yielded ops a.tmps)=c:=by
      unfold Mu at hc;split at hc;{rename_i y;cases hc;have:=(lM.rep Xp).dW rfl;simp only[Region.wanted,hg,Dc h ht hj this];cases b<;>cases y<;>rfl}
      ·rename_i q y;cases hc;cases q with
       |false=>simp only[Region.wanted,hg,Kw h ht hj Xp];try(cases b<;>cases y<;>rfl)
       |true=>have:Rep R w (.b y) (a.tmps.getD t undef):=Xp;simp only[Region.wanted,hg,Dc h ht hj (this.dW rfl)];cases b<;>cases y<;>rfl
      {cases hc}
     cases hf:C.E.ld.contains (DY C.nt o.dst 1)with
     |true=>
      rw[hf,au]at Uc;unfold MB at Uc;obtain⟨h2,ZY⟩:=bL.1 Uc;cases ZY;have N9:∀p∈e0.ws,C.nt<=p.1:=λp hp=>Nat.le_of_ble_eq_true (aC.1 h2 p hp);have hp:=hp _ rfl;simp only at hp;have GQ:c=NS/\(∀r,xN ((watch o.op).map λt=>(V t).1)=BQ r->r=NS)/\∀p,e0.p=BQ p->p=NS:=by
       cases hq:xN ((watch o.op).map λt=>(V t).1)with
       |none=>
        cases Mp:e0.p with
        |none=>rw[hq,Mp]at hp;exact⟨hp,λr hr=>(by cases hr),λp FC=>(by cases FC)⟩
        |some p0=>rw[hq,Mp]at hp;simp only[af]at hp;exact⟨hp.1,λr hr=>(by cases hr),λp FC=>(by cases FC;exact hp.2)⟩
       |some q0=>
        cases Mp:e0.p with
        |none=>rw[hq,Mp]at hp;simp only[af]at hp;exact⟨hp.1,λr hr=>(by cases hr;exact hp.2),λp FC=>(by cases FC)⟩
        |some p0=>rw[hq,Mp]at hp;simp only[af]at hp;exact⟨hp.1,λr hr=>(by cases hr;exact hp.2.1),λp FC=>(by cases FC;exact hp.2.2)⟩
      obtain⟨Od,zM,SG⟩:=GQ;rw[hw,Od,ar rfl];left;refine AP h hV hE hF hd hl pV (λt ht q hq=>?_) H4 Xz SG N9 rfl (λ_ _ _ _ k=>k) (λa' w' hs=>hK a' w' (by rw[hd];exact hs));have hm:(V t).1∈(watch o.op).map λt=>(V t).1:=List.mem_map_of_mem (f:=λt=>(V t).1) ht;generalize zO:xN ((watch o.op).map λt=>(V t).1)=r at zM;cases r with
      |none=>rw[wV zO _ hm]at hq;cases hq
      |some r=>have:=zM r rfl;subst this;exact BG zO _ hm q hq
     |false=>
      rw[hf,ai]at Uc;unfold KA at Uc;obtain⟨h2,ZY⟩:=bL.1 Uc;cases ZY;simp only[af,Bool.not_eq_true',List.isEmpty_iff]at h2;obtain⟨⟨N9,QR,ZH⟩,ZK⟩:=h2;have hms:∀k∈e0.x.2.dA,C.nt<=k/\(S k).2≠.no:=λk hk=>by{have:=aC.1 ZK k hk;simp only[okM,af]at this;refine⟨Nat.le_of_ble_eq_true this.1,?_⟩;rcases hV k with e|e;{rw[<-e];intro e';rw[e']at this;cases this.2};{rw[e]at this;cases this.2}};rw[hw];cases c with
      |false=>simp only[bq,if_false];rw[hd];refine hK _ _ ?_;rw[hd];exact h.Vf hl (x:=.gd NT e0.x.1) (v:=undef) rfl QR hms
      |true=>
       simp only[if_true];have Q4:∀t∈watch o.op,∀q,(V t).1.Nc=BQ q->q=NS:=by
        intro t ht q hq;have hm:(V t).1∈(watch o.op).map λt=>(V t).1:=List.mem_map_of_mem (f:=λt=>(V t).1) ht;generalize zO:xN ((watch o.op).map λt=>(V t).1)=r at hp;cases r with
        |none=>rw[wV zO _ hm]at hq;cases hq
        |some r=>
         have:r=NS:=by
          cases Mp:e0.p with
          |none=>have:=hp _ (by simp only[Mp];rfl);simpa using this
          |some p=>have:=hp _ (by simp only[Mp];rfl);simp at this;exact this.1
         subst this;exact BG zO _ hm q hq
       have Ml:∀p,e0.p=BQ p->p=NS:=λp Mp=>by
        generalize xN ((watch o.op).map λt=>(V t).1)=r at hp;cases r with
        |none=>have:=hp _ (by simp only[Mp];rfl);simpa using this
        |some r=>have:=hp _ (by simp only[Mp];rfl);simp at this;exact this.2
       left;refine AP h hV hE hF hd hl pV Q4 H4 Xz Ml (by rw[N9];simp) (x':=(.gd NS e0.x.1,e0.x.2)) rfl (λ_ _ _ _ k=>(Hu ZH).2 k) (λa' w' hs=>hK a' w' ?_);rw[hd];simp only[kp,gi];rw[N9]at hs;exact hs
    {cases he}
   {cases he}
  {cases he}
end
def E6{X:Type}{p:Option Bool}{x:Option X}{r:X}(h:PX p x=BQ r):(∀q,p=BQ q->q=NS)/\x=BQ r:=by
 unfold PX at h;split at h;{exact⟨by simp,h⟩}
 ·rename_i p;cases p with
  |true=>exact⟨by rintro q e;cases e;rfl,h⟩
  |false=>cases h
section
variable{L:Nat->Prop}{ops:List Oper}
theorem vG(AE:∀i o,ops[i]?=BQ o->L i->∀e∈xd o,L e):∀(rest pre:List Oper)(acc:List (List Nat)),ops=pre++rest->acc.length=pre.length->
  (∀i o,i<acc.length->ops[i]?=BQ o->(∀e∈xd o,L e)->∀j∈acc.getD i [],L j)->
  ∀i o,ops[i]?=BQ o->(∀e∈xd o,L e)->∀j∈(rest.foldl (λacc o=>acc++[(xd o).flatMap λe=>e::(acc.getD e [])]) acc).getD i [],L j
 |[],pre,acc,e,hl,inv=>by intro i o hi hb j hj;simp only[aM]at e;subst e;have:i<acc.length:=by{rw[hl];exact(aH.1 hi).1};exact inv i o this hi hb j hj
 |r::rest,pre,acc,e,hl,inv=>by simp only[List.foldl_cons];refine vG AE rest (pre++[r]) _ (by simp[e]) (by simp[hl]) ?_;intro i o hi ho hb j hj;by_cases gI:i<acc.length;{rw[aj,List.getElem?_append_left gI,<-aj]at hj;exact inv i o gI ho hb j hj};{have uK:i=acc.length:=by{simp at hi;omega};subst uK;rw[aj,aY (Nat.le_refl _)]at hj;simp only[Nat.sub_self,List.getElem?_cons_zero,Option.getD_some,List.mem_flatMap,aQ]at hj;have hr:o=r:=by{rw[e,hl,aY (Nat.le_refl _)]at ho;simpa using ho.symm};subst hr;obtain⟨x,hx,rfl|hj⟩:=hj;{exact hb _ hx};{by_cases Xl:x<acc.length;{have hxo:x<ops.length:=by{rw[e];simp;omega};exact inv x _ Xl (aw hxo) (AE x _ (aw hxo) (hb x hx)) j hj};{simp[List.getD,List.getElem?_eq_none (Nat.le_of_not_lt Xl)]at hj}}}
theorem Ad(AE:∀i o,ops[i]?=BQ o->L i->∀e∈xd o,L e){i:Nat}{o:Oper}(hi:ops[i]?=BQ o)(hb:∀e∈xd o,L e):∀j∈(qt ops).getD i [],L j:=vG AE ops [] [] rfl rfl (λ_ _ h=>by simp at h) i o hi hb
theorem He(Ub:yj ops=NS){i j:Nat}{o:Oper}(hi:ops[i]?=BQ o)(hj:j∈(qt ops).getD i []):j<i:=by have hb:∀k p,ops[k]?=BQ p->∀e∈xd p,e<k:=λk p hk e he=>by{have hm:(p,k)∈ops.zipIdx:=List.mem_zipIdx_iff_getElem?.2 (by simpa using hk);have:=aC.1 (aC.1 Ub _ hm) e he;simpa using this};exact Ad (L:=λk=>k<i) (λk p hk hl e he=>Nat.lt_trans (hb k p hk e he) hl) hi (hb i o hi) j hj
end
def Ok{A:Type}{l:List A}{p:A×Nat->Bool}(h:l.zipIdx.all p=NS){i:Nat}{x:A}(hi:l[i]?=BQ x):p (x,i)=NS:=aC.1 h _ (List.mem_zipIdx_iff_getElem?.2 (by simpa using hi))
theorem EE(l:Array Bool)(i x:Nat)(d:Bool):(l.setIfInBounds i NS).getD x d=if i=x then(if i<l.size then NS else d)else l.getD x d:=by simp only[Array.getD_eq_getD_getElem?,Array.getElem?_setIfInBounds];split;{split<;>rfl};{rfl}
def gX(n:Nat)(listed:Array Bool):List Nat:=(List.range n).filter λi=>!listed.getD i NS
def DP{n i:Nat}{listed:Array Bool}(hs:listed.size=n)(hi:i<n):gX n (listed.setIfInBounds i NS)=(gX n listed).filter (λj=>oG (j≠i)):=by simp only[gX,List.filter_filter];apply List.filter_congr;intro j hj;have hj:j<n:=by{simpa using hj};by_cases h:j=i;{subst h;simp[Array.getD,hs,hi]};{have:i≠j:=λe=>h e.symm;simp[Array.getD,hs,hj,Array.getElem_setIfInBounds,h,this]}
def zp{listed:Array Bool}{n i:Nat}(hs:listed.size=n)(hi:i<n):listed.getD i NS=listed.getD i NT:=by simp[Array.getD,hs,hi]
theorem wS(S:St)(d:Option Nat)(e:iN):kp S d e=gi S (d.toList.map (λd=>(d,e.x))++e.ws):=by cases d<;>rfl
theorem En(d:Option Nat)(e:iN):(d.toList.map (λd=>(d,e.x))++e.ws).map (·.1)=np d e:=by unfold np;cases d<;>simp
def oE{S:St}{d:Option Nat}{e:iN}{k:Nat}(h:k∉np d e):kp S d e k=S k:=by rw[wS];refine jD λp hp ep=>h ?_;rw[<-En];exact bn.2 ⟨p,hp,ep⟩
def Ig{S S':St}{d:Option Nat}{e:iN}{k:Nat}(h:k∈np d e):kp S d e k=kp S' d e k:=by rw[wS,wS];exact y8 (by rw[En];exact h)
def J0{S:St}{d d':Option Nat}{e e':iN}(h:∀k∈np d e,k∉np d' e'):kp (kp S d e) d' e'=kp (kp S d' e') d e:=by funext k;by_cases h1:k∈np d e;{rw[oE (h k h1),Ig (S':=kp S d' e') h1]};{by_cases h2:k∈np d' e';{rw[oE (S:=kp S d' e') h1,Ig (S':=S) h2]};{rw[oE h2,oE h1,oE h1,oE h2]}}
section
variable{C:Ctx}{Q:Exit->Act->World->Prop}
theorem fP.drew{S:St}{a:Act}{w:World}{R:Reach}{τ:Nat->Value}(h:fP C S a w R τ):fP C S a {w with drawn:=w.drawn+1} R τ:=by have eC:fq R w R {w with drawn:=w.drawn+1}:=λb o hr=>⟨hr,rfl⟩;refine⟨h.size,h.defers,h.core.step (λ_=>False) eC (λ_ _=>⟨rfl,rfl⟩) (λ_ _ _ _=>⟨rfl,λ_=>id⟩) (λ_=>False.elim) (λ_=>False.elim) (λ_=>False.elim) (λ_=>False.elim) (λ_=>False.elim) (λ_ _=>False.elim) (λ_=>id) (λ_=>False.elim) h.core.vK (λ_=>False.elim),h.tmps,h.io,?_,h.gl.eC eC⟩;exact h.ext.trans (io':=C.io) ⟨rfl,rfl,rfl,Nat.le_refl _,λ_ _ _=>rfl,eC,λb o hr=>.inl hr⟩ λb hb=>.inl hb
theorem HR(hE:kZ C.P C.E)(hF:∀f,gp C.P C.gl f (C.E.fs f)){X:Type}{ops:Array Oper}:∀{os:List Oper}{S:St}{a:Act}{w:World}{K:St->Option X}{r:X},yq C S a w->I0 C.P C.E C.nt ops os S K=BQ r->(∀S' a' w',yq C S' a' w'->K S'=BQ r->Q .normal a' w')->wpList C.P ops Q os a w
 |[],S,a,w,K,r,h,hr,hQ=>hQ _ _ _ h hr
 |o::os,S,a,w,K,r,⟨R,τ,h⟩,hr,hQ=>by rw[IZ]at hr;split at hr;{rename_i e he;obtain⟨hp,hr⟩:=E6 hr;unfold wpList;exact abw h (Lt.refl S) hE hF hp he λa' w' h'=>HR hE hF h' hr hQ};{cases hr}
structure T0 (C:Ctx) (ops:Array Oper) (l:List (St×iN)):Prop where
 step:∀(i:Nat)(o:Oper)(V:St)(e:iN),ops.toList[i]?=BQ o->l[i]?=BQ (V,e)->qI C.P C.E C.nt ops o V=BQ e/\∀p,e.p=BQ p->p=NS
 off:∀(i j:Nat)(o o':Oper)(V V':St)(e e':iN),i≠j->ops.toList[i]?=BQ o->ops.toList[j]?=BQ o'->l[i]?=BQ (V,e)->l[j]?=BQ (V',e')->j∉(qt ops.toList).getD i []->i∉(qt ops.toList).getD j []->
  ∀k∈np o'.dst e',(V k).2=.hid/\k∉np o.dst e
def Rn(ops:Array Oper)(l:List (St×iN)):List Nat->St->St->Prop
 |[],S,S'=>S'=S
 |i::r,S,S'=>∃V e o,ops.toList[i]?=BQ o/\l[i]?=BQ (V,e)/\Lt V S/\Rn ops l r (kp S o.dst e) S'
theorem Lt.Ra{V S:St}{d:Option Nat}{e:iN}(h:∀k∈np d e,(V k).2=.hid):Lt V S↔Lt V (kp S d e):=by constructor;{intro hl k;by_cases hk:k∈np d e;{exact .inr (h k hk)};{rw[oE hk];exact hl k}};{intro hl k;by_cases hk:k∈np d e;{exact .inr (h k hk)};{have:=hl k;rwa[oE hk]at this}}
theorem Rn.front{ops:Array Oper}{l:List (St×iN)}(hp:T0 C ops l){i:Nat}{B:List Nat}:∀{A:List Nat}{S S':St},Rn ops l (A++i::B) S S'->(∀j∈A,j≠i/\j∉(qt ops.toList).getD i []/\i∉(qt ops.toList).getD j [])->Rn ops l (i::(A++B)) S S'
 |[],_,_,h,_=>h
 |j::A,S,S',⟨V,e,o,h1,h2,h3,h4⟩,hA=>by obtain⟨V',e',o',k1,k2,k3,k4⟩:=Rn.front hp h4 λx hx=>hA x (List.mem_cons_of_mem _ hx);obtain⟨nW,ha,hb⟩:=hA j (List.mem_cons_self ..);have o1:=hp.off j i o o' V V' e e' nW h1 k1 h2 k2 hb ha;have o2:=hp.off i j o' o V' V e' e (Ne.symm nW) k1 h1 k2 h2 ha hb;refine⟨V',e',o',k1,k2,(Lt.Ra λk hk=>(o2 k hk).1).2 k3,V,e,o,h1,h2,(Lt.Ra λk hk=>(o1 k hk).1).1 h3,?_⟩;rwa[J0 λk hk=>(o1 k hk).2]
def Ch:List Oper->List (St×iN)->St->St->Prop
 |[],[],S,S'=>S'=S
 |o::os,(V,e)::l,S,S'=>Lt V S/\Ch os l (kp S o.dst e) S'
 |_,_,_,_=>False
theorem Ch.rn{ops:Array Oper}{l:List (St×iN)}:∀(n i:Nat){S S':St},ops.toList.length=i+n->Ch (ops.toList.drop i) (l.drop i) S S'->Rn ops l (List.range' i n) S S'
 |0,i,S,S',hn,h=>by
  rw[List.drop_eq_nil_of_le (by omega)]at h;cases hl:l.drop i with
  |nil=>rw[hl]at h;exact h
  |cons p r=>rw[hl]at h;cases h
 |n+1,i,S,S',hn,h=>by
  have hi:i<ops.toList.length:=by{omega};rw[List.drop_eq_getElem_cons hi]at h;cases hl:l.drop i with
  |nil=>rw[hl]at h;cases h
  |cons p r=>obtain⟨V,e⟩:=p;rw[hl]at h;obtain⟨h1,h2⟩:=h;have hg:l[i]?=BQ (V,e):=by{have:(l.drop i)[0]?=BQ (V,e):=by{rw[hl];rfl};rwa[List.getElem?_drop,Nat.add_zero]at this};have hr:l.drop (i+1)=r:=by{rw[<-List.drop_drop,hl];rfl};exact⟨V,e,_,aw hi,hg,h1,Ch.rn n (i+1) (by omega) (by rw[hr];exact h2)⟩
theorem LL(ds:List Nat)(S:St):Lt (tV ds S) S:=λk=>by
 unfold tV;cases ds.contains k with
 |true=>exact .inr rfl
 |false=>exact .inl rfl
theorem Jq{ds:List Nat}{S:St}{k:Nat}(h:k∈ds):(tV ds S k).2=.hid:=by unfold tV;have:ds.contains k=NS:=by{simpa using h};rw[this];rfl
theorem Hx{X:Type}{ops:Array Oper}{W B:List (List Nat)}{K:St->Option X}{r:X}:∀{os:List Oper}{i:Nat}{S:St},I2 C.P C.E C.nt ops W B i os S K=BQ r->
  ∃l S',l.length=os.length/\Ch os l S S'/\K S'=BQ r/\∀(n:Nat)(o:Oper)(V:St)(e:iN),os[n]?=BQ o->l[n]?=BQ (V,e)->(∃S0,V=tV (wy W B (i+n)) S0)/\qI C.P C.E C.nt ops o V=BQ e/\(∀p,e.p=BQ p->p=NS)/\np o.dst e=W.getD (i+n) []/\∀k∈wy W B (i+n),k∉W.getD (i+n) []
 |[],i,S,h=>⟨[],S,rfl,rfl,h,by simp⟩
 |o::os,i,S,h=>by
  rw[I1]at h;split at h
  ·rename_i e he;obtain⟨h1,h2⟩:=bL.1 h;obtain⟨hp,h3⟩:=E6 h2;obtain⟨l,S',k1,k2,k3,k4⟩:=Hx h3;simp only[af,aD]at h1;refine⟨(tV (wy W B i) S,e)::l,S',by simp[k1],⟨LL _ _,k2⟩,k3,λn o' V e' hn hl=>?_⟩;cases n with
   |zero=>cases hn;cases hl;refine⟨⟨S,rfl⟩,he,hp,h1.1,λk hk=>?_⟩;have:=aC.1 h1.2 k hk;simpa using this
   |succ n=>have:=k4 n o' V e' (by simpa using hn) (by simpa using hl);rwa[show i+1+n=i+(n+1) by omega]at this
  {cases h}
theorem TP(hE:kZ C.P C.E)(hF:∀f,gp C.P C.gl f (C.E.fs f)){ops:Array Oper}{l:List (St×iN)}(hlen:l.length=ops.size)(C5:T0 C ops l)(Ub:yj ops.toList=NS){S':St}(hQ:∀a' w',yq C S' a' w'->Q .normal a' w'):∀(fuel:Nat){listed:Array Bool}{S:St}{a:Act}{w:World},yq C S a w->listed.size=ops.size->(∀i o,ops.toList[i]?=BQ o->listed.getD i NT=NS->∀e∈xd o,listed.getD e NT=NS)->(gX ops.size listed).length<=fuel->Rn ops l (gX ops.size listed) S S'->wpAny C.P .any ops Q fuel listed a w:=by
 have ZG:∀{listed:Array Bool},listed.size=ops.size->Region.ready .any ops listed=[]->gX ops.size listed=[]:=by
  intro listed hs hr;cases Mi:gX ops.size listed with
  |nil=>rfl
  |cons i rest=>
   exfalso;have wM:i∈gX ops.size listed:=by{rw[Mi];exact List.mem_cons_self ..};have QV:=wM;simp only[gX,List.mem_filter,List.mem_range,Bool.not_eq_true']at QV;obtain⟨hi,hl⟩:=QV;have Eu:(gX ops.size listed).Pairwise (· <·):=List.Pairwise.filter _ List.pairwise_lt_range;have Px:ops.toList[i]?=BQ ops[i]:=by{simp[hi]};have hb:=Ok Ub Px;have:i∈Region.ready .any ops listed:=by
    simp only[Region.ready,List.mem_filter,List.mem_range];refine⟨hi,?_⟩;simp only[hl,aJ,Bool.true_and,Array.getElem?_eq_getElem hi,Option.map_some,Option.getD_some,Array.all_eq_true_iff_forall_mem,Bool.or_eq_true,Bool.not_eq_true'];intro e he;cases V3:Region.binds .any e with
    |false=>exact .inl rfl
    |true=>
     right;have gI:e.on<i:=by{have:e.on∈xd ops[i]:=bn.2 ⟨e,List.mem_filter.2 ⟨by simpa using he,V3⟩,rfl⟩;have oZ:=aC.1 hb _ this;simpa using oZ};cases hle:listed.getD e.on NT with
     |true=>rfl
     |false=>have Kp:e.on∈gX ops.size listed:=by{simp only[gX,List.mem_filter,List.mem_range,Bool.not_eq_true'];exact⟨by omega,by rw[zp hs (by omega)];exact hle⟩};rw[Mi]at Kp Eu;rcases aQ.1 Kp with h|h;{omega};{have:=(List.pairwise_cons.1 Eu).1 _ h;omega}
   rw[hr]at this;cases this
 intro fuel;induction fuel with
 |zero=>
  intro listed S a w h hs Cz hf hr;have h0:gX ops.size listed=[]:=by{simpa using hf};rw[h0]at hr;cases hr;refine⟨?_,hQ _ _ h⟩;cases Mj:Region.ready .any ops listed with
  |nil=>rfl
  |cons i rest=>have:i∈Region.ready .any ops listed:=by{rw[Mj];exact List.mem_cons_self ..};simp only[Region.ready,List.mem_filter,List.mem_range,af]at this;have h1:i∈gX ops.size listed:=by{simp only[gX,List.mem_filter,List.mem_range];exact⟨this.1,this.2.1⟩};rw[h0]at h1;cases h1
 |succ fuel ih=>
  intro listed S a w h hs Cz hf hr;refine⟨λMj=>?_,λi hi=>?_⟩;{rw[ZG hs Mj]at hr;cases hr;exact hQ _ _ h}
  ·simp only[Region.ready,List.mem_filter,List.mem_range,af]at hi;obtain⟨Kp,ZT,hib⟩:=hi;have VR:i∈gX ops.size listed:=by{simp only[gX,List.mem_filter,List.mem_range];exact⟨Kp,ZT⟩};have Px:ops.toList[i]?=BQ ops[i]:=by{simp[Kp]};simp only[Array.getElem?_eq_getElem Kp,Option.map_some,Option.getD_some,Array.all_eq_true_iff_forall_mem,Bool.or_eq_true,Bool.not_eq_true']at hib;have CA:∀e∈xd ops[i],listed.getD e NT=NS:=by{intro e he;simp only[xd,bn,List.mem_filter]at he;obtain⟨x,⟨hx,hb⟩,rfl⟩:=he;rcases hib x (by simpa using hx)with h|h;{rw[hb]at h;cases h};{exact h}};obtain⟨A,B,S7⟩:=List.append_of_mem VR;have Eu:(gX ops.size listed).Pairwise (· <·):=List.Pairwise.filter _ List.pairwise_lt_range;rw[S7,List.pairwise_append]at Eu;obtain⟨-,hB,hA⟩:=Eu;have hAi:∀j∈A,j<i:=λj hj=>hA j hj i (List.mem_cons_self ..);have hBi:∀j∈B,i<j:=λj hj=>(List.pairwise_cons.1 hB).1 j hj;rw[S7]at hr;have SW:=hr.front C5 (λj hj=>by
    have ZS:=hAi j hj;have VQ:j∈gX ops.size listed:=by{rw[S7];exact List.mem_append_left _ hj};simp only[gX,List.mem_filter,List.mem_range,Bool.not_eq_true']at VQ;refine⟨by omega,λhb=>?_,λhb=>?_⟩;{have h3:=Ad (L:=λe=>listed.getD e NT=NS) Cz Px CA j hb;rw[zp hs VQ.1,h3]at VQ;cases VQ.2}
    ·have hjo:ops.toList[j]?=BQ ops[j]:=by{simp[VQ.1]};have:=He Ub hjo hb;omega)
   obtain⟨V,e,o,k1,k2,k3,k4⟩:=SW;rw[Px]at k1;cases k1;obtain⟨s1,s2⟩:=C5.step i _ V e Px k2;obtain⟨R,τ,h⟩:=h;simp only[wpOp,Array.getElem?_eq_getElem Kp];refine abw h k3 hE hF s2 s1 λa' w' h'=>?_;have hrs:gX ops.size (listed.setIfInBounds i NS)=A++B:=by{rw[DP hs Kp,S7,List.filter_append,List.filter_cons];simp only[ne_eq,not_true_eq_false,decide_false,bq,if_false];rw[List.filter_eq_self.2 (λj hj=>by have:=hAi j hj;simp;omega),List.filter_eq_self.2 (λj hj=>by have:=hBi j hj;simp;omega)]};refine ih h' (by simp[hs]) ?_ ?_ ?_;{intro j o hj Xv e he;have JG:∀x,listed.getD x NT=NS->(listed.setIfInBounds i NS).getD x NT=NS:=by{intro x hx;rw[EE];split;{rename_i Ua;subst Ua;rw[ar (by rw[hs];exact Kp)]};{exact hx}};by_cases ZS:j=i;{subst ZS;rw[Px]at hj;cases hj;exact JG _ (CA e he)};{refine JG _ (Cz j o hj ?_ e he);have hij:i≠j:=λe=>ZS e.symm;rw[EE,ak hij]at Xv;exact Xv}};{rw[hrs];rw[S7]at hf;simp at hf⊢;omega};{rw[hrs];exact k4}
theorem I8(hE:kZ C.P C.E)(hF:∀f,gp C.P C.gl f (C.E.fs f)){X:Type}{id:Nat}{ops:Array Oper}{draw:Bool}{S:St}{a:Act}{w:World}{K:St->Option X}{r:X}(h:yq C S a w)(hr:B7 C.P C.E C.nt ops draw S K=BQ r)(hQ:∀S' a' w',yq C S' a' w'->K S'=BQ r->Q .normal a' w'):(Code.region id ops draw).wp C.P Q a w:=by
 cases draw with
 |false=>exact wp_region_list (HR hE hF h hr hQ)
 |true=>
  simp only[B7]at hr;obtain⟨Ub,hr⟩:=bL.1 hr;split at hr
  ·rename_i W _;obtain⟨l,S',k1,k2,k3,k4⟩:=Hx hr;simp only[Nat.zero_add]at k4;have hlen:l.length=ops.size:=by{simpa using k1};have C5:T0 C ops l:=⟨λi o V e ho hl=>⟨(k4 i o V e ho hl).2.1,(k4 i o V e ho hl).2.2.1⟩,λi j o o' V V' e e' nW ho ho' hl VO hj hi k hk=>by
    obtain⟨⟨S0,rfl⟩,_,_,a1,a2⟩:=k4 i o V e ho hl;obtain⟨_,_,_,b1,_⟩:=k4 j o' V' e' ho' VO;rw[b1]at hk;have Kp:k∈wy W (qt ops.toList) i:=by
     unfold wy;rcases Nat.lt_or_ge j W.length with gI|Mn
     ·refine List.mem_flatMap.2 ⟨(W[j],j),List.mem_filter.2 ⟨List.mem_zipIdx_iff_getElem?.2 (by simp[aw gI]),?_⟩,?_⟩
      ·have e1:Nat.beq j i=NT:=by
        cases hb:Nat.beq j i with
        |false=>rfl
        |true=>exact(nW (aB hb).symm).elim
       simp only[e1,aJ,Bool.true_and,af,Bool.not_eq_true'];exact⟨by simpa using hj,by simpa using hi⟩
      {rwa[aj,aw gI]at hk}
     {rw[aj,List.getElem?_eq_none Mn]at hk;cases hk}
    exact⟨Jq Kp,by rw[a1];exact a2 k Kp⟩⟩
   have Mi:gX ops.size (Array.replicate ops.size NT)=List.range ops.size:=by{simp only[gX];apply List.filter_eq_self.2;intro i hi;have hi:i<ops.size:=by{simpa using hi};simp[Array.getD,hi]};obtain⟨R,τ,h⟩:=h;refine wp_region_any hE.mixed (TP hE hF hlen C5 Ub (λa' w' h'=>hQ S' a' w' h' k3) ops.size ⟨R,τ,h.drew⟩ (by simp) ?_ (by rw[Mi];simp) ?_);{intro i o _ hl;exfalso;by_cases hi:i<ops.size<;>simp[Array.getD,hi]at hl};{rw[Mi,List.range_eq_range'];exact Ch.rn ops.size 0 (by simp) (by simpa using k2)}
  {cases hr}
end
theorem EY:∀{l:List Nat}{i j k:Nat},pY l=NS->l[i]?=BQ k->l[j]?=BQ k->i=j
 |x::l,0,0,k,_,_,_=>rfl
 |x::l,0,j+1,k,h,h1,h2=>by have e:x=k:=by{simpa using h1};subst e;simp only[pY,af,aC]at h;have:=h.1 x (aP (by simpa using h2));simp at this
 |x::l,i+1,0,k,h,h1,h2=>by have e:x=k:=by{simpa using h2};subst e;simp only[pY,af,aC]at h;have:=h.1 x (aP (by simpa using h1));simp at this
 |x::l,i+1,j+1,k,h,h1,h2=>by simp only[pY,af]at h;exact congrArg (· +1) (EY (k:=k) h.2 (by simpa using h1) (by simpa using h2))
theorem pr:∀{G:GL}{xs:List TV}(k:Nat),hO G xs k=(.dead,.no)\/∃(i:Nat)(g:Gh)(x:TV),G[i]?=BQ (k,g)/\xs[i]?=BQ x/\hO G xs k=(x,g)
 |[],_,_=>.inl rfl
 |_::_,[],_=>.inl rfl
 |(j,g)::G,x::xs,k=>by
  simp only[hO];cases hb:Nat.beq k j with
  |true=>exact .inr ⟨0,g,x,by rw[aB hb];rfl,rfl,rfl⟩
  |false=>rcases pr (G:=G) (xs:=xs) k with h|⟨i,g',x',h1,h2,h3⟩;{exact .inl h};{exact .inr ⟨i+1,g',x',by simpa using h1,by simpa using h2,h3⟩}
theorem vt:∀{G:GL}{xs:List TV}{i k:Nat}{g:Gh}{x:TV},pY (G.map (·.1))=NS->G[i]?=BQ (k,g)->xs[i]?=BQ x->hO G xs k=(x,g)
 |(j,g)::G,x::xs,0,k,_,_,_,h1,h2=>by simp_all[hO]
 |(j,g)::G,x::xs,i+1,k,_,_,hd,h1,h2=>by simp only[bf,pY,af,aC]at hd;have hm:k∈G.map (·.1):=bn.2 ⟨_,aP (by simpa using h1),rfl⟩;have:=hd.1 k hm;simp at this;simp only[hO,this];exact vt hd.2 (by simpa using h1) (by simpa using h2)
def vw{ts us:List (Nat×Nat)}{p:Nat×Nat}(h:p∈us.filter λu=>(pX u.1 ts).isNone):p∈us:=(List.mem_filter.1 h).1
theorem dR.DT{R:Reach}{w:World}:∀{ts:List (Nat×Nat)}{xs:List TV}{ys:List Value},dR R w xs ys->dR R w (DT ts xs) ys
 |[],_,_,h=>h
 |t::ts,xs,ys,h=>by exact dR.DT (ts:=ts) (h.set λy _=>.pt y)
section
variable{nt:Nat}{R R':Reach}{w:World}{eG:Nat->Prop}{τ:Nat->Value}{S S1:St}{G:GL}{ρ:List (Nat×Option Nat)}
def Fact(nt:Nat)(w:World)(τ:Nat->Value)(S:St)(ρ:List (Nat×Option Nat))(W:List (Nat×Cell))(R:Reach)(p:Nat×Gh)(x:TV):Prop:=
 match p.2 with
 |.no=>p.1<nt/\Rep R w x (τ p.1)
 |.fF _=>p.1<nt/\x=.pt/\((∃j,S p.1=(.pt,.fF j))\/∃t,S p.1=(.nl t,.no))
 |.ptr m o=>p.1<nt/\x=.pt/\S p.1=(.pt,.ptr m o)
 |.cl ts=>nt<=p.1/\∃cs us b ys e zs,S p.1=(.ag cs,.cl us)/\τ p.1=.pointer (BQ ⟨b,0,Ku⟩)/\w.heap[b]?=BQ (.cells ⟨ys⟩ e (0,0))/\x=.ag zs/\dR R w zs ys/\dR R w cs ys/\(∀t∈us,ys[t.1]?=BQ (τ t.2))/\∀t∈ts,(pX t.1 us).isSome=NS\/∃y,cs[t.1]?=BQ (.nl y)
 |.pv=>nt<=p.1/\((∃j,lW ρ p.1=BQ j/\S j=(x,.pv))\/(lW ρ p.1=Ku/\∃t,x=.sl t []))
 |.lv=>nt<=p.1/\((∃j,lW ρ p.1=BQ j/\(S j=(x,.lv)\/(S j=(x,.pv)/\(j,(x,.lv))∈W)))\/(lW ρ p.1=Ku/\∃t,x=.sl t []))
 |_=>False
theorem Fact.mono{W W':List (Nat×Cell)}{p:Nat×Gh}{x:TV}(h:Fact nt w τ S ρ W R p x)(k:fq R w R' w)(hw:∀q∈W,q∈W'):Fact nt w τ S ρ W' R' p x:=by unfold Fact at h⊢;split at h;{exact⟨h.1,h.2.mono k⟩};{exact h};{exact h};{obtain⟨h0,cs,us,b,ys,e,zs,h1,h2,h3,h4,h5,h6,h7,h8⟩:=h;exact⟨h0,cs,us,b,ys,e,zs,h1,h2,h3,h4,h5.mono k,h6.mono k,h7,h8⟩};{exact h};{grind};{exact h.elim}
def Ut(nt:Nat)(ws:List (Nat×Cell)):Prop:=∀p∈ws,p.2.2=.lv
theorem GY{V:St}{c:Cell}{x:TV}{ws:List (Nat×Cell)}(h:H9 V c=BQ (x,ws)):Ut nt ws:=by intro p hp;unfold H9 at h;split at h;{grind};{simp_all};{cases h}
theorem vv{V:St}{o n:Nat}:∀{ts:List (Nat×Nat)}{cs ds:List TV}{ws:List (Nat×Cell)},qV V o n ts cs=BQ (ds,ws)->Ut nt ws
 |[],_,_,_,h=>by cases h;intro p hp;cases hp
 |(c,k)::ts,cs,ds,ws,h=>by
  simp only[qV]at h;split at h
  ·rename_i CS WY h1;cases hb:(Nat.ble o c&&Nat.blt c (o+n))with
   |true=>rw[hb,au]at h;split at h;{rename_i h2;cases h;intro p hp;rcases List.mem_append.1 hp with hp|hp;{exact GY (nt:=nt) h2 p hp};{exact vv h1 p hp}};{cases h}
   |false=>rw[hb,ai]at h;cases h;exact vv h1
  {cases h}
theorem Te{V:St}{c:Cell}{x:TV}{ws:List (Nat×Cell)}(h:EH V c=BQ (x,ws)):Ut nt ws:=by unfold EH at h;split at h;{split at h;{grind[vv]};{cases h}};{exact GY h}
theorem On(h:Core nt R w eG τ S1)(hV:Lq S S1)(hS:∀k,k<nt->fo R w τ (S k).1 (S k).2 (τ k)/\∀m∈(S k).2.dA,nt<=m)(hj:∀k j,lW ρ k=BQ j->nt<=k->nt<=j){p:Nat×Gh}{x:TV}{ws:List (Nat×Cell)}(he:FT nt S G ρ p=BQ (x,ws)):∃R',Core nt R' w eG τ (gi S1 ws)/\Fz eG R w R'/\Fact nt w τ S ρ ws R' p x/\Lq S (gi S1 ws)/\Ut nt ws:=by
 obtain⟨k,g⟩:=p;have R9:Ut nt []:=λp hp=>by{cases hp};unfold FT at he;(cases g<;>simp only at he⊢<;>try(cases he;done));case no=>
  obtain⟨h1,h2⟩:=bL.1 he
  have hk:k<nt:=Nat.le_of_ble_eq_true h1
  obtain⟨a,b⟩:=hS k hk
  obtain⟨R',k1,k2,k3,k4⟩:=CH h hV a b h2
  exact⟨R',k1,k2,⟨hk,k3⟩,k4,Te h2⟩
 case fF i=>
  obtain⟨h1,h2⟩:=bL.1 he
  have hk:k<nt:=Nat.le_of_ble_eq_true h1
  split at h2<;>cases h2
  {exact⟨R,h,Fz.refl _ _ _,⟨hk,rfl,.inl ⟨_,by assumption⟩⟩,hV,R9⟩}
  {exact⟨R,h,Fz.refl _ _ _,⟨hk,rfl,.inr ⟨_,by assumption⟩⟩,hV,R9⟩}
 case ptr m o=>
  obtain⟨h1,h2⟩:=bL.1 he
  have hk:k<nt:=Nat.le_of_ble_eq_true h1
  split at h2
  {rename_i e;obtain⟨h3,h4⟩:=bL.1 h2;cases h4;simp only[af]at h3;rw[aB h3.1,aB h3.2]at e;exact⟨R,h,Fz.refl _ _ _,⟨hk,rfl,e⟩,hV,R9⟩}
  {cases h2}
 case cl ts=>
  obtain⟨h1,h2⟩:=bL.1 he
  have hk:nt<=k:=Nat.le_of_ble_eq_true h1
  split at h2
  {rename_i cs us e;obtain⟨h3,h4⟩:=bL.1 h2;split at h4;{rename_i CS WY hf;cases h4;have e1:S1 k=(.ag cs,.cl us):=by{rcases hV k with e'|e'|⟨e',_⟩;{rw[<-e',e]};{simp_all};{simp_all}};have hK:=h.key k;rw[e1]at hK;obtain⟨b,ys,el,xs,a1,a2,a3,a4,a5,a6⟩:=hK;cases a3;obtain⟨R',f1,f2,f3,f4,_⟩:=qU h hV a4 (λt ht=>⟨by have:=h.inv k t.2;rw[e1]at this;exact(this (List.mem_map_of_mem (f:=(·.2)) (vw ht))).1,a5 t (vw ht)⟩) hf;refine⟨R',f1,f2,⟨hk,cs,us,b,ys,el,_,e,a1,a2,rfl,dR.DT (sE f3),a4.mono f2.1,a5,λt ht=>?_⟩,f4,vv hf⟩;have:=aC.1 h3 t ht;rcases Bool.or_eq_true _ _▸this with h|h;{exact .inl h};{right;unfold Vw at h;split at h;{simp_all};{cases h}}};{cases h4}}
  {cases h2}
 case pv=>
  obtain⟨h1,h2⟩:=bL.1 he
  have hk:nt<=k:=Nat.le_of_ble_eq_true h1
  split at h2
  {rename_i j xB;split at h2<;>cases h2;exact⟨R,h,Fz.refl _ _ _,⟨hk,.inl ⟨j,xB,by assumption⟩⟩,hV,R9⟩}
  {rename_i xB;rw[aU]at h2;obtain⟨t,_,h2⟩:=h2;cases h2;exact⟨R,h,Fz.refl _ _ _,⟨hk,.inr ⟨xB,t,rfl⟩⟩,hV,R9⟩}
 case lv=>
  obtain⟨h1,h2⟩:=bL.1 he
  have hk:nt<=k:=Nat.le_of_ble_eq_true h1
  split at h2
  {rename_i j xB;have hnj:=hj k j xB hk;split at h2<;>cases h2;{rename_i e;have hf:H9 S (.pt,.fF j)=BQ (x,[(j,(x,.lv))]):=by{simp_all[H9]};obtain⟨R',k1,k2,_,k4,_,_⟩:=GX h hV hnj hf;exact⟨R',k1,k2,⟨hk,.inl ⟨j,xB,.inr ⟨e,List.mem_singleton.2 rfl⟩⟩⟩,k4,GY hf⟩};{exact⟨R,h,Fz.refl _ _ _,⟨hk,.inl ⟨j,xB,.inl (by assumption)⟩⟩,hV,R9⟩}}
  {rename_i xB;rw[aU]at h2;obtain⟨t,_,h2⟩:=h2;cases h2;exact⟨R,h,Fz.refl _ _ _,⟨hk,.inr ⟨xB,t,rfl⟩⟩,hV,R9⟩}
theorem Di(V7:Core nt R w eG τ S)(hj:∀k j,lW ρ k=BQ j->nt<=k->nt<=j):∀{l:GL}{xs:List TV}{ws:List (Nat×Cell)},xk nt S G ρ l=BQ (xs,ws)->
  ∃R',Core nt R' w eG τ (gi S ws)/\Fz eG R w R'/\xs.length=l.length/\(∀(i:Nat)(p:Nat×Gh)(x:TV),l[i]?=BQ p->xs[i]?=BQ x->Fact nt w τ S ρ ws R' p x)/\Lq S (gi S ws)/\Ut nt ws
 |[],_,_,h=>by cases h;exact⟨R,V7,Fz.refl _ _ _,rfl,by simp,(λk=>.inl rfl),λp hp=>by cases hp⟩
 |p::l,xs,ws,h=>by
  simp only[xk]at h;split at h
  ·rename_i x WY h1;split at h
   ·rename_i N5 us h2;cases h;obtain⟨R1,k1,k2,k3,k4,k5,k6⟩:=Di V7 hj h2;obtain⟨R2,m1,m2,m3,m4,m5⟩:=On k1 k5 (λk hk=>by have hs:=V7.slt k hk;have hK:=V7.key k;rw[kY.slot hs]at hK;exact⟨hK.eC k2.1 λ_ _=>rfl,λm hm=>(V7.inv k m hm).1⟩) hj h1;rw[lV];refine⟨R2,m1,k2.trans m2,by simp[k3],λi p' x' hi hx=>?_,m4,λq hq=>?_⟩
    ·cases i with
     |zero=>cases hi;cases hx;exact m3.mono (fq.refl _ _) λq hq=>List.mem_append_left _ hq
     |succ i=>exact(k4 i p' x' (by simpa using hi) (by simpa using hx)).mono m2.1 λq hq=>List.mem_append_right _ hq
    {rcases List.mem_append.1 hq with hq|hq;{exact m5 q hq};{exact k6 q hq}}
   {cases h}
  {cases h}
theorem AZ:∀{ws:List (Nat×Cell)}{S:St}{k:Nat}{c:Cell},(k,c)∈ws->∃p∈ws,p.1=k/\gi S ws k=p.2
 |(j,x)::ws,S,k,c,h=>by simp only[gi];by_cases e:k=j;{simp_all[cO]};{rw[fH _ _ e];rcases aQ.1 h with h|h;{simp_all};{obtain⟨p,h1,h2,h3⟩:=AZ h (S:=S);exact⟨p,List.mem_cons_of_mem _ h1,h2,h3⟩}}
def ox(nt:Nat)(τ:Nat->Value)(ρ:List (Nat×Option Nat))(k:Nat):Value:=if k<nt then τ k else match lW ρ k with|some j=>τ j|none=>.slice Ku 0 0
end
theorem wI{k:Nat}{r:Option Nat}:∀{ρ:List (Nat×Option Nat)},sK k ρ=BQ r->(k,r)∈ρ
 |(i,j)::ρ,h=>by
  simp only[sK]at h;cases hb:Nat.beq i k with
  |true=>rw[hb]at h;cases h;rw[aB hb];exact List.mem_cons_self ..
  |false=>rw[hb]at h;exact List.mem_cons_of_mem _ (wI h)
theorem DO{S:St}{k i:Nat}:∀{G:GL},(k,.fF i)∈G->(∀j,S k=(.pt,.fF j)->(i,BQ j)∈sx S G)/\∀t,S k=(.nl t,.no)->(i,Ku)∈sx S G
 |(k',g)::G,h=>by rcases aQ.1 h with h|h;{grind[sx,List.mem_append_left,List.mem_singleton.2]};{obtain⟨h1,h2⟩:=DO h (S:=S);cases g<;>first|exact⟨λj hj=>List.mem_append_right _ (h1 j hj),λt hj=>List.mem_append_right _ (h2 t hj)⟩|exact⟨h1,h2⟩}
theorem Hz{S:St}{m:Nat}{ts us:List (Nat×Nat)}{cs:List TV}(hm:S m=(.ag cs,.cl us)):∀{G:GL},(m,.cl ts)∈G->∀t∈ts,(∀j,pX t.1 us=BQ j->(t.2,BQ j)∈sx S G)/\(pX t.1 us=Ku->∀y,cs[t.1]?=BQ (.nl y)->(t.2,Ku)∈sx S G)
 |(k',g)::G,h,t,ht=>by rcases aQ.1 h with h|h;{grind[sx,List.mem_append_left,List.mem_filterMap.2]};{obtain⟨h1,h2⟩:=Hz hm h t ht;cases g<;>first|exact⟨λj hj=>List.mem_append_right _ (h1 j hj),λa b c=>List.mem_append_right _ (h2 a b c)⟩|exact⟨h1,h2⟩}
theorem vb{S:St}{i j:Nat}:∀{G:GL},(i,BQ j)∈sx S G->∃q,j∈(S q).2.dA
 |(k',g)::G,h=>by(cases g<;>first|exact vb (G:=G) h|skip);{simp only[sx]at h;rcases List.mem_append.1 h with h|h;{refine⟨k',?_⟩;split at h;{rename_i e;simp only[List.mem_singleton,Prod.mk.injEq,aN]at h;rw[e,h.2];exact List.mem_singleton.2 rfl};{simp at h};{cases h}};{exact vb h}};{rename_i ts;simp only[sx]at h;rcases List.mem_append.1 h with h|h;{refine⟨k',?_⟩;split at h;{rename_i cs us e;obtain⟨t,_,ht⟩:=List.mem_filterMap.1 h;split at ht;{rename_i hf;simp only[aN,Prod.mk.injEq]at ht;rw[e,<-ht.2];exact bn.2 ⟨_,qW hf,rfl⟩};{simp at ht};{cases ht}};{cases h}};{exact vb h}}
theorem EZ{A:Type}{f:A->Option Nat}:∀{l:List A}{i j k:Nat}{x y:A},pY (l.filterMap f)=NS->l[i]?=BQ x->f x=BQ k->l[j]?=BQ y->f y=BQ k->i=j
 |a::l,0,0,_,_,_,_,_,_,_,_=>rfl
 |a::l,0,j+1,k,x,y,hd,h1,h2,h3,h4=>by have e:a=x:=by{simpa using h1};subst e;rw[List.filterMap_cons,h2]at hd;simp only[pY,af,aC]at hd;have:=hd.1 k (List.mem_filterMap.2 ⟨y,aP (by simpa using h3),h4⟩);simp at this
 |a::l,i+1,0,k,x,y,hd,h1,h2,h3,h4=>by have e:a=y:=by{simpa using h3};subst e;rw[List.filterMap_cons,h4]at hd;simp only[pY,af,aC]at hd;have:=hd.1 k (List.mem_filterMap.2 ⟨x,aP (by simpa using h1),h2⟩);simp at this
 |a::l,i+1,j+1,k,x,y,hd,h1,h2,h3,h4=>by have Kr:pY (l.filterMap f)=NS:=by{rw[List.filterMap_cons]at hd;split at hd;{exact hd};{simp only[pY,af]at hd;exact hd.2}};exact congrArg (· +1) (EZ Kr (by simpa using h1) h2 (by simpa using h3) h4)
 |[],_,_,_,_,_,_,h,_,_,_=>by simp at h
section
variable{C:Ctx}{S:St}{a:Act}{w:World}{R:Reach}{τ:Nat->Value}{G:GL}{xs:List TV}
theorem I6(h:fP C S a w R τ)(he:yW C.nt G S=BQ xs):∃R',fP C (hO G xs) a w R' (ox C.nt τ (sx S G))/\fq R w R' w:=by
 unfold yW at he;split at he
 ·rename_i N5 ws hv;obtain⟨C6,he⟩:=bL.1 he;cases he;generalize Su:sx S G=ρ at*;simp only[Xd,af]at C6;obtain⟨⟨⟨⟨o1,o2⟩,o3⟩,o4⟩,o5⟩:=C6;have cons:∀i r,(i,r)∈ρ->sK i ρ=BQ r/\(i<1000000\/r=BQ i)/\C.nt<=i:=λi r hi=>by{have:=aC.1 o2 (i,r) hi;simp only[af,Bool.or_eq_true,aD]at this;exact⟨this.1.1,this.1.2.imp (λh=>Nat.le_of_ble_eq_true h) id,Nat.le_of_ble_eq_true this.2⟩};have Zu:∀k j,lW ρ k=BQ j->C.nt<=k->C.nt<=j:=λk j hk hn=>by
   unfold lW at hk;cases hl:sK k ρ with
   |none=>rw[hl]at hk;cases hk;exact hn
   |some r=>rw[hl]at hk;simp only[Option.getD_some]at hk;subst hk;have hm:=wI hl;rw[<-Su]at hm;obtain⟨q,hq⟩:=vb hm;exact(h.core.inv q j hq).1
  obtain⟨R',k1,k2,k3,k4,k5,k6⟩:=Di h.core Zu hv;refine⟨R',⟨h.size,h.defers,?_,λt ht=>?_,⟨h.io.1,λk hk=>?_⟩,h.ext.reach k2.1 k2.2,h.gl.eC k2.1⟩,k2.1⟩
  ·have len:xs.length=G.length:=k3;have W7:∀i r,(i,r)∈ρ->ox C.nt τ ρ i=match r with|some j=>τ j|none=>.slice Ku 0 0:=λi r hi=>by obtain⟨c1,_,c2⟩:=cons i r hi;unfold ox lW;rw[ak (by omega),c1];cases r<;>rfl
   have YY:∀k,C.nt<=k->sK k ρ=Ku->ox C.nt τ ρ k=τ k:=λk hk hl=>by{unfold ox lW;rw[ak (by omega),hl];rfl};have Ld:∀k,k<C.nt->ox C.nt τ ρ k=τ k:=λk hk=>by{unfold ox;rw[ar hk]};have W8:∀k j,C.nt<=k->lW ρ k=BQ j->ox C.nt τ ρ k=τ j:=λk j hk hj=>by{unfold ox;rw[ak (by omega),hj]};have OU:∀k,C.nt<=k->lW ρ k=Ku->ox C.nt τ ρ k=.slice Ku 0 0:=λk hk hj=>by{unfold ox;rw[ak (by omega),hj]};have Xe:∀p∈G,_:=aC.1 o5;have Xb:∀k j x,(k,.pv)∈G->lW ρ k=BQ j->S j=(x,.pv)->gi S ws j=(x,.pv):=λk j x hm hn hs=>by{have:=Xe _ hm;simp only[hn]at this;rw[jD (CW this),hs]};have Xg:∀j x,(S j=(x,.lv)\/(S j=(x,.pv)/\(j,(x,.lv))∈ws))->gi S ws j=(x,.lv):=λj x hs=>by{rcases hs with hs|⟨hs,hm⟩;{rcases k5 j with e|e|⟨e,_⟩;{rw[<-e,hs]};{rw[hs]at e;cases e};{rw[hs]at e;cases e}};{obtain⟨p,hp,_,Ko⟩:=AZ (S:=S) hm;rcases k5 j with e|e|⟨_,e⟩;{have:=k6 p hp;rw[<-Ko,<-e,hs]at this;cases this};{rw[hs]at e;cases e};{rw[e,hs]}}};have Ye:∀k cs us,S k=(.ag cs,.cl us)->gi S ws k=(.ag cs,.cl us):=λk cs us hs=>by{rcases k5 k with e|e|⟨e,_⟩;{rw[<-e,hs]};{rw[hs]at e;cases e};{rw[hs]at e;cases e}};have key:∀k i g x,G[i]?=BQ (k,g)->xs[i]?=BQ x->kY R' w (ox C.nt τ ρ) x g (ox C.nt τ ρ k):=λk i g x hG hx=>by
    have hm:=aP hG;have hf:=k4 i (k,g) x hG hx;unfold Fact at hf;(cases g<;>simp only at hf<;>try(exact hf.elim));case no=>
     rw[Ld k hf.1];exact fo.no hf.2
    case fF i'=>
     obtain⟨hk,rfl,hf⟩:=hf
     have hK:=h.core.key k
     rw[Ld k hk]
     rw[kY.slot (h.core.slt k hk)]at hK
     obtain⟨n1,n2⟩:=DO (S:=S) hm
     rw[Su]at n1 n2
     rcases hf with⟨j,hj⟩|⟨t,hj⟩
     {rw[hj]at hK;exact⟨by rw[W7 _ _ (n1 j hj)];exact hK.1,hK.2⟩}
     ·rw[hj]at hK;have hv:τ k=.slice Ku 0 0:=by
       have:Rep R w (.nl t) (τ k):=lM.rep hK;generalize τ k=v at*;cases this with
       |sc h=>cases h
       |nl=>rfl
      exact⟨by rw[W7 _ _ (n2 t hj)];exact hv,by rw[hv];rfl⟩
    case ptr m o=>
     obtain⟨hk,rfl,hj⟩:=hf
     have hK:=h.core.key k
     rw[Ld k hk]
     rw[kY.slot (h.core.slt k hk),hj]at hK
     have hi:=h.core.inv k m (by rw[hj];exact List.mem_singleton.2 rfl)
     have hl:=Xe _ hm
     simp only[Option.isNone_iff_eq_none]at hl
     obtain⟨b,b1,b2⟩:∃b,τ m=.pointer (BQ ⟨b,0,Ku⟩)/\τ k=.pointer (BQ ⟨b,o,Ku⟩):=hK
     exact⟨b,by rw[YY m hi.1 hl];exact b1,b2⟩
    case cl ts=>
     obtain⟨hk,cs,us,b,ys,e,zs,a1,a2,a3,rfl,a5,a6,a7,a8⟩:=hf
     have hl:=Xe _ hm
     simp only[Option.isNone_iff_eq_none]at hl
     have hK:=k1.key k
     rw[Ye k cs us a1]at hK
     obtain⟨b',_,_,_,c1,_,_,_,_,c2⟩:=hK
     rw[a2]at c1;cases c1
     refine⟨b,ys,e,zs,by rw[YY k hk hl];exact a2,a3,rfl,a5,λt ht=>?_,c2⟩
     obtain⟨n1,n2⟩:=Hz a1 hm t ht
     rw[Su]at n1 n2
     cases Xx:pX t.1 us with
     |some j=>rw[W7 _ _ (n1 j Xx)];exact a7 _ (qW Xx)
     |none=>
      obtain⟨y,hy⟩:=(a8 t ht).resolve_left (by rw[Xx];simp);rw[W7 _ _ (n2 Xx y hy)];obtain⟨v,hv,_,hr⟩:=a6.get _ _ hy;rw[hv];cases hr with
      |sc h=>cases h
      |nl=>rfl
    case pv=>
     obtain⟨hk,⟨j,hj,hs⟩|⟨hj,t,rfl⟩⟩:=hf
     {have hK:=k1.key j;rw[Xb k j x hm hj hs]at hK;rw[W8 k j hk hj];exact hK}
     {rw[OU k hk hj];exact⟨t,[],rfl,.inl ⟨rfl,rfl⟩⟩}
    case lv=>
     obtain⟨hk,⟨j,hj,hs⟩|⟨hj,t,rfl⟩⟩:=hf
     {have hK:=k1.key j;rw[Xg j x hs]at hK;rw[W8 k j hk hj];exact hK}
     {rw[OU k hk hj];exact⟨t,[],rfl,.inl ⟨rfl,rfl⟩⟩}
   have owner:∀k g,iL (ox C.nt τ ρ) (hO G xs) k=BQ g->∃(i:Nat)(g0:Gh)(j:Nat),G[i]?=BQ (k,g0)/\g0.own=NS/\lW ρ k=BQ j/\iL τ (gi S ws) j=BQ g/\(gi S ws j).2.HZ=NT:=λk g hb=>by
    obtain⟨ho,hb⟩:=gT hb;rcases pr (G:=G) (xs:=xs) k with e|⟨i,g0,x,hG,hx,e⟩;{rw[e]at ho;cases ho}
    ·rw[e]at ho;have hm:=aP hG;have hf:=k4 i (k,g0) x hG hx;unfold Fact at hf;(cases g0<;>simp only at hf<;>try(first|exact hf.elim|(cases ho;done)));case cl ts=>
      obtain⟨hk,cs,us,b,ys,e,zs,a1,a2,a3,rfl,a5,a6,a7,a8⟩:=hf
      have hl:=Xe _ hm
      simp only[Option.isNone_iff_eq_none]at hl
      have hn:lW ρ k=BQ k:=by unfold lW;rw[hl];rfl
      rw[YY k hk hl]at hb
      exact⟨i,_,k,hG,rfl,hn,iK (by rw[Ye k cs us a1];rfl) (by rw[Ye k cs us a1];rfl) hb,by rw[Ye k cs us a1];rfl⟩
     case pv=>
      obtain⟨hk,⟨j,hj,hs⟩|⟨hj,t,rfl⟩⟩:=hf
      {rw[W8 k j hk hj]at hb;exact⟨i,_,j,hG,rfl,hj,iK (by rw[Xb k j x hm hj hs];rfl) (by rw[Xb k j x hm hj hs];rfl) hb,by rw[Xb k j x hm hj hs];rfl⟩}
      {rw[OU k hk hj]at hb;cases hb}
     case lv=>
      obtain⟨hk,⟨j,hj,hs⟩|⟨hj,t,rfl⟩⟩:=hf
      {rw[W8 k j hk hj]at hb;exact⟨i,_,j,hG,rfl,hj,iK (by rw[Xg j x hs];rfl) (by rw[Xg j x hs];rfl) hb,by rw[Xg j x hs];rfl⟩}
      {rw[OU k hk hj]at hb;cases hb}
   refine⟨λk=>?_,λk k' g hb oZ=>?_,λk g hb=>?_,λj k hk=>?_,k1.vK,λk hk=>?_,λk d hk=>?_⟩;{rcases pr (G:=G) (xs:=xs) k with e|⟨i,g,x,hG,hx,e⟩;{rw[e];exact fo.no (τ:=ox C.nt τ ρ) (.dead _)};{rw[e];exact key k i g x hG hx}};{obtain⟨i,g0,j,e1,e2,e3,e4,e5⟩:=owner k g hb;obtain⟨i',g0',j',f1,f2,f3,f4,f5⟩:=owner k' g oZ;have:=k1.yO e4 f4;subst this;have:=EZ o3 e1 (by simp only[e2,au];exact e3) f1 (by simp only[f2,au];exact f3);subst this;rw[e1]at f1;cases f1;rfl};{obtain⟨i,g0,j,e1,e2,e3,e4,e5⟩:=owner k g hb;exact k1.eG j g e4};{rcases pr (G:=G) (xs:=xs) j with e|⟨i,g,x,hG,hx,e⟩;{rw[e]at hk;cases hk};{rw[e]at hk;have:=aC.1 (aC.1 o4 _ (aP hG)) k hk;obtain⟨q,hq,QT⟩:=List.any_eq_true.1 this;simp only[af]at QT;obtain⟨QT,Zy⟩:=QT;obtain⟨i',uK⟩:=List.mem_iff_getElem?.1 hq;have gI:i'<xs.length:=by{rw[len];exact(aH.1 uK).1};have Cu:xs[i']?=BQ xs[i']:=aw gI;have hqk:=aB QT;obtain⟨q1,q2⟩:=q;simp only at hqk Zy;subst hqk;have hf:=k4 i' _ _ uK Cu;refine⟨?_,?_⟩;{unfold Fact at hf;cases q2<;>simp only at hf<;>first|exact hf.1|exact hf.elim|cases Zy};{rw[vt o1 uK Cu];intro e;simp only at e;subst e;cases Zy}}};{rcases pr (G:=G) (xs:=xs) k with e|⟨i,g,x,hG,hx,e⟩;{rw[e];rfl};{rw[e];have hf:=k4 i (k,g) x hG hx;unfold Fact at hf;cases g<;>simp only at hf<;>first|rfl|exact hf.elim|(exfalso;have:=hf.1;omega)}};{rcases pr (G:=G) (xs:=xs) k with e|⟨i,g,x,hG,hx,e⟩;{rw[e]at hk;cases hk};{rw[e]at hk;simp only at hk;subst hk;have hf:=k4 i _ x hG hx;exact hf.elim}}
  {unfold ox;rw[ar ht];exact h.tmps t ht}
  ·unfold ox;have:=h.io.1;rw[ak (by omega)];unfold lW;cases hl:sK k ρ with
   |none=>simp only[Option.getD_none];exact h.io.2 k hk
   |some r=>have:=(cons k r (wI hl)).2.1.resolve_left (by omega);subst this;simp only[Option.getD_some];exact h.io.2 k hk
 {cases he}
theorem y6:∀{l:List Nat}{S:St},fP C S a w R τ->fP C (DQ l S) a w R τ
 |[],_,h=>h
 |k::r,S,h=>by unfold DQ;split;{rename_i x d hk;exact y6 (h.recover hk)};{exact y6 h}
theorem yU(h:fP C S a w R τ)(he:lS C.nt G S=BQ xs):∃R' rX,fP C (hO G xs) a w R' rX/\fq R w R' w:=by obtain⟨R',h1,h2⟩:=I6 (y6 h) he;exact⟨R',_,h1,h2⟩
end
def OD:MX->Exit
 |.normal=>.normal
 |.exit id=>.exit id
 |.goto l=>.goto l
 |.ret=>.ret
section
variable{C:Ctx}{R:Type}
theorem yq.lS{S:St}{a:Act}{w:World}{G:GL}{xs:List TV}(h:yq C S a w)(he:lS C.nt G S=BQ xs):yq C (hO G xs) a w:=by obtain⟨R,τ,h⟩:=h;obtain⟨R',rX,h',_⟩:=yU h he;exact⟨R',_,h'⟩
theorem At{P:Program}{a:Act}{w:World}{Q:Exit->Act->World->Prop}{c:Code}(I:Nat->Nat->Act->World->Prop)(first:c.wp P (λe a w=>match e with|.goto l=>∃n,I n l a w|e=>Q e a w) a w)(pass:∀n l a w,I n l a w->∃rest,findLabel c l=BQ rest/\rest.wp P (λe a' w'=>match e with|.goto l'=>∃m,m<n/\I m l' a' w'|e=>Q e a' w') a w):(Code.scope c).wp P Q a w:=by
 intro b k cs;have key:∀n l a w,I n l a w->∀rest,findLabel c l=BQ rest->∃e a' w',Q e a' w'/\Arrives P (lone (b.at a (.code rest::.inScope c::k)) cs w) b k cs e a' w':=by
  intro n;induction n using Nat.strongRecOn with
  |_ n ih=>
   intro l a w hI rest hf;obtain⟨rest',SY,hp⟩:=pass n l a w hI;rw[hf]at SY;cases SY;obtain⟨e,uI,uf,hq,wN⟩:=hp b (.inScope c::k) cs;cases e with
   |normal=>exact⟨.normal,uI,uf,hq,Steps.trans wN (.one step_inScope)⟩
   |exit id=>exact⟨.exit id,uI,uf,hq,λk' hk=>wN k' (by simp[exitTo,hk])⟩
   |goto l'=>obtain⟨m,gI,hJ⟩:=hq;obtain⟨DN,VW,_⟩:=pass m l' uI uf hJ;have hg:gotoIn l' (.inScope c::k)=BQ (.code DN::.inScope c::k):=by{simp[gotoIn,VW]};obtain⟨Th,TJ,Rs,Mk,CB⟩:=ih m gI l' uI uf hJ DN VW;exact⟨Th,TJ,Rs,Mk,.of_steps (wN _ hg) CB⟩
   |ret=>exact⟨_,uI,uf,hq,wN⟩
   |panic ch=>exact⟨_,uI,uf,hq,wN⟩
   |outgrown=>exact⟨_,uI,uf,hq,wN⟩
 obtain⟨e,uI,uf,hq,wN⟩:=first b (.inScope c::k) cs
 cases e with
 |normal=>exact⟨.normal,uI,uf,hq,.head step_scope (Steps.trans wN (.one step_inScope))⟩
 |exit id=>exact⟨.exit id,uI,uf,hq,λk' hk=>.head step_scope (wN k' (by simp[exitTo,hk]))⟩
 |goto l'=>obtain⟨m,hJ⟩:=hq;obtain⟨DN,VW,_⟩:=pass m l' uI uf hJ;have hg:gotoIn l' (.inScope c::k)=BQ (.code DN::.inScope c::k):=by{simp[gotoIn,VW]};obtain⟨Th,TJ,Rs,Mk,CB⟩:=key m l' uI uf hJ DN VW;exact⟨Th,TJ,Rs,Mk,.of_steps (.head step_scope (wN _ hg)) CB⟩
 |ret=>exact⟨_,uI,uf,hq,.of_steps (.one step_scope) wN⟩
 |panic ch=>exact⟨_,uI,uf,hq,.of_steps (.one step_scope) wN⟩
 |outgrown=>exact⟨_,uI,uf,hq,.of_steps (.one step_scope) wN⟩
def Fx(C:Ctx)(R:Type)(c:Code)(g:Ev R):Prop:=∀{h:Hint}{S:St}{a:Act}{w:World}{K:gf R}{r:R}{Q:Exit->Act->World->Prop},yq C S a w->g h S K=BQ r->(∀e S' a' w',yq C S' a' w'->K e S'=BQ r->Q (OD e) a' w')->c.wp C.P Q a w
theorem Fx.seq{x y:Code}{g:Ev R}{o:Ev R}(hx:Fx C R x g)(hy:Fx C R y o):Fx C R (.seq x y) (K7 C.nt g o o):=by
 intro h S a w K r Q hs he hQ;have plain:∀{h1 h2:Hint},g h1 S (IW (o h2) K)=BQ r->(Code.seq x y).wp C.P Q a w:=λhe=>by
  refine wp_seq (hx hs he λe S' a' w' h' hk=>?_);cases e with
  |normal=>exact hy h' hk hQ
  |exit id=>exact hQ (.exit id) S' a' w' h' hk
  |goto l=>exact hQ (.goto l) S' a' w' h' hk
  |ret=>exact hQ .ret S' a' w' h' hk
 (cases h<;>first|exact plain he|skip);rename_i G h1 h2;have he:g h1 S (xA C.nt (o h2) G K)=BQ r:=he;refine wp_seq (hx hs he λe S' a' w' h' hk=>?_);cases e with
 |normal=>simp only[xA]at hk;split at hk;{rename_i xs hr;exact hy (h'.lS hr) hk hQ};{cases hk}
 |exit id=>exact hQ (.exit id) S' a' w' h' hk
 |goto l=>exact hQ (.goto l) S' a' w' h' hk
 |ret=>exact hQ .ret S' a' w' h' hk
theorem Tj(hE:kZ C.P C.E)(hF:∀f,gp C.P C.gl f (C.E.fs f))(c:Code):Fx C R c (qa C.P C.E C.nt c)/\(∀l g,xM (R:=R) C.P C.E C.nt c l=BQ g->∃rest,findLabel c l=BQ rest/\Fx C R rest g)/\∀l,xM (R:=R) C.P C.E C.nt c l=Ku->findLabel c l=Ku:=by
 have xZ:∀{f:Ev R}{c:Code},∀l g,(gg f).2 l=BQ g->∃rest,findLabel c l=BQ rest/\Fx C R rest g:=λl g e=>by{cases e};induction c with
 |skip=>exact⟨λhs he hQ=>wp_skip (hQ .normal _ _ _ hs he),xZ,λ_ _=>rfl⟩
 |label l=>
  refine⟨λhs he hQ=>wp_label (hQ .normal _ _ _ hs he),λl' g e=>?_,λl' e=>?_⟩
  ·have e:qz l l'=BQ g:=e;unfold qz at e;cases hb:Nat.beq l l' with
   |true=>rw[hb]at e;cases e;exact⟨.skip,by rw[aB hb];simp[findLabel],λhs he hQ=>wp_skip (hQ .normal _ _ _ hs he)⟩
   |false=>rw[hb]at e;cases e
  ·have e:qz (R:=R) l l'=Ku:=e;unfold qz at e;cases hb:Nat.beq l l' with
   |true=>rw[hb]at e;cases e
   |false=>have:¬l=l':=λe=>by{rw[e]at hb;simp at hb};simp[findLabel,this]
 |exit id=>exact⟨λhs he hQ=>wp_exit (hQ (.exit id) _ _ _ hs he),xZ,λ_ _=>rfl⟩
 |goto l=>exact⟨λhs he hQ=>wp_goto (hQ (.goto l) _ _ _ hs he),xZ,λ_ _=>rfl⟩
 |ret=>exact⟨λhs he hQ=>wp_ret (hQ .ret _ _ _ hs he),xZ,λ_ _=>rfl⟩
 |region id ops draw=>exact⟨λhs he hQ=>I8 hE hF hs he λS' a' w' h' hk=>hQ .normal S' a' w' h' hk,xZ,λ_ _=>rfl⟩
 |seq x y Sr QK=>refine⟨Fx.seq Sr.1 QK.1,λl g e=>?_,λl e=>?_⟩;{have e:Ax C.nt (xM C.P C.E C.nt x) (xM C.P C.E C.nt y) (qa C.P C.E C.nt y) (qa C.P C.E C.nt y) l=BQ g:=e;unfold Ax at e;split at e;{rename_i gx ex;cases e;obtain⟨rest,hr,hd⟩:=Sr.2.1 l gx ex;exact⟨.seq rest y,by simp[findLabel,hr],hd.seq QK.1⟩};{rename_i ex;split at e;{rename_i gy ey;cases e;obtain⟨rest,hr,hd⟩:=QK.2.1 l gy ey;exact⟨rest,by simp[findLabel,Sr.2.2 l ex,hr],λhs he hQ=>hd hs he hQ⟩};{cases e}}};{have e:Ax C.nt (xM C.P C.E C.nt x) (xM C.P C.E C.nt y) (qa C.P C.E C.nt y) (qa C.P C.E C.nt y) l=Ku:=e;unfold Ax at e;split at e;{cases e};{rename_i ex;split at e;{cases e};{rename_i ey;simp[findLabel,Sr.2.2 l ex,QK.2.2 l ey]}}}
 |cond o x y Sr QK=>
  refine⟨?_,xZ,λ_ _=>rfl⟩;intro h S a w K r Q hs he hQ;have he:(match ik C.E C.nt S 0 o with|some (.b t,.no)=>cond t (qa C.P C.E C.nt x h.s1 S K) (qa C.P C.E C.nt y h.s2 S K)|some (.ub e,.no)=>cond e (both (qa C.P C.E C.nt x h.s1 S K) (qa C.P C.E C.nt y h.s2 S K)) (qa C.P C.E C.nt y h.s2 S K)|_=>Ku)=BQ r:=he;split at he;{rename_i t ho;have Zr:=hs;obtain⟨R0,τ,h0⟩:=Zr;have hv:=(fJ h0 (Lt.refl S) ho).dW rfl;refine wp_cond_split hv (λe=>?_) (λe=>?_);{subst e;exact Sr.1 hs he hQ};{subst e;exact QK.1 hs he hQ}}
  ·rename_i e ho;have Zr:=hs;obtain⟨R0,τ,h0⟩:=Zr;obtain⟨b,hv,hb⟩:∃b,a.eval o=.bool b/\(b=NS->e=NS):=by
    have hv:=fJ h0 (Lt.refl S) ho;generalize a.eval o=v at hv;cases hv with
    |sc h=>cases h
    |ub h=>exact⟨_,rfl,h⟩
   refine wp_cond_split hv (λe1=>?_) (λe1=>?_);{rw[hb e1]at he;exact Sr.1 hs (xc.1 he).1 hQ}
   ·cases e with
    |false=>exact QK.1 hs he hQ
    |true=>exact QK.1 hs (xc.1 he).2 hQ
  {cases he}
 |block id x ih=>
  refine⟨?_,xZ,λ_ _=>rfl⟩;intro h S a w K r Q hs he hQ;have he:qa C.P C.E C.nt x h.s1 S (oR id K)=BQ r:=he;refine wp_block (ih.1 hs he λe S' a' w' h' hk=>?_);cases e with
  |normal=>exact hQ .normal S' a' w' h' hk
  |exit j=>
   simp only[oR]at hk;cases hb:Nat.beq j id with
   |true=>rw[hb]at hk;have:=aB hb;simp only[OD,Exit.inBlock,this,if_true];exact hQ .normal S' a' w' h' hk
   |false=>rw[hb]at hk;have:j≠id:=λe=>by{rw[e]at hb;simp at hb};simp only[OD,Exit.inBlock,this,if_false];exact hQ (.exit j) S' a' w' h' hk
  |goto l=>exact hQ (.goto l) S' a' w' h' hk
  |ret=>exact hQ .ret S' a' w' h' hk
 |loop x ih=>
  refine⟨?_,xZ,λ_ _=>rfl⟩;intro h S a w K r Q hs he hQ;(cases h<;>try(cases he;done));rename_i G h1;have he:zn C.nt (qa C.P C.E C.nt x h1) G S K=BQ r:=he;unfold zn at he;split at he
  ·rename_i xs hr;obtain⟨n,hn⟩:=(zq (λn r=>qT (yp ((tx C.P C.E x).1 h1) G) (tr:=RE C.nt G) n xs r)).1 he;refine wp_loop_ghost (λn a w=>∃xs,yq C (hO G xs) a w/\pW (TL (qa C.P C.E C.nt x h1) G) (RE C.nt G) n xs K=BQ r) n ⟨xs,hs.lS hr,hn⟩ ?_;rintro n a w ⟨xs,hs,hn⟩;cases n with
   |zero=>cases hn
   |succ n=>
    rw[pW]at hn;refine ih.1 hs hn λe S' a' w' h' hk=>?_;cases e with
    |normal=>
     simp only[RE]at hk;split at hk;{rename_i e;cases e};{cases hk}
     ·rename_i ys hr;cases Kn:lS C.nt G S' with
      |none=>rw[Kn]at hr;cases hr
      |some zs=>rw[Kn]at hr;cases hr;exact⟨n,Nat.lt_succ_self n,_,h'.lS Kn,hk⟩
    |exit id=>exact hQ (.exit id) S' a' w' h' hk
    |goto l=>exact hQ (.goto l) S' a' w' h' hk
    |ret=>exact hQ .ret S' a' w' h' hk
  {cases he}
 |rangeFunc _ _ _ _ _ _=>exact⟨λ_ he=>(by cases he),xZ,λ_ _=>rfl⟩
 |scope x ih=>
  refine⟨?_,xZ,λ_ _=>rfl⟩;intro h S a w K r Q hs he hQ;(cases h<;>try(cases he;done));rename_i ls h1;have he:qa C.P C.E C.nt x h1 S (nL C.nt (xM C.P C.E C.nt x) ls h1 K)=BQ r:=he;let F:=xM (R:=R) C.P C.E C.nt x;have hm:=λi=>λn r=>qT (yo (f:=F) (tx C.P C.E x).2 ls h1) (tr:=II C.nt ls) (K:=K) n i r;have go:∀{S' a' w'}l,yq C S' a' w'->∀j,II C.nt ls (.goto l) S'=BQ (BQ j)->j.1=l/\∃G,zo l ls=BQ G/\yq C (hO G j.2) a' w':=by
   intro S' a' w' l h' j hj;simp only[II]at hj;split at hj
   ·rename_i G hl;cases hr:lS C.nt G S' with
    |none=>rw[hr]at hj;cases hj
    |some ys=>rw[hr]at hj;cases hj;exact⟨rfl,G,hl,h'.lS hr⟩
   {cases hj}
  refine At (λn l a w=>∃xs G,zo l ls=BQ G/\yq C (hO G xs) a w/\pW (Kg F ls h1) (II C.nt ls) n (l,xs) K=BQ r) ?_ ?_
  ·refine ih.1 hs he λe S' a' w' h' hk=>?_;cases e with
   |goto l=>simp only[nL,zT]at hk;split at hk;{rename_i e;simp[II]at e};{cases hk};{rename_i j hj;obtain⟨e1,G,hG,hS⟩:=go l h' j hj;obtain⟨n,hn⟩:=(zq (hm j)).1 hk;exact⟨n,j.2,G,hG,hS,by rw[<-e1];exact hn⟩}
   |normal=>exact hQ .normal S' a' w' h' hk
   |exit id=>exact hQ (.exit id) S' a' w' h' hk
   |ret=>exact hQ .ret S' a' w' h' hk
  ·rintro n l a w ⟨xs,G,hG,hS,hn⟩;cases n with
   |zero=>cases hn
   |succ n=>
    rw[pW]at hn;simp only[Kg,hG]at hn;cases hF:F l with
    |none=>rw[hF]at hn;cases hn
    |some g=>
     rw[hF]at hn;obtain⟨rest,hr,hd⟩:=ih.2.1 l g hF;refine⟨rest,hr,hd hS hn λe S' a' w' h' hk=>?_⟩;cases e with
     |goto l'=>split at hk;{rename_i e;simp[II]at e};{cases hk};{rename_i j hj;obtain⟨e1,G',hG',Uh⟩:=go l' h' j hj;exact⟨n,Nat.lt_succ_self n,j.2,G',hG',Uh,by rw[<-e1];exact hk⟩}
     |normal=>exact hQ .normal S' a' w' h' hk
     |exit id=>exact hQ (.exit id) S' a' w' h' hk
     |ret=>exact hQ .ret S' a' w' h' hk
 |refuse _=>exact⟨λ_ he=>(by cases he),xZ,λ_ _=>rfl⟩
theorem Tk(hE:kZ C.P C.E)(hF:∀f,gp C.P C.gl f (C.E.fs f))(c:Code):∀{h:Hint}{S:St}{a:Act}{w:World}{K:gf R}{r:R}{Q:Exit->Act->World->Prop},yq C S a w->qa C.P C.E C.nt c h S K=BQ r->(∀e S' a' w',yq C S' a' w'->K e S'=BQ r->Q (OD e) a' w')->c.wp C.P Q a w:=λhs he hQ=>(Tj hE hF c).1 hs he hQ
end
def nI(xs:List Value)(k:Nat):Value:=if k<1000000 then xs.getD k undef else xs.getD (k -1000000) undef
def zI{n:Nat}{ms:List Md}{xH:List TV}{k:Nat}(h:k<n):Mc n ms xH k=match ms.getD k .pl with|.pl=>(xH.getD k .dead,.no)|.rf=>(.pt,.ptr (1000000+k) 0)|_=>(.pt,.fF (1000000+k)):=by have:Nat.blt k n=NS:=Nat.ble_eq_true_of_le h;unfold Mc;simp only[this,au];rfl
def zJ{n:Nat}{ms:List Md}{xH:List TV}{k:Nat}(hn:n<=1000000)(h:k<n):Mc n ms xH (1000000+k)=match ms.getD k .pl with|.pl=>(.dead,.no)|.rf=>(xH.getD k .dead,.cl [])|_=>(xH.getD k .dead,.pv):=by
 have h1:Nat.blt (1000000+k) n=NT:=by
  cases hb:Nat.blt (1000000+k) n with
  |false=>rfl
  |true=>exact absurd (Nat.le_of_ble_eq_true hb:1000000+k+1<=n) (by omega)
 have h2:Nat.ble 1000000 (1000000+k)=NS:=Nat.ble_eq_true_of_le (by omega);have h3:Nat.blt (1000000+k) (1000000+n)=NS:=Nat.ble_eq_true_of_le (by omega);unfold Mc;simp only[h1,h2,h3,au,ai,aX,Nat.add_sub_cancel_left];rfl
def vq{n:Nat}{ms:List Md}{xH:List TV}{k:Nat}(h1:n<=k)(h2:k<1000000\/1000000+n<=k):Mc n ms xH k=(.dead,.no):=by
 have e1:Nat.blt k n=NT:=by
  cases hb:Nat.blt k n with
  |false=>rfl
  |true=>exact absurd (Nat.le_of_ble_eq_true hb:k+1<=n) (by omega)
 have e2:(Nat.ble 1000000 k&&Nat.blt k (1000000+n))=NT:=by
  cases hb:(Nat.ble 1000000 k&&Nat.blt k (1000000+n))with
  |false=>rfl
  |true=>simp only[af]at hb;have a:=Nat.le_of_ble_eq_true hb.1;have b:k+1<=1000000+n:=Nat.le_of_ble_eq_true hb.2;omega
 unfold Mc;simp only[e1,e2,ai]
def sQ{n:Nat}(hn:n<=1000000)(k:Nat):k<n\/(∃j,j<n/\k=1000000+j)\/(n<=k/\(k<1000000\/1000000+n<=k)):=by by_cases h1:k<n;{exact .inl h1};{by_cases h2:k<1000000\/1000000+n<=k;{exact .inr (.inr ⟨by omega,h2⟩)};{exact .inr (.inl ⟨k -1000000,by omega,by omega⟩)}}
def ND{P:Program}{E:cE}{gl:Nat->Option (List Value)}{nt:Nat}{w:World}{R:Reach}{ins:List TV}{xs:List Value}{ms:List Md}(hn:xs.length<=nt)(ZF:nt<=1000000)(hR:∀b o,R b o->b<w.heap.size)(Kq:GlOK gl R w)(ha:C0 R w ms ins xs)(hs:TX (· ≠.pl) ms xs):fP ⟨P,E,nt,w,R,C2 ms xs,nI xs,gl⟩ (Mc xs.length ms ins) {tmps:=(⟨xs⟩:Array Value)++Array.replicate (nt -xs.length) undef,defers:=[]} w R (nI xs):=by
 have hx:xs.length<=1000000:=Nat.le_trans hn ZF;have arg:∀k,k<xs.length->IC R w (ms.getD k .pl) (ins.getD k .dead) (xs.getD k undef):=λk hk=>by
  have h1:xs[k]?=BQ xs[k]:=aw hk;have h2:ins[k]?=BQ (ins[k]'(by rw[ha.1];exact hk)):=aw _
  have:=ha.2 k _ _ h2 h1;rw[aj,aj,aj,h1,h2]at*;simpa using this
 have t1:∀k,k<xs.length->nI xs k=xs.getD k undef:=λk hk=>by{unfold nI;rw[ar (by omega)]};have t2:∀k,nI xs (1000000+k)=xs.getD k undef:=λk=>by{unfold nI;rw[ak (by omega),Nat.add_sub_cancel_left]};have own:∀k,(Mc xs.length ms ins k).2.own=NS->∃j,j<xs.length/\k=1000000+j/\ms.getD j .pl≠.pl:=λk ho=>by{rcases sQ hx k with h|⟨j,hj,rfl⟩|⟨h1,h2⟩;{rw[zI h]at ho;cases hm:ms.getD k .pl<;>rw[hm]at ho<;>cases ho};{refine⟨j,hj,rfl,λhm=>?_⟩;rw[zJ hx hj,hm]at ho;cases ho};{rw[vq h1 h2]at ho;cases ho}};have val:∀k,k<xs.length->xs[k]?=BQ (xs.getD k undef):=λk hk=>by{rw[aj,aw hk];rfl};refine⟨by simp;omega,rfl,⟨λk=>?_,λk k' g hb oZ=>?_,λk g hb=>?_,λj k hk=>?_,hR,λk hk=>?_,λk d hk=>?_⟩,λt ht=>?_,⟨ZF,λk _=>rfl⟩,Ext.refl _ _ _,Kq⟩;{rcases sQ hx k with h|⟨j,hj,rfl⟩|⟨h1,h2⟩;{have hA:=arg k h;rw[zI h,t1 k h];cases hm:ms.getD k .pl<;>rw[hm]at hA;{exact fo.no (τ:=nI xs) hA};{obtain⟨b,cs,e,zs,e1,_⟩:=hA;exact⟨b,by rw[t2,e1],e1⟩};all_goals exact⟨(t2 k).symm,gm.one hA⟩};{have hA:=arg j hj;rw[zJ hx hj,t2];cases hm:ms.getD j .pl<;>rw[hm]at hA;{exact fo.no (τ:=nI xs) (.dead _)};{obtain⟨b,cs,e,zs,e1,e2,e3,e4,e5,e6⟩:=hA;exact⟨b,cs,e,zs,e1,e2,e3,e4,by simp,e6⟩};all_goals exact hA};{rw[vq h1 h2];exact fo.no (τ:=nI xs) (.dead _)}};{obtain⟨o1,b1⟩:=gT hb;obtain⟨o2,b2⟩:=gT oZ;obtain⟨j,hj,rfl,m1⟩:=own k o1;obtain⟨j',xB,rfl,m2⟩:=own k' o2;rw[t2]at b1 b2;rw[hs j j' _ _ g m1 m2 (val j hj) (val j' xB) b1 b2]};{obtain⟨o1,b1⟩:=gT hb;obtain⟨j,hj,rfl,m1⟩:=own k o1;rw[t2]at b1;exact .inl ⟨j,_,m1,val j hj,b1⟩};{rcases sQ hx j with h|⟨i,hi,rfl⟩|⟨h1,h2⟩;{rw[zI h]at hk;have key:ms.getD j .pl≠.pl->k=1000000+j->nt<=k/\(Mc xs.length ms ins k).2≠.no:=λhm e=>by{subst e;refine⟨by omega,?_⟩;rw[zJ hx h];cases JI:ms.getD j .pl<;>first|exact(hm JI).elim|simp};cases hm:ms.getD j .pl<;>rw[hm]at hk key<;>simp only[Gh.dA,List.mem_singleton,List.not_mem_nil]at hk;all_goals exact key (by simp) hk};{rw[zJ hx hi]at hk;cases hm:ms.getD i .pl<;>rw[hm]at hk<;>simp[Gh.dA]at hk};{rw[vq h1 h2]at hk;cases hk}};{rcases sQ hx k with h|⟨j,hj,rfl⟩|⟨h1,h2⟩;{rw[zI h];cases ms.getD k .pl<;>rfl};{have:1000000+j<nt:=hk;omega};{rw[vq h1 h2];rfl}};{rcases sQ hx k with h|⟨j,hj,rfl⟩|⟨h1,h2⟩;{rw[zI h]at hk;cases hm:ms.getD k .pl<;>rw[hm]at hk<;>cases hk};{rw[zJ hx hj]at hk;cases hm:ms.getD j .pl<;>rw[hm]at hk<;>cases hk};{rw[vq h1 h2]at hk;cases hk}};{have ht:t<nt:=ht;unfold nI;rw[ar (by omega)];simp only[Array.getD_eq_getD_getElem?,Array.getElem?_append,List.size_toArray];by_cases h:t<xs.length;{simp[h,aj]};{have Xo:t -xs.length<nt -xs.length:=by{omega};rw[ak h,aj,List.getElem?_eq_none (by omega)];simp[Xo]}}
def Gg(tmps:Array Value):ResultVar->Sem Value
 |.tmp t=>pure (tmps.getD t undef)
 |.cell a t=>do loadVar t (<-asAddr (tmps.getD a undef))
def xu{P:Program}{w:World}{fn:Func}{tmps:Array Value}{vs:List Value}(h:(fn.results.toList.mapM (Gg tmps)).run P w=.ok vs w):(results fn tmps).run P w=.ok (if vs.length=1 then vs.headD undef else .tuple ⟨vs⟩) w:=by
 have e:results fn tmps=(do
   let vs<-fn.results.mapM (Gg tmps)
   pure (if h:vs.size=1 then vs[0]else .tuple vs)):=by
  congr 2
 rw[e,Array.mapM_eq_mapM_toList];simp only[Sem.run_bind,Sem.run_map,h];match vs with
 |[]=>simp
 |[x]=>simp
 |_::_::_=>simp
section
variable{C:Ctx}{a:Act}{w:World}{τ:Nat->Value}
theorem xa{own:List Nat}:∀{rs:List ResultVar}{i:Nat}{S S':St}{xs:List TV}{R:Reach},fP C S a w R τ->z6 C.P C.nt own i rs S=BQ (xs,S')->
  ∃R' vs,fP C S' a w R' τ/\fq R w R' w/\(rs.mapM (Gg a.tmps)).run C.P w=.ok vs w/\xs.length=rs.length/\vs.length=rs.length/\∀(q:Nat)(r:ResultVar)(x:TV)(v:Value),rs[q]?=BQ r->xs[q]?=BQ x->vs[q]?=BQ v->match r with|.tmp t=>v=a.tmps.getD t undef|.cell _ _=>Rep R' w x v/\(i+q)∉own
 |[],i,S,S',xs,R,h,he=>by cases he;exact⟨R,[],h,fq.refl _ _,rfl,rfl,rfl,by simp⟩
 |.tmp t::rs,i,S,S',xs,R,h,he=>by simp only[z6]at he;split at he;{rename_i N5 S'' h1;cases he;obtain⟨R',vs,k1,k2,k3,k4,k5,k6⟩:=xa h h1;refine⟨R',a.tmps.getD t undef::vs,k1,k2,?_,by simp[k4],by simp[k5],λq r x v hr hx hv=>?_⟩;{simp_all[Gg]};{grind}};{cases he}
 |.cell b t::rs,i,S,S',xs,R,h,he=>by
  obtain⟨h0,he⟩:=bL.1 he;simp only[af]at h0;have hb:b<C.nt:=Nat.le_of_ble_eq_true h0.1;split at he
  ·rename_i m o n agg hS hs;obtain⟨h1,he⟩:=bL.1 he;have h1:agg=NS\/n=1:=by{simp_all};split at he
   ·rename_i cs ts hm;split at he
    ·rename_i CS ws hf;split at he
     ·rename_i x hp;split at he
      ·rename_i N5 S'' Zv;cases he;obtain⟨bb,ys,e,c1,c2,c3,c4,c5,c6,_⟩:=sf h (Lt.refl S) hm;obtain⟨R1,f1,f2,f3,f4,_⟩:=qU h.core (Lt.refl S).q c3 (λt ht=>⟨(c6 t ht).1,c4 t ht⟩) hf;have QR:=xR h hb;rw[hS]at QR;obtain⟨b',p1,hv⟩:∃b',τ m=.pointer (BQ ⟨b',0,Ku⟩)/\a.tmps.getD b undef=.pointer (BQ ⟨b',o,Ku⟩):=QR;rw[c1]at p1;cases p1;obtain⟨inf,hi,rfl,ha⟩:=iq hs;obtain⟨hlen,mM⟩:=sB f3 hp h1;have hc:∀j y,((ys.drop o).take inf.size)[j]?=BQ y->w.cell? ⟨bb,o+j,Ku⟩=BQ y:=λj y hj=>by{rw[bc]at hj;split at hj;{rw[List.getElem?_drop]at hj;simp only[World.cell?,c2];simpa using hj};{cases hj}};obtain⟨R2,vs,k1,k2,k3,k4,k5,k6⟩:=xa (h.fz f1 f2) Zv;refine⟨R2,(if agg then .agg ⟨(ys.drop o).take inf.size⟩else((ys.drop o).take inf.size).headD undef)::vs,k1,f2.1.trans k2,?_,by simp[k4],by simp[k5],λq r x' v hr hx Bk=>?_⟩;{simp only[List.mapM_cons,Gg,hv,asAddr,Sem.run_bind,Sem.run_pure,Result.andThen_ok,kJ hi ha h1 hlen hc,k3]}
       ·cases q with
        |zero=>cases hr;cases hx;cases Bk;exact⟨(Ce mM).mono k2,by simpa using h0.2⟩
        |succ q=>have:=k6 q r x' v (by simpa using hr) (by simpa using hx) (by simpa using Bk);rwa[show i+1+q=i+(q+1) by omega]at this
      {cases he}
     {cases he}
    {cases he}
   {cases he}
  {cases he}
end
theorem jy.of{R:Reach}{w:World}:∀{xs:List TV}{ys:List Value},xs.length=ys.length->(∀(i:Nat)(x:TV)(y:Value),xs[i]?=BQ x->ys[i]?=BQ y->Rep R w x y)->jy R w xs ys
 |[],[],_,_=>.nil
 |x::xs,y::ys,h,k=>.cons (k 0 x y rfl rfl) (jy.of (by simpa using h) λi a b ha hb=>k (i+1) a b (by simpa using ha) (by simpa using hb))
 |[],_::_,h,_=>by simp at h
 |_::_,[],h,_=>by simp at h
theorem yZ{own:List Nat}:∀{rs:List ResultVar}{i q t:Nat},rs[q]?=BQ (.tmp t)->(own.contains (i+q)=NT->(t,.no)∈Gi own i rs)/\(own.contains (i+q)=NS->(t,.fF (900000+(i+q)))∈Gi own i rs/\(900000+(i+q),.pv)∈Gi own i rs)
 |r::rs,i,0,t,h=>by cases h;refine⟨λh=>?_,λh=>?_⟩<;>simp only[Nat.add_zero]at h⊢<;>simp only[Gi,h,au,ai];{exact List.mem_append_left _ (List.mem_singleton.2 rfl)};{exact⟨List.mem_append_left _ (List.mem_cons_self ..),List.mem_append_left _ (List.mem_cons_of_mem _ (List.mem_singleton.2 rfl))⟩}
 |r::rs,i,q+1,t,h=>by
  obtain⟨h1,h2⟩:=yZ (own:=own) (rs:=rs) (i:=i+1) (q:=q) (t:=t) (by simpa using h);rw[show i+1+q=i+(q+1) by omega]at h1 h2;cases r with
  |tmp u=>exact⟨λh=>List.mem_append_right _ (h1 h),λh=>⟨List.mem_append_right _ (h2 h).1,List.mem_append_right _ (h2 h).2⟩⟩
  |cell u v=>exact⟨h1,h2⟩
theorem BO:∀{ms:List Md}{k q:Nat},(ms[q]?=BQ .rf->(1000000+(k+q),.cl [])∈rW k ms)/\((ms[q]?=BQ .sl\/ms[q]?=BQ .sm)->(1000000+(k+q),.pv)∈rW k ms)
 |[],k,q=>by simp
 |m::ms,k,0=>by refine⟨λh=>?_,λh=>?_⟩;{cases h;exact List.mem_cons_self ..};{rcases h with h|h<;>cases h<;>exact List.mem_cons_self ..}
 |m::ms,k,q+1=>by obtain⟨h1,h2⟩:=BO (ms:=ms) (k:=k+1) (q:=q);rw[show k+1+q=k+(q+1) by omega]at h1 h2;refine⟨λh=>?_,λh=>?_⟩;{have:=h1 (by simpa using h);cases m<;>first|exact List.mem_cons_of_mem _ this|exact this};{have:=h2 (by simpa using h);cases m<;>first|exact List.mem_cons_of_mem _ this|exact this}
theorem yX{own:List Nat}{H:St}:∀{rs:List ResultVar}{i:Nat}{xs:List TV},xs.length=rs.length->(wm own H i rs xs).length=rs.length
 |[],_,_,_=>by simp[wm]
 |.tmp _::rs,i,x::xs,h=>by simp[wm,yX (rs:=rs) (i:=i+1) (xs:=xs) (by simpa using h)]
 |.cell _ _::rs,i,x::xs,h=>by simp[wm,yX (rs:=rs) (i:=i+1) (xs:=xs) (by simpa using h)]
 |_::_,_,[],h=>by simp at h
theorem yY{own:List Nat}{H:St}:∀{rs:List ResultVar}{i q:Nat}{xs:List TV}{r:ResultVar}{x:TV},rs[q]?=BQ r->xs[q]?=BQ x->(wm own H i rs xs)[q]?=BQ (match r with|.tmp t=>cond (own.contains (i+q)) (H (900000+(i+q))).1 (H t).1|.cell _ _=>x)
 |r::rs,i,0,x::xs,_,_,h1,h2=>by cases h1;cases h2;cases r<;>simp[wm]
 |r::rs,i,q+1,x::xs,r',x',h1,h2=>by have:=yY (own:=own) (H:=H) (rs:=rs) (i:=i+1) (q:=q) (xs:=xs) (r:=r') (x:=x') (by simpa using h1) (by simpa using h2);rw[show i+1+q=i+(q+1) by omega]at this;cases r<;>simp only[wm,List.getElem?_cons_succ]<;>exact this
 |[],_,_,_,_,_,h,_=>by simp at h
 |_::_,_,_,[],_,_,_,h=>by simp at h
def p9(H:St):Nat->List Md->List TV->List TV
 |k,.rf::ms,_::ins=>(H (1000000+k)).1::p9 H (k+1) ms ins
 |k,.sl::ms,_::ins=>(H (1000000+k)).1::p9 H (k+1) ms ins
 |k,_::ms,y::ins=>y::p9 H (k+1) ms ins
 |_,_,_=>[]
theorem Af{H:St}:∀{ms:List Md}{k:Nat}{ins:List TV},ms.length<=ins.length->nH ms ins (vH H k ms)=BQ (p9 H k ms ins)
 |[],k,ins,_=>by cases ins<;>simp[nH,vH,p9,gj]
 |m::ms,k,y::ins,h=>by have:=Af (H:=H) (ms:=ms) (k:=k+1) (ins:=ins) (by simpa using h);cases m<;>simp[nH,vH,p9,this]
 |_::_,_,[],h=>by simp at h
theorem BM{H:St}:∀{ms:List Md}{k q:Nat}{ins:List TV}{y:TV},(p9 H k ms ins)[q]?=BQ y->(ms.getD q .pl=.rf\/ms.getD q .pl=.sl->y=(H (1000000+(k+q))).1)/\(ms.getD q .pl=.sm->ins[q]?=BQ y)/\q<ms.length
 |m::ms,k,0,x::ins,y,h=>by cases m<;>simp only[p9,List.getElem?_cons_zero,aN]at h<;>subst h<;>simp
 |m::ms,k,q+1,x::ins,y,h=>by have h':(p9 H (k+1) ms ins)[q]?=BQ y:=by{cases m<;>simpa[p9]using h};obtain⟨h1,h2,h3⟩:=BM h';rw[show k+1+q=k+(q+1) by omega]at h1;exact⟨h1,h2,by simp;omega⟩
 |[],k,q,ins,y,h=>by cases ins<;>simp[p9]at h
 |m::_,_,_,[],_,h=>by cases m<;>simp[p9]at h
theorem Bd{H:St}:∀{ms:List Md}{k q:Nat}{ins:List TV}{y:TV},sN H k ms=oS ms ins->ms.length<=ins.length->ms[q]?=BQ .sm->ins[q]?=BQ y->y=(H (1000000+(k+q))).1
 |m::ms,k,0,x::ins,y,h,_,h1,h2=>by cases h1;cases h2;simp only[sN,oS,bt]at h;exact h.1.symm
 |m::ms,k,q+1,x::ins,y,h,hl,h1,h2=>by have h':sN H (k+1) ms=oS ms ins:=by{cases m<;>simp only[sN,oS,bt]at h<;>first|exact h|exact h.2};have:=Bd h' (by simpa using hl) (by simpa using h1) (by simpa using h2);rwa[show k+1+q=k+(q+1) by omega]at this
 |[],_,_,_,_,_,_,h,_=>by simp at h
 |_::_,_,_,[],_,_,h,_,_=>by simp at h
theorem zu{H:St}:∀{ms:List Md}{k:Nat}{ins:List TV},ms.length<=ins.length->(sN H k ms).length=(oS ms ins).length
 |[],_,ins,_=>by cases ins<;>rfl
 |m::ms,k,x::ins,h=>by have:=zu (H:=H) (ms:=ms) (k:=k+1) (ins:=ins) (by simpa using h);cases m<;>simp[sN,oS,this]
 |_::_,_,[],h=>by simp at h
theorem vO{nt:Nat}{S:St}{G:GL}{ρ:List (Nat×Option Nat)}:∀{l:GL}{xs:List TV}{ws:List (Nat×Cell)},xk nt S G ρ l=BQ (xs,ws)->xs.length=l.length
 |[],_,_,h=>by cases h;rfl
 |p::l,xs,ws,h=>by simp only[xk]at h;split at h;{split at h;{rename_i h2;cases h;simp[vO h2]};{cases h}};{cases h}
theorem vP{nt:Nat}{S:St}{G:GL}{ρ:List (Nat×Option Nat)}:∀{l:GL}{xs:List TV}{ws:List (Nat×Cell)}{i:Nat}{p:Nat×Gh}{x:TV},xk nt S G ρ l=BQ (xs,ws)->l[i]?=BQ p->xs[i]?=BQ x->∃us,FT nt S G ρ p=BQ (x,us)
 |p::l,xs,ws,i,p',x',h,h1,h2=>by
  simp only[xk]at h;split at h
  ·rename_i hv;split at h
   ·rename_i h3;cases h;cases i with
    |zero=>cases h1;cases h2;exact⟨_,hv⟩
    |succ i=>exact vP h3 (by simpa using h1) (by simpa using h2)
   {cases h}
  {cases h}
 |[],_,_,_,_,_,_,h,_=>by simp at h
def yV{nt:Nat}{G:GL}{S:St}{xs:List TV}(h:lS nt G S=BQ xs){k:Nat}{g:Gh}(hm:(k,g)∈G):∃x,hO G xs k=(x,g)/\(g=.no->k<nt)/\∀i,g=.fF i->k<nt/\x=.pt:=by unfold lS yW at h;split at h;{rename_i hv;obtain⟨C6,he⟩:=bL.1 h;cases he;simp only[Xd,af]at C6;obtain⟨i,hi⟩:=List.mem_iff_getElem?.1 hm;have gI:i<xs.length:=by{rw[vO hv];exact(aH.1 hi).1};have hx:xs[i]?=BQ xs[i]:=aw gI;obtain⟨us,hu⟩:=vP hv hi hx;refine⟨_,vt C6.1.1.1.1 hi hx,λe=>?_,λj e=>?_⟩;{subst e;simp only[FT]at hu;exact Nat.le_of_ble_eq_true (bL.1 hu).1};{subst e;simp only[FT]at hu;obtain⟨h1,h2⟩:=bL.1 hu;refine⟨Nat.le_of_ble_eq_true h1,?_⟩;split at h2;{simp only[aN,Prod.mk.injEq]at h2;exact h2.1.symm};{simp only[aN,Prod.mk.injEq]at h2;exact h2.1.symm};{cases h2}}};{cases h}
section
variable{P:Program}{E:cE}{gl:Nat->Option (List Value)}{nt:Nat}{ms:List Md}{w w0:World}{R0 R2:Reach}{ins outs:List TV}{xs:List Value}{H:St}{a:Act}{Fy:Nat->Value}
theorem zw(hs:fP ⟨P,E,nt,w0,R0,C2 ms xs,nI xs,gl⟩ H a w R2 Fy)(hG:∀p∈rW 0 ms,∃x,H p.1=(x,p.2)){q:Nat}{v:Value}(hm:(ms.getD q .pl).Ju)(hv:xs[q]?=BQ v):∃x g,H (1000000+q)=(x,g)/\(ms.getD q .pl=.rf->g=.cl [])/\(ms.getD q .pl≠.rf->g=.pv)/\v=Fy (1000000+q):=by
 have SN:ms[q]?=BQ (ms.getD q .pl):=by
  cases e:ms[q]? with
  |none=>rw[aj,e]at hm;exact(hm.1 rfl).elim
  |some m=>rw[aj,e];rfl
 have Bk:v=Fy (1000000+q):=by{have:Fy (1000000+q)=nI xs (1000000+q):=hs.io.2 _ (Nat.le_add_right _ _);rw[this];unfold nI;rw[ak (by omega),Nat.add_sub_cancel_left,aj,hv];rfl};obtain⟨g1,g2⟩:=BO (ms:=ms) (k:=0) (q:=q);rw[Nat.zero_add]at g1 g2;cases e:ms.getD q .pl<;>rw[e]at hm SN;{exact(hm.1 rfl).elim};{obtain⟨x,c1⟩:=hG _ (g1 SN);exact⟨x,_,c1,λ_=>rfl,λh=>(h rfl).elim,Bk⟩};{obtain⟨x,c1⟩:=hG _ (g2 (.inl SN));exact⟨x,_,c1,λh=>by(try cases h),λ_=>rfl,Bk⟩};{obtain⟨x,c1⟩:=hG _ (g2 (.inr SN));exact⟨x,_,c1,λh=>by(try cases h),λ_=>rfl,Bk⟩};{exact(hm.2 rfl).elim}
theorem Fk(hs:fP ⟨P,E,nt,w0,R0,C2 ms xs,nI xs,gl⟩ H a w R2 Fy)(hG:∀p∈rW 0 ms,∃x,H p.1=(x,p.2))(GM:ms.length<=ins.length)(e2:sN H 0 ms=oS ms ins){q:Nat}{y:TV}{v:Value}(hy:(p9 H 0 ms ins)[q]?=BQ y)(hv:xs[q]?=BQ v):N0 R2 w (ms.getD q .pl) y v:=by obtain⟨y1,y2,y3⟩:=BM hy;rw[Nat.zero_add]at y1;by_cases hm:(ms.getD q .pl).Ju;{obtain⟨x,g,c1,c2,c3,c4⟩:=zw hs hG hm hv;have hK:=hs.core.key (1000000+q);rw[c1]at hK;cases e:ms.getD q .pl<;>rw[e]at hm;{exact(hm.1 rfl).elim};{have FB:=y1 (.inl e);rw[c1]at FB;have:=c2 e;subst this;obtain⟨b,cs,el,zs,p1,p2,p3,p4,p5,p6⟩:=hK;exact⟨b,cs,el,zs,by rw[c4];exact p1,p2,by rw[FB];exact p3,p4,by simp,p6⟩};{have FB:=y1 (.inr e);rw[c1]at FB;have:=c3 (by rw[e];simp);subst this;rw[FB,c4];exact hK};{have SN:ms[q]?=BQ .sm:=by{rw[aj,aw y3]at e;rw[aw y3];exact congrArg BQ e};have FB:=Bd e2 GM SN (y2 e);rw[Nat.zero_add,c1]at FB;have:=c3 (by rw[e];simp);subst this;rw[FB,c4];exact hK};{exact(hm.2 rfl).elim}};{cases e:ms.getD q .pl<;>rw[e]at hm<;>first|trivial|exact(hm ⟨by simp,by simp⟩).elim}
theorem Ea{q:Nat}{g:Gh}(c2:ms.getD q .pl=.rf->g=.cl [])(c3:ms.getD q .pl≠.rf->g=.pv):g.own=NS/\g.HY=NT:=by by_cases e:ms.getD q .pl=.rf;{rw[c2 e];exact⟨rfl,rfl⟩};{rw[c3 e];exact⟨rfl,rfl⟩}
end
def I5{nt:Nat}{G:GL}{S:St}{xs:List TV}(h:lS nt G S=BQ xs){k m o:Nat}(hm:(k,.ptr m o)∈G):(hO G xs k).1=.pt:=by unfold lS yW at h;split at h;{rename_i hv;obtain⟨C6,he⟩:=bL.1 h;cases he;simp only[Xd,af]at C6;obtain⟨i,hi⟩:=List.mem_iff_getElem?.1 hm;have gI:i<xs.length:=by{rw[vO hv];exact(aH.1 hi).1};have hx:xs[i]?=BQ xs[i]:=aw gI;obtain⟨us,hu⟩:=vP hv hi hx;rw[vt C6.1.1.1.1 hi hx];simp only[FT]at hu;obtain⟨_,h2⟩:=bL.1 hu;split at h2;{obtain⟨_,h3⟩:=bL.1 h2;simp only[aN,Prod.mk.injEq]at h3;exact h3.1.symm};{cases h2}};{cases h}
def Tn{P:Program}{E:cE}{gl:Nat->Option (List Value)}{fn:Func}{sg:iB}{w w0:World}{R0:Reach}{ins outs:List TV}{xs:List Value}{S:St}{a:Act}(hlen:ins.length=xs.length)(hp:xs.length=fn.params.size)(pd:EN fn sg=NS)(h:yq ⟨P,E,fn.ntmps,w0,R0,C2 sg.md xs,nI xs,gl⟩ S a w)(ho:Jc fn sg=Ku)(he:G2 P fn.ntmps fn sg S=BQ (outs++oS sg.md ins)):a.defers=[]/\∃x R' qb ys,(results fn a.tmps).run P w=.ok x w/\Ext w0 R0 (C2 sg.md xs) w R'/\(∀b o,R' b o->b<w.heap.size)/\CZ sg R' w (λb=>C2 sg.md xs b\/w0.heap.size<=b) ins xs outs x qb ys:=by
 simp only[EN,af]at pd;obtain⟨⟨⟨⟨⟨⟨⟨b1,b2⟩,b3⟩,b4⟩,b5⟩,b6⟩,b7⟩,b8⟩:=pd;have b1:fn.ntmps<900000:=Nat.le_of_ble_eq_true b1;have b2:=Nat.le_of_ble_eq_true b2;have b3:=Nat.le_of_ble_eq_true b3;have b4:=aB b4;have b5:fn.results.size<1000:=Nat.le_of_ble_eq_true b5;have GM:sg.md.length<=ins.length:=by{omega};rw[ho,Option.isSome_none,Bool.false_or]at b6;have blt:∀q∈sg.own,q<sg.jE:=λq hq=>Nat.le_of_ble_eq_true (aC.1 b6 q hq);have bs:∀q∈sg.own,Nat.blt q 1000=NS:=λq hq=>Nat.ble_eq_true_of_le (show q+1<=1000 by have:=blt q hq;omega);have bsm:nK sg.own=NS:=aC.2 bs;have oV:∀q∈sg.own,∀l,rC l q=l[q]?:=λq hq l=>by{unfold rC;rw[bs q hq,au]};have oT:∀q∈sg.own,∀l,tM l q=l[q]?:=λq hq l=>by{unfold tM;rw[bs q hq,au]};obtain⟨R,τ,h⟩:=h;simp only[G2,ho]at he;split at he
 ·rename_i cx S1 hc;split at he
  ·rename_i ys hr;obtain⟨R1,vs,k1,k2,k3,k4,k5,k6⟩:=xa h hc;obtain⟨R2,Fy,hs,L3⟩:=yU k1 hr;have he:=Option.some.inj he;have vr:=λ{k g}=>yV hr (k:=k) (g:=g);generalize hH:hO (MQ fn sg) ys=H at*;have hl:=zu (H:=H) (ms:=sg.md) (k:=0) GM;obtain⟨e1,e2⟩:=List.append_inj' he hl;have T8:(wm sg.own H 0 fn.results.toList cx).length=sg.jE:=by{rw[yX k4,b4,Array.length_toList]};have Vz:vs.length=sg.jE:=by{rw[k5,b4,Array.length_toList]};have QP:outs.take sg.jE=wm sg.own H 0 fn.results.toList cx:=by{rw[<-e1,<-T8,List.take_left]};have VX:outs.drop sg.jE=vH H 0 sg.md:=by{rw[<-e1,<-T8,List.drop_left]};have Q3:∀q,sg.own.contains q=NS↔q∈sg.own:=λq=>by{simp};have res:∀q v,vs[q]?=BQ v->∃(r:ResultVar)(x:TV),fn.results.toList[q]?=BQ r/\cx[q]?=BQ x/\(match r with|ResultVar.tmp t=>v=a.tmps.getD t undef|ResultVar.cell _ _=>Rep R1 w x v/\q∉sg.own):=λq v hv=>by
    have gI:=(aH.1 hv).1;have h1:fn.results.toList[q]?=BQ (fn.results.toList[q]'(by omega)):=aw _
    have h2:cx[q]?=BQ (cx[q]'(by omega)):=aw _
    have:=k6 q _ _ v h1 h2 hv;rw[Nat.zero_add]at this;exact⟨_,_,h1,h2,this⟩
   have KW:∀k x g,H k=(x,g)->k<fn.ntmps->fo R2 w Fy x g (a.tmps.getD k undef):=λk x g hk gI=>by{have:=xR hs (t:=k) gI;rw[hk]at this;exact this};have Y0:∀q,q<sg.jE->outs[q]?=(wm sg.own H 0 fn.results.toList cx)[q]?:=λq hq=>by{rw[<-QP,bc,ar hq]};have own:∀q∈sg.own,∀v,vs[q]?=BQ v->∃y,outs[q]?=BQ y/\v=Fy (900000+q)/\H (900000+q)=(y,.pv)/\gm R2 w NT v y:=λq hq v hv=>by
    obtain⟨r,x,r1,r2,r3⟩:=res q v hv;have gI:=(aH.1 hv).1;cases r with
    |cell=>exact(r3.2 hq).elim
    |tmp t=>obtain⟨m1,m2⟩:=(yZ (own:=sg.own) (i:=0) r1).2 (by rw[Nat.zero_add];exact(Q3 q).2 hq);rw[Nat.zero_add]at m1 m2;obtain⟨x1,c1,_,c2⟩:=vr (List.mem_append_left _ m1);obtain⟨x2,d1,_⟩:=vr (List.mem_append_left _ m2);obtain⟨c3,rfl⟩:=c2 _ rfl;have QR:=KW t _ _ c1 c3;have hK:=hs.core.key (900000+q);rw[d1]at hK;have Bk:v=Fy (900000+q):=r3.trans QR.1;refine⟨x2,?_,Bk,d1,by rw[Bk];exact hK⟩;rw[Y0 q (by omega),yY r1 r2,Nat.zero_add];simp only[(Q3 q).2 hq,au,d1]
   have V8:∀p∈rW 0 sg.md,∃x,H p.1=(x,p.2):=λp hp=>by{obtain⟨x,c,_⟩:=vr (List.mem_append_right _ hp);exact⟨x,c⟩};refine⟨hs.defers,_,R2,vs,p9 H 0 sg.md ins,xu k3,hs.ext,hs.core.vK,⟨Vz,?_,by rw[Vz],?_,λq hq v y hv hy=>?_,by rw[VX];exact Af GM,λq y v hy hv=>?_,λq hq v b hv hb=>?_,λj j' i i' v v' b hj xB hv Bk hb oZ=>?_,λi hi v b hv hb q u hm hu V2=>?_⟩⟩;{rw[<-e1];simp only[ae,T8];omega}
   ·refine jy.of (by simp only[uk,bsm,au,List.length_mapIdx,aF];rw[Vz,<-e1,ae,T8];omega) λq x v hx hv=>?_;simp only[uk,bsm,au,List.getElem?_mapIdx,aU]at hx;obtain⟨y,hy,rfl⟩:=hx;cases hcq:sg.own.contains q with
    |true=>exact .pt _
    |false=>
     rw[ai];obtain⟨r,x,r1,r2,r3⟩:=res q v hv;rw[QP,yY r1 r2,Nat.zero_add]at hy;cases r with
     |cell=>cases hy;exact r3.1.mono L3
     |tmp t=>simp only[hcq,ai,aN]at hy;subst hy;have m1:=(yZ (own:=sg.own) (i:=0) r1).1 (by rw[Nat.zero_add];exact hcq);obtain⟨x1,c1,c2,_⟩:=vr (List.mem_append_left _ m1);rw[c1,r3];exact lM.rep (KW t _ _ c1 (c2 rfl))
   {rw[oV q hq]at hv;rw[oT q hq]at hy;obtain⟨y',o1,_,_,o2⟩:=own q hq v hv;rw[o1]at hy;cases hy;exact o2};{exact Fk hs V8 GM e2 hy hv};{rw[oV q hq]at hv;obtain⟨y,_,o1,o2,_⟩:=own q hq v hv;rw[o1]at hb;exact hs.core.eG (900000+q) b (iK (by rw[o2];rfl) (by rw[o2];rfl) hb)};{rw[oV i (aP hj)]at hv;rw[oV i' (aP xB)]at Bk;obtain⟨y,_,o1,o2,_⟩:=own i (aP hj) v hv;obtain⟨y',_,o1',o2',_⟩:=own i' (aP xB) v' Bk;rw[o1]at hb;rw[o1']at oZ;have:=hs.core.yO (iK (by rw[o2];rfl) (by rw[o2];rfl) hb) (iK (by rw[o2'];rfl) (by rw[o2'];rfl) oZ);have:i=i':=by{omega};subst this;exact EY b7 hj xB};{rw[oV i hi]at hv;obtain⟨y,_,o1,o2,_⟩:=own i hi v hv;obtain⟨x,g,c1,c2,c3,c4⟩:=zw hs V8 hm hu;rw[o1]at hb;rw[c4]at V2;have VJ:=Ea c2 c3;have:=hs.core.yO (iK (by rw[o2];rfl) (by rw[o2];rfl) hb) (iK (by rw[c1];exact VJ.1) (by rw[c1];exact VJ.2) V2);have gI:=(aH.1 hv).1;have:fn.results.size=sg.jE:=b4.symm;omega}
  {cases he}
 {cases he}
def Tm{P:Program}{E:cE}{gl:Nat->Option (List Value)}{fn:Func}{sg:iB}{w w0:World}{R0:Reach}{ins outs:List TV}{xs:List Value}{S:St}{a:Act}{r c:Nat}{t:TypeId}(hlen:ins.length=xs.length)(hp:xs.length=fn.params.size)(pd:EN fn sg=NS)(h:yq ⟨P,E,fn.ntmps,w0,R0,C2 sg.md xs,nI xs,gl⟩ S a w)(ho:Jc fn sg=BQ ((r,t),c))(he:G2 P fn.ntmps fn sg S=BQ (outs++oS sg.md ins)):a.defers=[]/\∃x R' qb ys,(results fn a.tmps).run P w=.ok x w/\Ext w0 R0 (C2 sg.md xs) w R'/\(∀b o,R' b o->b<w.heap.size)/\CZ sg R' w (λb=>C2 sg.md xs b\/w0.heap.size<=b) ins xs outs x qb ys:=by
 simp only[EN,af]at pd;obtain⟨⟨⟨⟨⟨⟨⟨b1,b2⟩,b3⟩,b4⟩,b5⟩,b6⟩,b7⟩,b8⟩:=pd;have b1:fn.ntmps<900000:=Nat.le_of_ble_eq_true b1;have b3:=Nat.le_of_ble_eq_true b3;have b4:=aB b4;have GM:sg.md.length<=ins.length:=by{omega};obtain⟨R,τ,h⟩:=h;simp only[G2,ho]at he;obtain⟨VG,Pv⟩:fn.results.toList=[.cell r t]/\sg.own=[1000+c]:=by
  unfold Jc at ho;split at ho
  ·rename_i a' t' j h1 h2;cases hb:Nat.blt j 1000 with
   |true=>rw[hb]at ho;cases ho
   |false=>rw[hb]at ho;cases ho;have:1000<=j:=Nat.le_of_not_lt λgI=>by{rw[show Nat.blt j 1000=NS from Nat.ble_eq_true_of_le gI]at hb;cases hb};rw[h1,h2,show 1000+(j -1000)=j by omega];exact⟨rfl,rfl⟩
  {cases ho}
 have Pw:sg.jE=1:=by{rw[b4,<-Array.length_toList,VG];rfl};unfold Wg at he;split at he
 ·rename_i m n hSa SA;split at he
  ·rename_i ys hr;obtain⟨R2,Fy,hs,L3⟩:=yU h hr;have vr:=λ{k g}=>yV hr (k:=k) (g:=g);generalize hH:hO (JZ r m c sg) ys=H at*;obtain⟨x1,c1,_,_⟩:=vr (k:=r) (g:=.ptr m 0) (List.mem_cons_self ..);obtain⟨x2,c2,_,_⟩:=vr (k:=m) (g:=.cl [(c,900000)]) (List.mem_cons_of_mem _ (List.mem_cons_self ..));obtain⟨y,c3,_,_⟩:=vr (k:=900000) (g:=.pv) (List.mem_cons_of_mem _ (List.mem_cons_of_mem _ (List.mem_cons_self ..)));have V8:∀p∈rW 0 sg.md,∃x,H p.1=(x,p.2):=λp hp=>by{obtain⟨x,c,_⟩:=vr (List.mem_cons_of_mem _ (List.mem_cons_of_mem _ (List.mem_cons_of_mem _ hp)));exact⟨x,c⟩};rw[c2]at he;split at he
   ·rename_i cs g e;cases e;obtain⟨hh,he⟩:=bL.1 he;simp only[af]at hh;have hn:=aB hh.1;have T8:r<fn.ntmps:=Nat.le_of_ble_eq_true hh.2;have he:=Option.some.inj he;have hl:=zu (H:=H) (ms:=sg.md) (k:=0) GM;rw[<-List.cons_append]at he;obtain⟨e1,e2⟩:=List.append_inj' he hl;rw[c3]at e1;have Bl:=xR hs (t:=r) T8;rw[c1]at Bl;have hV:=hs.core.key m;rw[c2]at hV;obtain⟨b,zs,el,N5,p1,p2,p3,p4,p5,p6⟩:=hV;cases p3;have hv:a.tmps.getD r undef=.pointer (BQ ⟨b,0,Ku⟩):=by{have Vx:=I5 hr (List.mem_cons_self ..);rw[hH,c1]at Vx;simp only at Vx;subst Vx;obtain⟨b',q1,q2⟩:∃b',Fy m=.pointer (BQ ⟨b',0,Ku⟩)/\a.tmps.getD r undef=.pointer (BQ ⟨b',0,Ku⟩):=Bl;rw[p1]at q1;cases q1;exact q2};have hy:=p5 (c,900000) (List.mem_singleton.2 rfl);simp only at hy;have hK:=hs.core.key 900000;rw[c3]at hK;obtain⟨inf,hi,wL,ha⟩:=iq SA;have JC:=p4.length;have AE:c<zs.length:=(aH.1 hy).1;have mW:(fn.results.toList.mapM (Gg a.tmps)).run P w=.ok [.agg ⟨zs⟩] w:=by{rw[VG];simp only[List.mapM_cons,List.mapM_nil,Gg,hv,asAddr,Sem.run_bind,Sem.run_pure,Result.andThen_ok,kJ hi ha (.inl rfl) (w:=w) (b:=b) (off:=0) (ys:=zs) (by omega) (λj y hj=>by simp only[World.cell?,p2];simpa using hj),if_true]};have SJ:Nat.blt (1000+c) 1000=NT:=by
     cases hb:Nat.blt (1000+c) 1000 with
     |false=>rfl
     |true=>have:1000+c+1<=1000:=Nat.le_of_ble_eq_true hb;omega
    have oV:∀q∈sg.own,∀v,rC [.agg ⟨zs⟩] q=BQ v->v=Fy 900000:=λq hq v hv=>by{rw[Pv,List.mem_singleton]at hq;subst hq;unfold rC at hv;simp only[SJ,ai,List.getElem?_cons_zero,Nat.add_sub_cancel_left]at hv;rw[hy]at hv;cases hv;rfl};have hob:∀{v b},v=Fy 900000->Value.iL v=BQ b->iL Fy H 900000=BQ b:=λe hb=>by{subst e;exact iK (by rw[c3];rfl) (by rw[c3];rfl) hb};refine⟨hs.defers,_,R2,[.agg ⟨zs⟩],p9 H 0 sg.md ins,xu mW,hs.ext,hs.core.vK,⟨Pw.symm,?_,by rw[Pw];rfl,?_,λq hq v y' hv FB=>?_,by rw[Pw,<-e1];exact Af GM,λq y v hy hv=>?_,λq hq v b hv hb=>?_,λj j' i i' v v' b hj xB hv Bk hb oZ=>?_,λi hi v b hv hb q u hm hu V2=>?_⟩⟩;{rw[Pw,<-e1];simp};{have VF:nK [1000+c]=NT:=by{unfold nK;rw[List.all_cons,SJ];rfl};rw[Pw,<-e1,Pv];simp only[List.take_succ_cons,List.take_zero,uk,VF,ai,bf,bw,Xc];refine .cons (.ag ?_) .nil;have:((cs.set c y).mapIdx λk z=>cond ([1000+c].contains (1000+k)) TV.pt z)=cs.set c .pt:=by{apply List.ext_getElem?;intro k;rw[List.getElem?_mapIdx,List.getElem?_set,List.getElem?_set];by_cases e:c=k;{subst e;simp[show c<cs.length by omega]};{have e':¬k=c:=λh=>e h.symm;simp[e,e']}};rw[this];exact p4.set λ_ _=>.pt _};{rw[oV q hq v hv];rw[Pv,List.mem_singleton]at hq;subst hq;unfold tM at FB;rw[<-e1]at FB;simp only[SJ,ai,List.getElem?_cons_zero,Nat.add_sub_cancel_left,List.getElem?_set,if_true,show c<cs.length by omega]at FB;cases FB;exact hK};{exact Fk hs V8 GM e2 hy hv};{exact hs.core.eG 900000 b (hob (oV q hq v hv) hb)};{rw[Pv]at hj xB;have:=(aH.1 hj).1;have:=(aH.1 xB).1;simp at*;omega};{obtain⟨x,g,d1,d2,d3,d4⟩:=zw hs V8 hm hu;rw[d4]at V2;have VJ:=Ea d2 d3;have:=hs.core.yO (hob (oV i hi v hv) hb) (iK (by rw[d1];exact VJ.1) (by rw[d1];exact VJ.2) V2);omega}
   {cases he}
  {cases he}
 {cases he}
def MP{P:Program}{E:cE}{gl:Nat->Option (List Value)}{fn:Func}{sg:iB}{w w0:World}{R0:Reach}{ins outs:List TV}{xs:List Value}{S:St}{a:Act}(hlen:ins.length=xs.length)(hp:xs.length=fn.params.size)(pd:EN fn sg=NS)(h:yq ⟨P,E,fn.ntmps,w0,R0,C2 sg.md xs,nI xs,gl⟩ S a w)(he:G2 P fn.ntmps fn sg S=BQ (outs++oS sg.md ins)):a.defers=[]/\∃x R' qb ys,(results fn a.tmps).run P w=.ok x w/\Ext w0 R0 (C2 sg.md xs) w R'/\(∀b o,R' b o->b<w.heap.size)/\CZ sg R' w (λb=>C2 sg.md xs b\/w0.heap.size<=b) ins xs outs x qb ys:=by
 cases ho:Jc fn sg with
 |none=>exact Tn hlen hp pd h ho he
 |some p=>obtain⟨⟨r,t⟩,c⟩:=p;exact Tm hlen hp pd h ho he
def Hs{P:Program}{E:cE}{gl:Nat->Option (List Value)}(hE:kZ P E)(hF:∀f,gp P gl f (E.fs f)){f:Nat}{c:dn}{sg:iB}(hint:Hint)(hG:∀ins outs,(c ins).holds outs->b9 P E f sg hint ins=BQ (outs++oS sg.md ins)):gp P gl f (c,sg):=by
 intro ins outs hc;have hr:=hG ins outs hc;unfold b9 at hr;split at hr
 ·rename_i fn hf;split at hr
  ·rename_i body hb;obtain⟨h1,hr⟩:=bL.1 hr;simp only[af]at h1;obtain⟨pd,hl⟩:=h1;have hl:=aB hl;have QX:=pd;simp only[EN,af]at QX;obtain⟨⟨⟨⟨⟨⟨⟨b1,b2⟩,b3⟩,b4⟩,b5⟩,b6⟩,b7⟩,b8⟩:=QX;have b1:fn.ntmps<900000:=Nat.le_of_ble_eq_true b1;have b2:=Nat.le_of_ble_eq_true b2;refine⟨?_,λw R xs hR Kq ha hs=>?_⟩;{unfold th;rw[hf];simp only[Option.any_some,hb,Option.isSome_some,Bool.true_and];exact b8}
   ·have hx:xs.length=fn.params.size:=by{rw[<-ha.1,hl]};refine calls_of_wp hf hb ?_;have wL:(⟨xs⟩:Array Value).size=xs.length:=rfl;rw[wL];have Z5:=ND (P:=P) (E:=E) (nt:=fn.ntmps) (by omega) (by omega) hR Kq ha hs;rw[<-hx,<-Ib]at hr;refine Tk (C:=⟨P,E,fn.ntmps,w,R,C2 sg.md xs,nI xs,gl⟩) hE hF body ⟨R,_,Z5⟩ hr λe S' a' w' h' hk=>?_;cases e with
    |ret=>obtain⟨d,x,R',qb,ys,k1,k2,k3,k4⟩:=MP ha.1 hx pd h' hk;exact⟨d,x,k1,x,R',qb,ys,rfl,k2,k3,k4⟩
    |normal=>obtain⟨d,x,R',qb,ys,k1,k2,k3,k4⟩:=MP ha.1 hx pd h' hk;exact⟨d,x,k1,x,R',qb,ys,rfl,k2,k3,k4⟩
    |_=>cases hk
  {cases hr}
 {cases hr}
def HM:dn×iB:=(λ_=>.err,{})
def IQ{P:Program}{gl:Nat->Option (List Value)}{f:Nat}:gp P gl f HM:=λ_ _ h=>h.elim
def look{A:Type}(z:A):List (Nat×A)->Nat->A
 |[],_=>z
 |(k,c)::r,n=>cond (Nat.beq n k) c (look z r n)
abbrev Qe:=List (Nat×(fE×Nat))
abbrev Zs:=List (Nat×List TV)
def vm{A:Type}:List (Nat×A)->Nat->Option A
 |[],_=>Ku
 |(k,c)::r,n=>cond (Nat.beq n k) (BQ c) (vm r n)
def cW(ty:Qe)(z:Zs)(l:List (Nat×(dn×iB)))(ld:List Nat:=[]):cE:=⟨look HM l,vm ty,vm z,ld⟩
def G6{P:Program}{gl:Nat->Option (List Value)}{l:List (Nat×(dn×iB))}(h:∀p∈l,gp P gl p.1 p.2):∀f,gp P gl f (look HM l f):=by
 intro f;induction l with
 |nil=>exact IQ
 |cons p r ih=>
  obtain⟨k,c⟩:=p;simp only[look];cases hb:Nat.beq f k with
  |true=>rw[aB hb];exact h (k,c) (List.mem_cons_self ..)
  |false=>exact ih λq hq=>h q (List.mem_cons_of_mem _ hq)
theorem tp{A:Type}{n:Nat}{x:A}:∀{l:List (Nat×A)},vm l n=BQ x->(n,x)∈l
 |(k,c)::r,h=>by
  simp only[vm]at h;cases hb:Nat.beq n k with
  |true=>rw[hb]at h;cases h;rw[aB hb];exact List.mem_cons_self ..
  |false=>rw[hb]at h;exact List.mem_cons_of_mem _ (tp h)
def Re:Value->TV->Bool
 |.slice Ku 0 0,.sl _ []=>NS
 |v,x=>Hm v x
def wU:List Value->List TV->Bool
 |[],[]=>NS
 |x::xs,y::ys=>Re x y&&wU xs ys
 |_,_=>NT
theorem BD{R:Reach}{w:World}:∀{vs:List Value}{xs:List TV},wU vs xs=NS->dR R w xs vs
 |[],[],_=>.nil
 |v::vs,x::xs,h=>by simp only[wU,af]at h;have h1:Rep R w x v/\v.oneCell'=NS:=by{have:=h.1;unfold Re at this;split at this;{exact⟨.sn _,rfl⟩};{exact yr this}};exact .cons h1.2 h1.1 (BD h.2)
 |[],_::_,h=>by simp[wU]at h
 |_::_,[],h=>by simp[wU]at h
def AL(P:Program)(ty:Qe):Bool:=ty.all λp=>match P.underlying p.1 with
 |some (.slice e)=>match P.info? e with
  |some i=>Nat.beq i.size p.2.1.size&&Nat.beq i.bytes p.2.2&&(match i.zero with
   |some z=>wU z.cells.toList (p.2.1.tv p.2.1.fu).cells
   |none=>NT)
  |none=>NT
 |_=>NT
def ID(P:Program)(z:Zs):Bool:=z.all λp=>sT P p.1&&match(P.info? p.1).bind (·.zero)with|some v=>sb v.cells.toList p.2|none=>NT
def G5{P:Program}{ty:Qe}{z:Zs}{l:List (Nat×(dn×iB))}{ld:List Nat}(hm:P.follows .mixedOrders=NS)(h1:AL P ty=NS)(h2:ID P z=NS):kZ P (cW ty z l ld):=by refine⟨hm,λt st b he=>?_,λt c he=>?_⟩;{have:=aC.1 h1 _ (tp (l:=ty) he);simp only at this;split at this;{rename_i e hu;split at this;{rename_i i hi;simp only[af]at this;obtain⟨⟨k1,k2⟩,k3⟩:=this;split at k3;{rename_i zv hz;have hL:∀R w,dR R w (st.tv st.fu).cells zv.cells.toList:=λR w=>BD k3;refine⟨e,i,zv,hu,hi,aB k1,aB k2,hz,?_,hL⟩;have:=(hL (λ_ _=>False) default).length;rw[fE.oa]at this;simpa using this.symm};{cases k3}};{cases this}};{cases this}};{have:=aC.1 h2 _ (tp (l:=z) he);simp only[af]at this;refine⟨this.1,?_⟩;have h:=this.2;split at h;{rename_i v hv;exact⟨v,hv,h⟩};{cases h}}
def TR{P:Program}{gl:Nat->Option (List Value)}{ty:Qe}{z:Zs}{l:List (Nat×(dn×iB))}{ld:List Nat}(hm:P.follows .mixedOrders=NS/\AL P ty=NS/\ID P z=NS)(hE:∀p∈l,gp P gl p.1 p.2){f:Nat}(hint:Hint){c:dn}{sg:iB}
  (hG:∀ins outs,(c ins).holds outs->b9 P (cW ty z l ld) f sg hint ins=BQ (outs++oS sg.md ins)):gp P gl f (c,sg):=
 Hs (G5 hm.1 hm.2.1 hm.2.2) (G6 hE) hint hG
def Fit(F:List TV->OT)(l:List TV->List TV)(ins:List TV):sa->Prop
 |.ok outs=>F ins=BQ (outs++l ins)
 |.dX p outs=>p=NS->F ins=BQ (outs++l ins)
 |.err=>True
def TY{c:dn}{F:List TV->OT}{l:List TV->List TV}(h:∀ins,Fit F l ins (c ins)):∀ins outs,(c ins).holds outs->F ins=BQ (outs++l ins):=λins outs hc=>by
 have h:=h ins;cases e:c ins with
 |ok ws=>rw[e]at h hc;obtain rfl:outs=ws:=hc;exact h
 |dX p ws=>rw[e]at h hc;obtain⟨hp,rfl⟩:p=NS/\outs=ws:=hc;exact h hp
 |err=>rw[e]at hc;exact hc.elim
def iP{P:Program}{gl:Nat->Option (List Value)}{f:Nat}{sg:iB}{c':dn}(h:∀ti lx,(c' ti).holds lx->∃c:dn,gp P gl f (c,sg)/\(c ti).holds lx):gp P gl f (c',sg):=λins outs hc=>by obtain⟨c,hs,hc⟩:=h ins outs hc;exact hs ins outs hc
def ig{P:Program}{gl:Nat->Option (List Value)}{f:Nat}{sg:iB}{c:dn}(h:∀ti lx,¬(c ti).holds lx):gp P gl f (c,sg):=λins outs hc=>(h ins outs hc).elim
def all_nil{A:Type}{p:A->Prop}:∀x∈([]:List A),p x:=λ_ h=>by cases h
theorem all_cons{A:Type}{p:A->Prop}{a:A}{l:List A}(h:p a)(t:∀x∈l,p x):∀x∈a::l,p x:=λx hx=>by rcases aQ.1 hx with rfl|hx;{exact h};{exact t x hx}
def Old(w:World):Reach:=λb _=>b<w.heap.size
def calls_of_spec{P:Program}{gl:Nat->Option (List Value)}{f:Nat}{c:dn}(h:gp P gl f (c,{})){ti:List TV}{xs:List Value}{w:World}(Kq:GlOK gl (Old w) w)(hc:(c ti).holds [.b NS])(ha:jy (Old w) w ti xs):Calls P f ⟨xs⟩ w λe w'=>e=.returned (.bool NS)/\Below w.heap.size w w':=by
 refine((h ti [.b NS] hc).2 w (Old w) xs (λb o hb=>hb) Kq ⟨ha.length,λi x v hx hv=>?_⟩ λi j v v' b hi=>(hi (by simp)).elim).mono ?_;{obtain⟨y,h1,h2⟩:=ha.get i x hx;rw[hv]at h1;cases h1;exact h2}
 ·rintro e w' ⟨x,R',qb,ys,rfl,hx,hr,ho⟩;refine⟨?_,hx.os,hx.tape,hx.output,hx.size,λk hk=>hx.heap k hk ?_⟩
  ·congr 1;have hl:qb.length=1:=ho.len;have mM:=ho.rep;rw[ho.val];match qb,hl with
   |[y],_=>
    simp only[if_true,List.headD_cons];have mM:jy R' w' [.b NS] [y]:=mM;cases mM with
    |cons a _=>exact a.dW rfl
  {rintro⟨i,v,hm,_⟩;exact hm (by simp)}
def tq{n:Int}{l:Nat}:bG n l=NS↔0<=n/\n<l:=by simp[bG]
def J9{a b:Int}{l:Nat}:fe a b l=NS↔0<=a/\a<=b/\b<=l:=by simp[fe,and_assoc]
def NK{n b:Nat}:dP n b=NS↔n<=maxLen/\n*b<=140737488355328:=by simp[dP]
theorem oy{l c:Int}{b:Nat}:uu l c b=NS↔0<=l/\l<=c/\c*b<=140737488355328/\c<=maxLen:=by simp[uu,and_assoc]
def Be{n:Nat}:qQ n=NS↔n<=maxLen:=by simp[qQ]
end Go.Eng
namespace Go.Eng
open Go.RowKit Go.Sort
def tG{w w':World}{R:Reach}{io:Nat->Prop}(hR:∀b o,R b o->b<w.heap.size)(h:Below w.heap.size w w'):Ext w R io w' R:=⟨h.os,h.tape,h.output,h.size,λb hb _=>h.block b hb,λb o hr=>⟨hr,by simp only[World.cell?,h.block b (hR b o hr)]⟩,λb o hr=>.inl hr⟩
def Iz{R:Reach}{w:World}{ti:List TV}{xs:List Value}(h:C0 R w [] ti xs):jy R w ti xs:=jy.of h.1 λi x y hx hy=>h.2 i x y hx hy
def ki{P:Program}{gl:Nat->Option (List Value)}{f:Nat}{c:dn}(hb:th P f=NS)(h:∀(ti lx:List TV)(w:World)(R:Reach)(xs:List Value),(c ti).holds lx->jy R w ti xs->(∀b o,R b o->b<w.heap.size)->GlOK gl R w->Calls P f ⟨xs⟩ w λe w'=>∃x,e=.returned x/\Below w.heap.size w w'/\∀R w',jy R w' lx [x]):gp P gl f (c,{}):=by
 refine λti lx hc=>⟨hb,λw R xs hR Kq ha _=>(h ti lx w R xs hc (Iz ha) hR Kq).mono ?_⟩;rintro e w' ⟨x,rfl,CA,hx⟩;have hl:lx.length=1:=by{simpa using(hx R w').length};match lx,hl with
 |[y],_=>refine⟨x,R,[x],[],rfl,tG hR CA,λb o hr=>Nat.lt_of_lt_of_le (hR b o hr) CA.size,?_⟩;exact⟨rfl,Nat.le_refl _,rfl,hx R w',λi hi=>(by cases hi),rfl,λi y v hy=>(by simp at hy),λi hi=>(by cases hi),λj j' i i' v v' b hj=>(by simp at hj),λi hi=>(by cases hi)⟩
def Dy{P:Program}{gl:Nat->Option (List Value)}{f n:Nat}{c:dn}(hb:th P f=NS)(hn:n≠1)(h:∀(ti lx:List TV)(w:World)(R:Reach)(xs:List Value),(c ti).holds lx->jy R w ti xs->(∀b o,R b o->b<w.heap.size)->GlOK gl R w->Calls P f ⟨xs⟩ w λe w'=>∃ys,ys.length=n/\e=.returned (.tuple ⟨ys⟩)/\Below w.heap.size w w'/\∀R w',jy R w' lx ys):gp P gl f (c,{jE:=n}):=by refine λti lx hc=>⟨hb,λw R xs hR Kq ha _=>(h ti lx w R xs hc (Iz ha) hR Kq).mono ?_⟩;rintro e w' ⟨ys,hy,rfl,CA,hx⟩;have hl:lx.length=n:=by{rw[(hx R w').length,hy]};refine⟨.tuple ⟨ys⟩,R,ys,[],rfl,tG hR CA,λb o hr=>Nat.lt_of_lt_of_le (hR b o hr) CA.size,?_⟩;have e1:lx.take n=lx:=List.take_of_length_le (by omega);have e2:lx.drop n=[]:=az (by omega);refine⟨hy,by show n<=_;omega,by show _=if n=1 then _ else _;rw[ak hn],?_,λi hi=>(by cases hi),?_,λi y v hy=>(by simp at hy),λi hi=>(by cases hi),λj j' i i' v v' b hj=>(by simp at hj),λi hi=>(by cases hi)⟩;{have e3:uk [] (lx.take n)=lx:=by{rw[e1,DS]};show jy R w' (uk [] (lx.take n)) ys;rw[e3];exact hx R w'};{show nH [] ti (lx.drop n)=BQ [];rw[e2];rfl}
theorem lT{R:Reach}{w:World}:∀{ti:List TV}{xs ys:List Value},jy R w ti xs->ti.mapM TV.val=BQ ys->xs=ys
 |[],_,_,.nil,h=>by simpa using h
 |x::r,_,_,.cons a b,h=>by rw[List.mapM_cons]at h;obtain⟨v,hv,h⟩:=aV.1 h;obtain⟨vs,Mf,h⟩:=aV.1 h;cases h;rw[a.dW hv,lT b Mf]
def va{R:Reach}{w:World}{l:bD}:Rep R w (.s l) (.string ⟨⟨l⟩⟩):=.sc rfl
def Qs{R:Reach}{w:World}{n:Int}:Rep R w (.i .i64 n) (.int .i64 n):=.sc rfl
def sv{R:Reach}{w:World}{x:TV}{v:Value}(h:Rep R w x v):jy R w [x] [v]:=.cons h .nil
def PD:List (Nat×List Value)->Nat->Option (List Value)
 |[],_=>Ku
 |(k,v)::r,n=>cond (Nat.beq n k) (BQ v) (PD r n)
def Aw(k:IntKind)(zs:List Int):List Value:=zs.map λz=>Value.int k z
def Ta{P:Program}{w:World}{name:String}{k:IntKind}{zs:List Int}{g:Nat}(h:Lib.TabIs P w name k zs)(hg:P.globalNamed name=BQ g)(o:Nat):Old w g o/\w.cell? ⟨g,o,Ku⟩=(Aw k zs)[o]?:=by
 have hs:g<w.heap.size:=by
  unfold Lib.TabIs World.var? at h;rw[hg]at h;simp only[Option.bind_some]at h;cases hh:w.heap[g]? with
  |none=>rw[hh]at h;cases h
  |some x=>exact(Array.getElem?_eq_some_iff.1 hh).1
 exact⟨hs,by have:=World.var?_cell hg h o;simpa[Aw]using this⟩
def RM{P:Program}{gl:Nat->Option (List Value)}{R:Reach}{w:World}{name:String}{k:IntKind}{z:Int}{zs:List Int}{g:Nat}(h:GlOK gl R w)(e:gl g=BQ (Aw k (z::zs)))(hg:P.globalNamed name=BQ g):Lib.TabIs P w name k (z::zs):=by
 have h2:=λo=>(h g _ e o).2;have h0:=h2 0;unfold Lib.TabIs World.var?;rw[hg];simp only[Option.bind_some];simp only[World.cell?]at h0 h2;cases hh:w.heap[g]? with
 |none=>rw[hh]at h0;cases h0
 |some x=>
  rw[hh]at h0 h2;cases x with
  |cells cs e f=>simp only at h2⊢;congr 1;apply Array.ext_getElem?;intro i;have:=h2 i;simp only[Option.isSome_none,bq,if_false]at this;rw[this];simp[Aw]
  |_=>cases h0
def gl_nil{R:Reach}{w:World}:GlOK (PD []) R w:=λ_ _ h=>by cases h
def gl_cons{P:Program}{w:World}{name:String}{k:IntKind}{zs:List Int}{g:Nat}{r:List (Nat×List Value)}(h:Lib.TabIs P w name k zs)(hg:P.globalNamed name=BQ g)(t:GlOK (PD r) (Old w) w):GlOK (PD ((g,Aw k zs)::r)) (Old w) w:=λn vs hn o=>by
 unfold PD at hn;cases hb:Nat.beq n g with
 |true=>rw[hb]at hn;cases hn;rw[aB hb];exact Ta h hg o
 |false=>rw[hb]at hn;exact t n vs hn o
def rP(w:World)(k:Nat)(os:Array Obj):Below w.heap.size w (grow (w.drewN k) os):=⟨rfl,rfl,rfl,by show w.heap.size<=(w.heap++os).size;simp,λi hi=>heap_grow_old (w.drewN k) os hi⟩
def kn(n:Nat):bD:=if h:n<10 then[UInt8.ofNat (48+n)]else kn (n/10)++[UInt8.ofNat (48+n%10)]
termination_by n
decreasing_by omega
theorem E0(n:Nat):Lib.decDigits n=kn n:=by
 induction n using Nat.strongRecOn with
 |_ n ih=>rw[Lib.decDigits,kn];by_cases h:n<10;{rw[dif_pos h,dif_pos h]};{rw[dif_neg h,dif_neg h,ih (n/10) (by omega)]}
theorem L8(n:Nat):Lib.itoa (n:Int)=kn n:=by rw[Lib.itoa,ak (by omega),ah,E0]
end Go.Eng
namespace Go.Eng
open Go.RowKit
def rj(P:Program)(n:Nat)(t:TypeId)(A:Type)(g:A->List TV):Prop:=∀(H:Type)(enc:TypeId×Value->H)(w:World)(base:Nat)(spare:Nat->Bool)(held:Bool)(cs:List Value)(x:DataW H×List MemPlace),DataW.trod enc P w base spare held n t cs=BQ x->∃a:A,dR (Old w) w (g a) cs
def UA{n:Int}(h:(Lit.int .u8 n).wf=NS):((UInt8.ofInt n).toNat:Int)=n:=by have hx:0<=n/\n<=255:=by{simpa[Lit.wf,IntKind.min,IntKind.max,IntKind.signed,IntKind.bits]using h};rw[yA,Uv];omega
section
variable{P:Program}{n:Nat}{t:TypeId}
theorem A4(ht:P.underlying t=BQ (.int .i64)):rj P n t Int λm=>[.i .i64 m]:=by intro H enc w base spare held cs x h;obtain⟨m,rfl,_,_⟩:=DataW.trod_int ht h;exact⟨m,.cons rfl (.sc rfl) .nil⟩
theorem Ry{n:Int}(h:(Lit.int .u64 n).wf=NS):((UInt64.ofInt n).toNat:Int)=n:=by have hx:0<=n/\n<=18446744073709551615:=by{simpa[Lit.wf,IntKind.min,IntKind.max,IntKind.signed,IntKind.bits]using h};have e:IntKind.u64.wrap n=n%(18446744073709551616:Nat):=by{simp[IntKind.wrap,IntKind.bits,IntKind.signed]};rw[vV,e];omega
theorem OV{R:Reach}{w:World}{n:Int}(h:(Lit.int .u64 n).wf=NS):Rep R w (.u64 (UInt64.ofInt n)) (.int .u64 n):=.sc (by show BQ _=BQ _;rw[Ry h])
theorem wv(ht:P.underlying t=BQ (.int .u64)):rj P n t UInt64 λm=>[.u64 m]:=by intro H enc w base spare held cs x h;obtain⟨m,rfl,_,hw⟩:=DataW.trod_int ht h;exact⟨UInt64.ofInt m,.cons rfl (OV hw) .nil⟩
theorem Lu(ht:P.underlying t=BQ (.int .u8)):rj P n t UInt8 λm=>[.u8 m]:=by intro H enc w base spare held cs x h;obtain⟨m,rfl,_,hw⟩:=DataW.trod_int ht h;exact⟨UInt8.ofInt m,.cons rfl (.sc (by show BQ _=BQ _;rw[UA hw])) .nil⟩
theorem wx(ht:P.underlying t=BQ .string):rj P n t bD λm=>[.s m]:=by intro H enc w base spare held cs x h;obtain⟨m,rfl,_,_⟩:=DataW.trod_string ht h;exact⟨m.data.toList,.cons rfl (.sc rfl) .nil⟩
theorem xw{e:TypeId}{st:fE}(ht:P.underlying t=BQ (.slice e))(hs:P.cellsOf e=st.size)(qA:0<st.size)(he:∀m,m<n->rj P m e st.El λa=>(st.tv a).cells):rj P n t (List st.El) λl=>[.sl st l]:=by
 intro H enc w base spare held cs x h;rcases DataW.trod_slice ht h with⟨rfl,_⟩|⟨a,len,cap,elems,rest,m,rfl,rfl,_,_,h2,h3,h4,h5,_,_⟩;{exact⟨[],.cons rfl (.sn _) .nil⟩}
 ·by_cases h0:len=0;{subst h0;exact⟨[],.cons rfl (.em _ h3) .nil⟩}
  ·have get:∀i,i<len->∃ys,w.cells? base (a.add (i*st.size)) st.size=BQ ys/\∃y:st.El,dR (Old w) w (st.tv y).cells ys:=λi hi=>by{have:=h5 i hi;rw[hs]at this;have gI:i<elems.length:=by{omega};rw[aw gI]at this;obtain⟨ys,h6,h7⟩:=aV.1 this;exact⟨ys,h6,he m (Nat.lt_succ_self m) H enc w base spare held ys _ h7⟩};have QQ:a.spot=Ku:=by
    obtain⟨ys,h6,_⟩:=get 0 (by omega);obtain⟨_,h7,h8⟩:=World.cells?_some h6;have h9:=h8 0 qA;cases hy:ys[0]? with
    |none=>rw[List.getElem?_eq_none_iff]at hy;omega
    |some y=>rw[hy]at h9;simpa[Addr.add]using World.cell?_spot h9
   obtain⟨b,off,spot⟩:=a;simp only at QQ;subst QQ;have key:∀k i,i+k=len->∃l:List st.El,l.length=k/\mP (Old w) w st.size (l.map st.tv) b (off+i*st.size):=by
    intro k;induction k with
    |zero=>exact λi _=>⟨[],rfl,.nil _ _ _⟩
    |succ k ih=>intro i hi;obtain⟨l,hl,hE⟩:=ih (i+1) (by omega);obtain⟨ys,h6,y,h7⟩:=get i (by omega);obtain⟨_,h8,h9⟩:=World.cells?_some h6;refine⟨y::l,by simp[hl],.cons (o7.write (fE.oa st y) h7 (λj hj=>?_) (λj z hz=>?_)) ?_⟩;{have jo:=h9 j hj;have hjy:j<ys.length:=by{omega};rw[aw hjy]at jo;by_cases gI:b<w.heap.size;{exact gI};{have:w.heap[b]?=Ku:=Array.getElem?_eq_none (by omega);rw[Ur,Ur]at jo;simp only[World.cell?,this]at jo;cases jo}};{have hj:j<st.size:=by{have:=(aH.1 hz).1;omega};have jo:=h9 j hj;rw[hz,Ur,Ur]at jo;exact jo};{rw[show off+i*st.size+st.size=off+(i+1)*st.size by rw[Nat.succ_mul];omega];exact hE}
   obtain⟨l,hl,hE⟩:=key len 0 (by omega);refine⟨l,.cons rfl (.sl hl.symm h2 h3 ?_) .nil⟩;simpa using hE
def ri(P:Program)(n:Nat)(fs:List (TypeId×Nat))(off:Nat)(A:Type)(g:A->List TV):Prop:=∀(H:Type)(enc:TypeId×Value->H)(w:World)(base:Nat)(spare:Nat->Bool)(held:Bool)(cs:List Value),(∀f∈fs,∃x:DataW H×List MemPlace,DataW.trod enc P w base spare held n f.1 ((cs.drop f.2).take (P.cellsOf f.1))=BQ x)->cs.length=off+(fs.map λf=>P.cellsOf f.1).sum->∃a:A,dR (Old w) w (g a) (cs.drop off)
theorem Hy{off:Nat}:ri P n [] off Unit λ_=>[]:=by intro H enc w base spare held cs _ hl;refine⟨(),?_⟩;rw[az (by simp at hl;omega)];exact .nil
theorem lR{t:TypeId}{fs:List (TypeId×Nat)}{off c:Nat}{A B:Type}{g:A->List TV}{g':B->List TV}(hc:P.cellsOf t=c)(h:rj P n t A g)(hr:ri P n fs (off+c) B g'):ri P n ((t,off)::fs) off (A×B) λp=>g p.1++g' p.2:=by subst hc;intro H enc w base spare held cs hx hl;obtain⟨x,h1⟩:=hx (t,off) (List.mem_cons_self ..);obtain⟨a,ha⟩:=h H enc w base spare held _ x h1;obtain⟨b,hb⟩:=hr H enc w base spare held cs (λf' SY=>hx f' (List.mem_cons_of_mem _ SY)) (by simp only[bf,List.sum_cons]at hl;omega);refine⟨(a,b),?_⟩;have e:cs.drop off=(cs.drop off).take (P.cellsOf t)++cs.drop (off+P.cellsOf t):=by{rw[<-List.drop_drop];exact(List.take_append_drop _ _).symm};rw[e];exact ha.append hb
theorem vd{fs:Array Field}{l:List (TypeId×Nat)}{A B:Type}{g:A->List TV}{g':B->List TV}(ht:P.underlying t=BQ (.struct fs))(hl:(fs.toList.map λf=>(f.type,f.offset))=l)(hc:P.cellsOf t=(l.map λf=>P.cellsOf f.1).sum)(hr:∀m,m<n->ri P m l 0 A g)(f:A->B)(hf:∀a,g a=g' (f a)):rj P n t B g':=by intro H enc w base spare held cs x h;obtain⟨xs,m,rfl,_,h1,h2,h3⟩:=DataW.trod_struct ht h;obtain⟨a,ha⟩:=hr m (Nat.lt_succ_self m) H enc w base spare held cs (λp hp=>by rw[<-hl]at hp;obtain⟨f,hf,rfl⟩:=bn.1 hp;obtain⟨i,hi⟩:=List.getElem?_of_mem hf;have gI:=(aH.1 hi).1;have:=h3 i f (by simpa using hi);have SO:i<xs.length:=by{rw[h2];simpa using gI};rw[aw SO]at this;exact⟨_,this⟩) (by rw[h1,hc];simp);exact⟨f a,by rw[<-hf];simpa using ha⟩
def fieldsOf(P:Program)(t:TypeId):Option (List (TypeId×Nat)):=match P.underlying t with
 |some (.struct fs)=>BQ (fs.toList.map λf=>(f.type,f.offset))
 |_=>Ku
theorem ue{l:List (TypeId×Nat)}(h:fieldsOf P t=BQ l):∃fs,P.underlying t=BQ (.struct fs)/\(fs.toList.map λf=>(f.type,f.offset))=l:=by unfold fieldsOf at h;split at h;{rename_i fs e;cases h;exact⟨fs,e,rfl⟩};{cases h}
structure ValTys (P:Program) (tv tf tk ti tu ts tb ty:TypeId):Prop where
 v:fieldsOf P tv=BQ [(ti,0),(tu,1),(tu,2),(tu,3),(ts,4),(ts,5),(ti,6),(tb,7),(tk,8)]
 f:fieldsOf P tf=BQ [(ts,0),(tv,1)]
 k:P.underlying tk=BQ (.slice tf)
 i:P.underlying ti=BQ (.int .i64)
 u:P.underlying tu=BQ (.int .u64)
 s:P.underlying ts=BQ .string
 b:P.underlying tb=BQ (.slice ty)
 y:P.underlying ty=BQ (.int .u8)
 cv:P.cellsOf tv=9
 cf:P.cellsOf tf=10
 ck:P.cellsOf tk=1
 ci:P.cellsOf ti=1
 cu:P.cellsOf tu=1
 cs:P.cellsOf ts=1
 cb:P.cellsOf tb=1
 cy:P.cellsOf ty=1
theorem DZ{y:TypeId}(ht:P.underlying t=BQ (.slice y))(hy:P.underlying y=BQ (.int .u8))(hc:P.cellsOf y=1):rj P n t bD λl=>[.sl .bs l]:=xw (st:=.bs) ht hc (by decide) λ_ _=>Lu hy
theorem ValTys.val{tv tf tk ti tu ts tb ty:TypeId}(T:ValTys P tv tf tk ti tu ts tb ty):∀n,rj P n tv Val Val.cells/\rj P n tf bF bF.cells:=by
 intro n;induction n using Nat.strongRecOn with
 |_ n ih=>have hv:∀m,m<=n->(∀k,k<m->rj P k tf bF bF.cells)->rj P m tv Val Val.cells:=λm hm ihf=>by{obtain⟨fs,h1,h2⟩:=ue T.v;have R:=λ(k:Nat)(hk:k<m)=>(lR (off:=0) T.ci (A4 T.i) (lR T.cu (wv T.u) (lR T.cu (wv T.u) (lR T.cu (wv T.u) (lR T.cs (wx T.s) (lR T.cs (wx T.s) (lR T.ci (A4 T.i) (lR T.cb (DZ T.b T.y T.cy) (lR T.ck (xw (st:=.fl) T.k T.cf (by decide) λj hj=>ihf j (by omega)) Hy)))))))):ri P k _ 0 _ _);exact vd h1 h2 (by simp[T.cv,T.ci,T.cu,T.cs,T.cb,T.ck]) R (λa=>(⟨a.1,a.2.1,a.2.2.1,a.2.2.2.1,a.2.2.2.2.1,a.2.2.2.2.2.1,a.2.2.2.2.2.2.1,a.2.2.2.2.2.2.2.1,a.2.2.2.2.2.2.2.2.1⟩:Val)) (λa=>rfl)};refine⟨hv n (Nat.le_refl n) λk hk=>(ih k hk).2,?_⟩;obtain⟨fs,h1,h2⟩:=ue T.f;have R:=λ(k:Nat)(hk:k<n)=>(lR (off:=0) T.cs (wx T.s) (lR T.cv (hv k (by omega) λj hj=>(ih j (by omega)).2) Hy):ri P k _ 0 _ _);exact vd h1 h2 (by simp[T.cf,T.cv,T.cs]) R (λa=>bF.of a.1 a.2.1) (λa=>by simp[bF.of,bF.cells,Val.cells,bF.name,bF.kind,bF.bits,bF.high,bF.low,bF.text,bF.more,bF.sub,bF.bytes,bF.kids])
theorem ValTys.rep{tv tf tk ti tu ts tb ty:TypeId}(T:ValTys P tv tf tk ti tu ts tb ty){H:Type}{enc:TypeId×Value->H}{w:World}{base:Nat}{spare:Nat->Bool}{held:Bool}{cs:Array Value}{d:DataW H}{p:List MemPlace}(h:DataW.Trod enc P w base spare held tv (.agg cs) d p):∃v:Val,Rep (Old w) w (.ag (Val.cells v)) (.agg cs):=by obtain⟨n,h⟩:=h;obtain⟨v,hv⟩:=(T.val n).1 H enc w base spare held _ _ h;exact⟨v,.ag (by simpa[Value.cells]using hv)⟩
end
end Go.Eng
namespace Go.Eng
open Ieee
namespace Fl
def Val(m:Nat)(p:Int)(N:Nat):Prop:=m*2^p.toNat=N*2^(-p).toNat
def W(b:Nat)(n:Int):Prop:=∃s m p,double.read b=.number s m p/\Val m p n.natAbs/\(n<0->s=NS)/\(0<n->s=NT)
def BE(s:Bool)(k d:Nat)(h:d<=(k*2^d).log2+2):Toward.even.cut s (k*2^d) d=k:=by unfold Toward.cut;rw[Nat.min_eq_left h,Nat.one_shiftLeft];have hp:0<2^d:=Nat.two_pow_pos d;have h1:k*2^d/2^d=k:=Nat.mul_div_cancel k hp;have h2:k*2^d%2^d=0:=Nat.mul_mod_left k (2^d);simp only[h1,h2];have h3:¬(2^d<2*0):=by{omega};have h4:(2^d==2*0)=NT:=by{rw[beq_eq_false_iff_ne];omega};simp[h3,h4]
def cut0(s:Bool)(n:Nat):Toward.even.cut s n 0=n:=by have:=BE s n 0 (Nat.zero_le _);rwa[Nat.pow_zero,Nat.mul_one]at this
def rF(N k:Nat)(h:N≠0):(N*2^k).log2=N.log2+k:=by have hp:0<2^k:=Nat.two_pow_pos k;have hn:N*2^k≠0:=Nat.mul_ne_zero h (by omega);refine(Nat.log2_eq_iff hn).2 ⟨?_,?_⟩;{rw[Nat.pow_add];exact ay _ (Nat.log2_self_le h)};{rw[show N.log2+k+1=N.log2+1+k by omega,Nat.pow_add];exact Nat.mul_lt_mul_of_pos_right Nat.lt_log2_self hp}
set_option maxRecDepth 10000 in
def Df(s:Bool)(m:Nat)(p:Int)(N:Nat)(hN:N<=9007199254740992)(hv:Val m p N):∃K q,double.read (double.write (.number s m p))=.number s K q/\Val K q N:=by have hw:double.signWeight=2^63:=rfl;have hB:double.binade=4503599627370496:=rfl;have hI:double.infRung=2047*4503599627370496:=rfl;have hL':double.leastPlace=-1074:=by{decide};have QS:∀sr,sr<2^63->double.read (double.word s sr)=(if sr<4503599627370496 then .number s sr (-1074)else if sr<2047*4503599627370496 then .number s (4503599627370496+sr%4503599627370496) (-1074+(sr/4503599627370496 -1:Nat))else if sr=2047*4503599627370496 then .infinity s else .nan s (sr -2047*4503599627370496)):=by{intro sr hr;unfold Format.read Format.word;simp only[hw,hB,hI,hL'];have e1:(if s=NS then 2^63+sr else sr)%2^63=sr:=by{cases s<;>simp<;>omega};have e2:((if s=NS then 2^63+sr else sr)/2^63%2==1)=s:=by{cases s;{have:sr/2^63=0:=Nat.div_eq_of_lt hr;simp only[bq,if_false];rw[this];rfl};{have:(2^63+sr)/2^63=1:=by{rw[Nat.add_div_left _ (by decide),Nat.div_eq_of_lt hr]};simp only[if_true];rw[this];rfl}};rw[e1,e2]};by_cases hm:m=0;{subst hm;refine⟨0,-1074,?_,?_⟩;{unfold Format.write Format.nearest;simp only[if_true];rw[QS 0 (by decide),ar (by decide)]};{unfold Val at hv⊢;have Q6:N=0:=by{rw[Nat.zero_mul]at hv;rcases Nat.mul_eq_zero.1 hv.symm with h|h;{exact h};{exact absurd h (Nat.pos_iff_ne_zero.1 (Nat.two_pow_pos _))}};rw[Q6,Nat.zero_mul,Nat.zero_mul]}};{have Q6:N≠0:=λh=>by{unfold Val at hv;rw[h,Nat.zero_mul]at hv;rcases Nat.mul_eq_zero.1 hv with h|h;{exact hm h};{exact absurd h (Nat.pos_iff_ne_zero.1 (Nat.two_pow_pos _))}};have hlog:p+m.log2=N.log2:=by{unfold Val at hv;have h1:=rF m p.toNat hm;have h2:=rF N (-p).toNat Q6;rw[hv]at h1;omega};have hl:N.log2<=53:=by{have:=Nat.log2_self_le Q6;have h3:2^N.log2<2^54:=by{omega};have:=(Nat.pow_lt_pow_iff_right (show 1<2 by decide)).1 h3;omega};have SG:=Nat.log2_self_le Q6;have Ko:N<2^(N.log2+1):=Nat.lt_log2_self;obtain⟨L,hL⟩:∃L:Int,L=(N.log2:Int) -52:=⟨_,rfl⟩;obtain⟨K,k1,k2,k3,k4,k5⟩:∃K:Nat,Val K L N/\4503599627370496<=K/\K<9007199254740992/\(L<=p->m*2^(p -L).toNat=K)/\(p<L->m=K*2^(L -p).toNat):=by{unfold Val at hv;by_cases hc:N.log2<=52;{have eL:L.toNat=0:=by{omega};have eL2:(-L).toNat=52 -N.log2:=by{omega};refine⟨N*2^(52 -N.log2),?_,?_,?_,λh=>?_,λh=>?_⟩;{unfold Val;rw[eL,eL2,Nat.pow_zero,Nat.mul_one]};{have:=ay (2^(52 -N.log2)) SG;rw[<-Nat.pow_add,show N.log2+(52 -N.log2)=52 by omega]at this;exact this};{have:=Nat.mul_lt_mul_of_pos_right Ko (Nat.two_pow_pos (52 -N.log2));rw[<-Nat.pow_add,show N.log2+1+(52 -N.log2)=53 by omega]at this;exact this};{by_cases h0:0<=p;{rw[show(-p).toNat=0 by omega,Nat.pow_zero,Nat.mul_one]at hv;rw[show(p -L).toNat=p.toNat+(52 -N.log2) by omega,Nat.pow_add,<-Nat.mul_assoc,hv]};{rw[show p.toNat=0 by omega,Nat.pow_zero,Nat.mul_one]at hv;rw[hv,Nat.mul_assoc,<-Nat.pow_add,show(-p).toNat+(p -L).toNat=52 -N.log2 by omega]}};{rw[show p.toNat=0 by omega,Nat.pow_zero,Nat.mul_one]at hv;rw[hv,Nat.mul_assoc,<-Nat.pow_add,show 52 -N.log2+(L -p).toNat=(-p).toNat by omega]}};{have e53:N.log2=53:=by{omega};have eN:N=9007199254740992:=by{rw[e53]at SG;omega};have eL:L=1:=by{omega};subst eL;refine⟨4503599627370496,?_,by decide,by decide,λh=>?_,λh=>?_⟩;{unfold Val;rw[eN];rfl};{rw[show(-p).toNat=0 by omega,Nat.pow_zero,Nat.mul_one,show p.toNat=(p -1).toNat+1 by omega,Nat.pow_succ,eN,<-Nat.mul_assoc]at hv;omega};{rw[show p.toNat=0 by omega,Nat.pow_zero,Nat.mul_one,eN]at hv;rw[hv,show(1 -p).toNat=(-p).toNat+1 by omega,Nat.pow_succ];omega}}};have VP:Toward.even.cut s (m<<<(p -L).toNat) (L -p).toNat=K:=by{rw[Nat.shiftLeft_eq];by_cases h:L<=p;{rw[k4 h,show(L -p).toNat=0 by omega];exact cut0 s K};{have e:=k5 (by omega);rw[show(p -L).toNat=0 by omega,Nat.pow_zero,Nat.mul_one,e];refine BE s K _ ?_;rw[<-e];omega}};have hrg:(L+1074).toNat*4503599627370496+K<2047*4503599627370496:=by{omega};refine⟨K,L,?_,k1⟩;unfold Format.write Format.nearest;simp only[ak hm,hB,hI,hL',show double.fractionBits=52 from rfl];rw[show max (p+(m.log2:Int) -((52:Nat):Int)) (-1074)=L by omega,VP,show L - -1074=L+1074 by omega,Nat.min_eq_left (by omega),QS _ (by omega),ak (by omega),ar (by omega)];have r1:((L+1074).toNat*4503599627370496+K)%4503599627370496=K -4503599627370496:=by{omega};have r2:((L+1074).toNat*4503599627370496+K)/4503599627370496=(L+1074).toNat+1:=by{omega};have r3:4503599627370496+(K -4503599627370496)=K:=by{omega};have r4:-1074+(((L+1074).toNat+1 -1:Nat):Int)=L:=by{omega};rw[r1,r2,r3,r4]}
def WD(d:Datum)(n:Int):Prop:=∃s m p,d=.number s m p/\Val m p n.natAbs/\(n<0->s=NS)/\(0<n->s=NT)
def WD.write{d:Datum}{n:Int}(h:WD d n)(hn:n.natAbs<=9007199254740992):W (double.write d) n:=by obtain⟨s,m,p,rfl,hv,h1,h2⟩:=h;obtain⟨K,q,hr,hk⟩:=Df s m p n.natAbs hn hv;exact⟨s,K,q,hr,hk,h1,h2⟩
def W.map{d:Datum}{n:Int}{o:Option Datum}(ho:o=BQ d)(h:WD d n)(hn:n.natAbs<=9007199254740992):∃r,o.map double.write=BQ r/\W r n:=⟨_,by rw[ho];rfl,h.write hn⟩
def WD.product{d e:Datum}{x y:Int}(hx:WD d x)(hy:WD e y):∃r,d.product e=BQ r/\WD r (x*y):=by
 obtain⟨s,m,i,rfl,hv,h1,h2⟩:=hx;obtain⟨t,n,j,rfl,hw,g1,g2⟩:=hy;refine⟨_,rfl,_,_,_,rfl,?_,?_,?_⟩
 ·unfold Val at*;rw[Int.natAbs_mul];obtain⟨c,Od,GO⟩:∃c:Nat,i.toNat+j.toNat=(i+j).toNat+c/\(-i).toNat+(-j).toNat=(-(i+j)).toNat+c:=by{refine⟨i.toNat+j.toNat -(i+j).toNat,?_,?_⟩<;>omega};have h:m*n*2^(i.toNat+j.toNat)=x.natAbs*y.natAbs*2^((-i).toNat+(-j).toNat):=by
   rw[Nat.pow_add,Nat.pow_add];calc m*n*(2^i.toNat*2^j.toNat)=(m*2^i.toNat)*(n*2^j.toNat):=by ac_rfl
    _=(x.natAbs*2^(-i).toNat)*(y.natAbs*2^(-j).toNat):=by rw[hv,hw]
    _=x.natAbs*y.natAbs*(2^(-i).toNat*2^(-j).toNat):=by ac_rfl
  rw[Od,GO,Nat.pow_add,Nat.pow_add,<-Nat.mul_assoc,<-Nat.mul_assoc]at h;exact Nat.eq_of_mul_eq_mul_right (Nat.two_pow_pos c) h
 {intro h;rcases Int.lt_or_lt_of_ne (show x≠0 from λe=>by rw[e,Int.zero_mul]at h;omega)with a|a;{have:0<y:=by{rcases Int.lt_or_lt_of_ne (show y≠0 from λe=>by rw[e,Int.mul_zero]at h;omega)with b|b;{have:=Int.mul_pos_of_neg_of_neg a b;omega};{exact b}};rw[h1 a,g2 this];rfl};{have:y<0:=by{rcases Int.lt_or_lt_of_ne (show y≠0 from λe=>by rw[e,Int.mul_zero]at h;omega)with b|b;{exact b};{have:=Int.mul_pos a b;omega}};rw[h2 a,g1 this];rfl}};{intro h;rcases Int.lt_or_lt_of_ne (show x≠0 from λe=>by rw[e,Int.zero_mul]at h;omega)with a|a;{have:y<0:=by{rcases Int.lt_or_lt_of_ne (show y≠0 from λe=>by rw[e,Int.mul_zero]at h;omega)with b|b;{exact b};{have:=Int.mul_neg_of_neg_of_pos a b;omega}};rw[h1 a,g1 this];rfl};{have:0<y:=by{rcases Int.lt_or_lt_of_ne (show y≠0 from λe=>by rw[e,Int.mul_zero]at h;omega)with b|b;{have:=Int.mul_neg_of_pos_of_neg a b;omega};{exact b}};rw[h2 a,g2 this];rfl}}
def pD{s:Bool}{m:Nat}{i base:Int}{x:Int}(hv:Val m i x.natAbs)(h1:x<0->s=NS)(h2:0<x->s=NT)(hb:base<=i):Ieee.signed s m (i -base).toNat*(2:Int)^base.toNat=x*(2:Int)^(-base).toNat:=by
 unfold Val at hv;have hN:m*2^(i -base).toNat*2^base.toNat=x.natAbs*2^(-base).toNat:=by
  obtain⟨c,Od,GO⟩:∃c:Nat,(i -base).toNat+base.toNat+c=i.toNat+((i -base).toNat+base.toNat+c -i.toNat)/\c=(-i).toNat:=⟨_,by omega,rfl⟩;have e1:(i -base).toNat+base.toNat+(-i).toNat=i.toNat+(-base).toNat:=by{omega};have h:m*2^(i -base).toNat*2^base.toNat*2^(-i).toNat=x.natAbs*2^(-base).toNat*2^(-i).toNat:=by
   calc m*2^(i -base).toNat*2^base.toNat*2^(-i).toNat=m*2^((i -base).toNat+base.toNat+(-i).toNat):=by rw[Nat.pow_add,Nat.pow_add];ac_rfl
    _=m*2^i.toNat*2^(-base).toNat:=by rw[e1,Nat.pow_add];ac_rfl
    _=x.natAbs*2^(-base).toNat*2^(-i).toNat:=by rw[hv];ac_rfl
  exact Nat.eq_of_mul_eq_mul_right (Nat.two_pow_pos _) h
 have hZ:((m*2^(i -base).toNat:Nat):Int)*(2:Int)^base.toNat=(x.natAbs:Int)*(2:Int)^(-base).toNat:=by{have:=congrArg (Nat.cast (R:=Int)) hN;simpa using this};unfold Ieee.signed;rw[Nat.shiftLeft_eq];rcases Int.lt_trichotomy x 0 with a|a|a;{rw[h1 a,ar rfl,Int.neg_mul,hZ,show(x.natAbs:Int)=-x by omega,Int.neg_mul,Int.neg_neg]};{subst a;have h0:((m*2^(i -base).toNat:Nat):Int)*(2:Int)^base.toNat=0:=by{rw[hZ];simp};cases s;{rw[ak (by decide),h0];simp};{rw[ar rfl,Int.neg_mul,h0];simp}};{rw[h2 a,ak (by decide),hZ,show(x.natAbs:Int)=x by omega]}
def WD.sum{d e:Datum}{x y:Int}(hx:WD d x)(hy:WD e y):∃r,d.sum e=BQ r/\WD r (x+y):=by
 obtain⟨s,m,i,rfl,hv,h1,h2⟩:=hx;obtain⟨t,n,j,rfl,hw,g1,g2⟩:=hy;have e1:=pD hv h1 h2 (show min i j<=i by omega);have e2:=pD hw g1 g2 (show min i j<=j by omega);refine⟨_,rfl,_,_,_,rfl,?_,?_,?_⟩;(all_goals generalize min i j=base at e1 e2⊢);all_goals
  have e3:(Ieee.signed s m (i -base).toNat+Ieee.signed t n (j -base).toNat)*(2:Int)^base.toNat=(x+y)*(2:Int)^(-base).toNat:=by rw[Int.add_mul,Int.add_mul,e1,e2]
  generalize Ieee.signed s m (i -base).toNat+Ieee.signed t n (j -base).toNat=T at e3⊢
  have p1:(0:Int)<(2:Int)^base.toNat:=by exact_mod_cast Nat.two_pow_pos base.toNat
  have p2:(0:Int)<(2:Int)^(-base).toNat:=by exact_mod_cast Nat.two_pow_pos (-base).toNat
 {unfold Val;have:=congrArg Int.natAbs e3;rw[Int.natAbs_mul,Int.natAbs_mul,Int.natAbs_pow,Int.natAbs_pow]at this;exact this};{intro h;have hT:T<0:=by{have h3:=Int.mul_neg_of_neg_of_pos h p2;rw[<-e3]at h3;exact Int.not_le.1 λMn=>by have:=Int.mul_nonneg Mn (Int.le_of_lt p1);omega};rw[ak (by omega)];exact aa hT};{intro h;have hT:0<T:=by{have h3:=Int.mul_pos h p2;rw[<-e3]at h3;exact Int.not_le.1 λMn=>by have:=Int.mul_nonneg (show 0<=-T by omega) (Int.le_of_lt p1);rw[Int.neg_mul]at this;omega};rw[ak (by omega)];exact ab (by omega)}
def WD.opposite{d:Datum}{x:Int}(hx:WD d x):WD d.opposite (-x):=by obtain⟨s,m,i,rfl,hv,h1,h2⟩:=hx;exact⟨!s,m,i,rfl,by rw[Int.natAbs_neg];exact hv,λh=>by rw[h2 (by omega)];rfl,λh=>by rw[h1 (by omega)];rfl⟩
def Kj{a b:Nat}{x y:Int}(ha:W a x)(hb:W b y)(h:(x+y).natAbs<=9007199254740992):∃r,double.add a b=BQ r/\W r (x+y):=by obtain⟨d,e,hd⟩:=WD.sum ha hb;exact W.map e hd h
def IM{a b:Nat}{x y:Int}(ha:W a x)(hb:W b y)(h:(x -y).natAbs<=9007199254740992):∃r,double.sub a b=BQ r/\W r (x -y):=by obtain⟨d,e,hd⟩:=WD.sum ha (WD.opposite hb);exact W.map e hd h
def Jm{a b:Nat}{x y:Int}(ha:W a x)(hb:W b y)(h:(x*y).natAbs<=9007199254740992):∃r,double.mul a b=BQ r/\W r (x*y):=by obtain⟨d,e,hd⟩:=WD.product ha hb;exact W.map e hd h
def D0(n:Int)(h:n.natAbs<=9007199254740992):W (double.write (.number (n<0) n.natAbs 0)) n:=WD.write ⟨_,_,_,rfl,by unfold Val;simp,λh=>aa h,λh=>ab (by omega)⟩ h
def mT{a b:Nat}{x y:Int}(ha:W a x)(hb:W b y):double.order a b=BQ (compare x y):=by obtain⟨s,m,i,hr,hv,h1,h2⟩:=ha;obtain⟨t,n,j,hq,hw,g1,g2⟩:=hb;have e1:=pD hv h1 h2 (show min i j<=i by omega);have e2:=pD hw g1 g2 (show min i j<=j by omega);unfold Format.order;rw[hr,hq];show BQ (compare (Ieee.signed s m (i -min i j).toNat) (Ieee.signed t n (j -min i j).toNat))=_;generalize min i j=base at e1 e2⊢;have p1:(0:Int)<(2:Int)^base.toNat:=by{exact_mod_cast Nat.two_pow_pos base.toNat};have p2:(0:Int)<(2:Int)^(-base).toNat:=by{exact_mod_cast Nat.two_pow_pos (-base).toNat};generalize Ieee.signed s m (i -base).toNat=A at e1⊢;generalize Ieee.signed t n (j -base).toNat=B at e2⊢;congr 1;rcases Int.lt_trichotomy x y with c|c|c;{have h3:=Int.mul_lt_mul_of_pos_right c p2;rw[<-e1,<-e2]at h3;have h4:A<B:=Int.lt_of_mul_lt_mul_right h3 (Int.le_of_lt p1);rw[Int.compare_eq_lt.2 h4,Int.compare_eq_lt.2 c]};{subst c;rw[<-e2]at e1;have h4:A=B:=Int.eq_of_mul_eq_mul_right (by omega) e1;rw[h4];simp};{have h3:=Int.mul_lt_mul_of_pos_right c p2;rw[<-e1,<-e2]at h3;have h4:B<A:=Int.lt_of_mul_lt_mul_right h3 (Int.le_of_lt p1);rw[Int.compare_eq_gt.2 h4,Int.compare_eq_gt.2 c]}
end Fl
end Go.Eng
namespace Go.Eng
open Go.IntWalk
theorem bC{R:Type}{p:Bool}{x:Option R}(h:p=NS):ck p x=x:=by rw[h];rfl
def ck4(a b:Bool):(!a||(a&&(b||(a&&!b))))=NS:=by cases a<;>cases b<;>rfl
def ck5(a b:Bool):(!a||(a&&(!b||(a&&b))))=NS:=by cases a<;>cases b<;>rfl
theorem lf:maxLen=9223372036854775807:=by decide
def vF{n:Nat}(h:n<=1099511627776):qQ n=NS:=Be.2 (by rw[lf];omega)
def dJ{n b:Nat}(h:n*b<=140737488355328)(h2:n<=140737488355328):dP n b=NS:=NK.2 ⟨by rw[lf];omega,h⟩
def dC{n:Int}{l:Nat}(h0:0<=n)(h1:n<l):bG n l=NS:=tq.2 ⟨h0,h1⟩
def oQ{a b:Int}{l:Nat}(h0:0<=a)(h1:a<=b)(h2:b<=l):fe a b l=NS:=J9.2 ⟨h0,h1,h2⟩
theorem gK{p:Prop}[Decidable p]{R:Type}{x:Option R}(h:p:=by omega):ck (oG p) x=x:=bC (aa h)
theorem jQ{n:Int}{l:Nat}{R:Type}{x:Option R}(h0:0<=n:=by omega)(h1:n<l:=by omega):ck (bG n l) x=x:=bC (dC h0 h1)
theorem Aa{a b:Int}{l:Nat}{R:Type}{x:Option R}(h0:0<=a:=by omega)(h1:a<=b:=by omega)(h2:b<=l:=by omega):ck (fe a b l) x=x:=bC (oQ h0 h1 h2)
theorem Of{n b:Nat}{R:Type}{x:Option R}(h:n*b<=140737488355328:=by omega)(h2:n<=140737488355328:=by omega):ck (dP n b) x=x:=bC (dJ h h2)
theorem iv{a:Bool}{R:Type}{x:Option R}:ck (!a||a) x=x:=by cases a<;>rfl
theorem Da{a:Bool}{R:Type}{x:Option R}:ck (a||!a) x=x:=by cases a<;>rfl
theorem iw{x:Int}(h:-9223372036854775808<=x/\x<=9223372036854775807:=by omega):IntKind.i64.wrap x=x:=i64_in x h
theorem cT{p:Prop}[Decidable p]{α:Type}{a b:α}(h:p:=by omega):cond (oG p) a b=a:=by rw[aa h];rfl
theorem cF{p:Prop}[Decidable p]{α:Type}{a b:α}(h:¬p:=by omega):cond (oG p) a b=b:=by rw[ab h];rfl
theorem nO{c:Prop}[Decidable c]{α:Type}{a b:α}(h:¬c:=by omega):(if c then a else b)=b:=ak h
theorem pO{c:Prop}[Decidable c]{α:Type}{a b:α}(h:c:=by omega):(if c then a else b)=a:=ar h
theorem dT{p:Prop}[Decidable p](h:p:=by omega):oG p=NS:=aa h
theorem dF{p:Prop}[Decidable p](h:¬p:=by omega):oG p=NT:=ab h
theorem qi(n:Nat):(BitVec.ofInt 64 (n:Int))=BitVec.ofNat 64 n:=by apply BitVec.eq_of_toNat_eq;rw[BitVec.toNat_ofInt,BitVec.toNat_ofNat];omega
def Qb(a b:Nat)(ha:a<9223372036854775808)(hb:b<9223372036854775808):dm .and .i64 a b=((a&&&b:Nat):Int):=by have h1:a&&&b<=a:=Nat.and_le_left;have e:dm .and .i64 a b=IntKind.i64.wrap (((BitVec.ofInt 64 (a:Int)&&&BitVec.ofInt 64 (b:Int)).toNat:Nat):Int):=rfl;rw[e,qi,qi,BitVec.toNat_and,BitVec.toNat_ofNat,BitVec.toNat_ofNat,Nat.mod_eq_of_lt (by omega),Nat.mod_eq_of_lt (by omega)];exact iw
def Vg{a b k:Nat}(ha:a<2^k)(hb:b<2^k):a|||b<2^k:=Nat.or_lt_two_pow ha hb
def RZ(a b:Nat)(ha:a<9223372036854775808)(hb:b<9223372036854775808):dm .or .i64 a b=((a|||b:Nat):Int):=by have h1:a|||b<9223372036854775808:=Vg (k:=63) (by simpa using ha) (by simpa using hb);have e:dm .or .i64 a b=IntKind.i64.wrap (((BitVec.ofInt 64 (a:Int)|||BitVec.ofInt 64 (b:Int)).toNat:Nat):Int):=rfl;rw[e,qi,qi,BitVec.toNat_or,BitVec.toNat_ofNat,BitVec.toNat_ofNat,Nat.mod_eq_of_lt (by omega),Nat.mod_eq_of_lt (by omega)];exact iw
def qw{a b k:Nat}(hb:b<2^k):(a*2^k)|||b=a*2^k+b:=by rw[<-Nat.shiftLeft_eq,Nat.shiftLeft_add_eq_or_of_lt hb]
def TS{α:Type}{l:List α}{i:Nat}(hi:i<l.length)(d:α):l.drop i=l.getD i d::l.drop (i+1):=by rw[List.drop_eq_getElem_cons hi,aj,aw hi];rfl
theorem rp(n:Nat):(UInt64.ofInt (n:Int)).toNat=n%18446744073709551616:=by have h:=vV (n:Int);rw[mQ]at h;omega
theorem uh(n:Nat):(UInt8.ofInt (n:Int)).toNat=n%256:=by have h:=yA (n:Int);rw[Uv]at h;omega
end Go.Eng
namespace Go.Eng
namespace Nt
def val:List UInt16->Nat
 |[]=>0
 |d::r=>d.toNat+65536*val r
def fix:Nat->Nat->List UInt16
 |0,_=>[]
 |k+1,n=>UInt16.ofNat n::fix k (n/65536)
def of(n:Nat):List UInt16:=if n=0 then[]else UInt16.ofNat n::of (n/65536)
termination_by n
decreasing_by exact Nat.div_lt_self (by omega) (by omega)
def norm(a:List UInt16):Bool:=oG (a.getLast?≠BQ 0)
def is(a:List UInt16):Bool:=oG (a.length<=256)&&norm a
def bits(n:Nat):Nat:=if n=0 then 0 else n.log2+1
def cmp(a b:Nat):Int:=if a<b then -1 else if a=b then 0 else 1
end Nt
namespace Gz
def Uz:List Cx:=[(4607182418800017408,0),(0,4607182418800017408),(13830554455654793216,0),(0,13830554455654793216)]
def mul(z w:Cx):Cx:=(Fl.wW z.1 z.2 w.1 w.2,Fl.wX z.1 z.2 w.1 w.2)
def add(z w:Cx):Cx:=(Fl.add z.1 w.1,Fl.add z.2 w.2)
def unit(k:Int):Cx:=Uz.getD (k%4).toNat (0,0)
def kD(z:Cx)(k:Int):Cx:=mul z (unit k)
def part(l:Qd)(way:Int)(k:Nat):Nat->Cx
 |0=>(0,0)
 |j+1=>add (part l way k j) (kD (l.get j) (j*k*way))
def rA(l:Qd)(way:Int):Qd:=⟨part l way 0 4,part l way 1 4,part l way 2 4,part l way 3 4⟩
def quarter(z:Cx):Cx:=(Fl.ofInt ((Fl.toInt z.1).tdiv 4),Fl.ofInt ((Fl.toInt z.2).tdiv 4))
def back(l:Qd):Qd:=⟨quarter (part l (-1) 0 4),quarter (part l (-1) 1 4),quarter (part l (-1) 2 4),quarter (part l (-1) 3 4)⟩
def C1(n:Int):Cx:=(Fl.ofInt n,Fl.ofInt 0)
def j0:List Int->List Qd
 |[]=>[]
 |[a]=>[rA ⟨C1 a,(0,0),(0,0),(0,0)⟩ 1]
 |a::b::r=>rA ⟨C1 a,C1 b,(0,0),(0,0)⟩ 1::j0 r
def Is(z:Cx)(x y:Int):Prop:=Fl.W z.1 x/\Fl.W z.2 y
def In(z:Cx)(M:Nat):Prop:=∃x y:Int,Is z x y/\x.natAbs<=M/\y.natAbs<=M
def Rr(l:Qd)(M:Nat):Prop:=In l.c0 M/\In l.c1 M/\In l.c2 M/\In l.c3 M
def In4(z:Cx):Prop:=∃x y:Int,Is z (4*x) (4*y)/\x.natAbs<=562949953421312/\y.natAbs<=562949953421312
open Classical in
def AB(z:Cx)(M:Nat):Bool:=oG (In z M)
open Classical in
def C3(l:Qd)(M:Nat):Bool:=oG (Rr l M)
open Classical in
def Sq(l:Qd):Bool:=oG (∀k,k<4->In4 (part l (-1) k 4))
open Classical in
def Sp(z:Cx)(b:Nat):Bool:=oG (∃x y m:Int,Is z x y/\Fl.W b m/\(x.natAbs:Int)<=m/\(y.natAbs:Int)<=m/\m<=9007199254740992)
open Classical in
def QJ(b:Nat):Bool:=oG (∃n:Int,Fl.W b n/\n.natAbs<=1125899906842624)
def Kc(a b:List Int)(m:Nat):Int:=(List.range (m+1)).foldl (λs i=>s+a.getD i 0*b.getD (m -i) 0) 0
def conv (a b:List Int):List Int:=if a=[]\/b=[]then[]else(List.range (a.length+b.length -1)).map (Kc a b)
def kn(a:List Int):Bool:=a.all λx=>oG (0<=x/\x<=65535)
end Gz
namespace Nr
def dG(c:UInt8):Bool:=oG (48<=c/\c<=57)
def num(d:bD):Nat:=d.foldl (λn c=>10*n+(c.toNat -48)) 0
def dec(n:Nat):bD:=if n<10 then[UInt8.ofNat (48+n)]else dec (n/10)++[UInt8.ofNat (48+n%10)]
termination_by n
decreasing_by exact Nat.div_lt_self (by omega) (by omega)
def QI:{f:Int->bD//∀v,f v=if v<0 then 45::dec v.natAbs else dec v.natAbs}:=Classical.choice ⟨⟨λv=>if v<0 then 45::dec v.natAbs else dec v.natAbs,λ_=>rfl⟩⟩
def itoa(v:Int):bD:=QI.1 v
theorem jH(v:Int):itoa v=if v<0 then 45::dec v.natAbs else dec v.natAbs:=QI.2 v
def cZ(d:bD):bD:=(d.reverse.dropWhile (· ==48)).reverse
def zl(d:bD):bD:=d.dropWhile (· ==48)
def lX(p:Nat):Nat:=if p<4503599627370496 then p else p%4503599627370496+4503599627370496
def sh(p:Nat):Nat:=p/4503599627370496 -1
def qO(p:Nat):Nat:=(2*lX p+1)*2^sh p
def kq:Nat:=2*2^1074
def iH(a b p:Nat):Prop:=qO p*b<a*kq\/(qO p*b=a*kq/\p%2=1)
def top:Nat:=9218868437227405311
open Classical in
def kG(a b:Nat):Option Nat:=if h:∃p,p<=top/\¬iH a b p/\∀q,q<p->iH a b q then BQ h.choose else Ku
def valid(d:bD):Bool:=oG (1<=d.length/\d.length<=300)&&d.all dG
def rd(n:Nat)(k:Int):Option Nat:=kG (n*10^k.toNat) (10^(-k).toNat)
def read(d:bD)(x:Int):Option Nat:=if valid d then rd (num d) (x -d.length)else Ku
def pat(r:Option Nat):UInt64:=UInt64.ofNat (r.getD 0)
def split(b:UInt64):Int×Bool×UInt64×Int:=
 let x:=b.toNat/4503599627370496%2048
 let f:=b.toNat%4503599627370496
 let neg:=oG (9223372036854775808<=b.toNat)
 if x=2047 then(if f=0 then(3,neg,0,0)else(4,neg,0,0))
 else if x=0 then(if f=0 then(1,neg,0,0)else(2,neg,UInt64.ofNat f,-1074))
 else(2,neg,UInt64.ofNat (4503599627370496+f),x -1075)
def JY(m:Nat)(e:Int):Nat:=m*2^e.toNat*5^(-e).toNat
def Bt(m:Nat)(e:Int):bD:=cZ (dec (JY m e))
def C9(m:Nat)(e:Int):Int:=(dec (JY m e)).length+min e 0
def times:List UInt64->UInt64->UInt64->List UInt64
 |[],_,c=>if c>0 then[c]else[]
 |a::r,b,c=>(c+a*b)%100000000::times r b ((c+a*b)/100000000)
def jF(a:bD)(x:Int)(b:bD)(y:Int):Int:=if oG (x<y)||(oG (x=y)&&Op.bytesLess a b)then -1 else if oG (x=y)&&oG (a=b)then 0 else 1
def Aq(a b:Nat):Nat:=if b<2*(a% b)\/(b=2*(a% b)/\a/b%2=1)then a/b+1 else a/b
def qf(a b:Nat):Bool:=oG (Aq a b=a/b+1/\Aq a b=9007199254740992)
def mE(a:Nat)(e:Int):Nat:=a*2^(-e).toNat
def mi(b:Nat)(e:Int):Nat:=b*2^e.toNat
def run(s:bD):Nat:=(s.takeWhile dG).length
def rG(s:bD)(k:Int):Int:=
 match s with
 |[]=>k
 |c::r=>if c=101\/c=69 then
   let r:=match r with|d::q=>if d=43\/d=45 then q else r|[]=>r
   if run r=0\/run r<r.length then 0 else 2
  else 0
def oe(s:bD):Int:=
 match s with
 |46::r=>if run r=0 then 0 else rG (r.drop (run r)) 2
 |s=>rG s 1
def fy(s:bD):Int:=
 let t:=match s with|45::r=>r|s=>s
 if run t=0\/(t.getD 0 0=48/\1<run t)then 0 else oe (t.drop (run t))
open Classical in
def i64(v:Int):Bool:=oG (-9223372036854775808<=v/\v<=9223372036854775807)
def Cs{v:Int}(h:i64 v=NS):oG (-9223372036854775808<=v/\v<=9223372036854775807)=NS:=aa (aq h)
def signed(s:bD):bD:=match s with|c::r=>if c=43\/c=45 then r else s|[]=>[]
def tO(s:bD):Int:=
 let n:Nat:=num (signed s)
 if s.getD 0 0=45 then -(n:Int)else n
def body(s:bD):bD:=match s with|45::r=>r|s=>s
def Mb(c:UInt8):Bool:=oG (c=101\/c=69)
def Pe(s:bD):bD:=(body s).takeWhile λc=>!Mb c
def tail(s:bD):bD:=((body s).dropWhile λc=>!Mb c).drop 1
def ahead(s:bD):bD:=(Pe s).takeWhile (· !=46)
def behind(s:bD):bD:=((Pe s).dropWhile (· !=46)).drop 1
def wq(s:bD):UInt64×Int:=
 if fy s=0 then(0,3)
 else if 300<s.length then(0,10)
 else match read (ahead s++behind s) ((ahead s).length+tO (tail s))with|none=>(0,10)|some p=>(UInt64.ofNat (p+if s.getD 0 0=45 then 9223372036854775808 else 0),0)
def Lr:{f:bD->UInt64×Int//∀s,f s=wq s}:=Classical.choice ⟨⟨wq,λ_=>rfl⟩⟩
def parse(s:bD):UInt64×Int:=Lr.1 s
theorem zd(s:bD):parse s=wq s:=Lr.2 s
open Classical in
def join(neg:Bool)(m:Nat)(e:Int):Option Nat:=if h:∃p,p<=top/\lX p*2^sh p*2^(-(e+1074)).toNat=m*2^(e+1074).toNat then BQ (h.choose+if neg then 9223372036854775808 else 0)else Ku
end Nr
namespace Sh
def tA(a:Nat)(k:Int):Nat:=a*10^k.toNat
def tB(b:Nat)(k:Int):Nat:=b*10^(-k).toNat
open Classical in
def reads(p N:Nat)(k:Int):Option (bD×Int):=if Nr.rd N k=BQ p then BQ (Nr.cZ (Nr.dec N),(Nr.dec N).length+k)else Ku
def some_(p a b:Nat)(x n:Int):Option (bD×Int):=
 let P:=tA a (n -x)
 let Q:=tB b (n -x)
 let u:=reads p (P/Q) (x -n)
 let o:=reads p (P/Q+1) (x -n)
 if u.isSome=NS/\(o.isSome=NT\/2*(P% Q)<Q\/(2*(P% Q)=Q/\P/Q%2=0))then u else o
def kP(p:Nat):Nat:=Nr.lX p*2^((Nr.sh p:Int) -1074).toNat
def iR(p:Nat):Nat:=2^(-((Nr.sh p:Int) -1074)).toNat
def dx(p:Nat):Int:=Nr.C9 (Nr.lX p) ((Nr.sh p:Int) -1074)
def go(p:Nat):Nat->Nat->bD×Int
 |0,_=>([],0)
 |f+1,i=>(some_ p (kP p) (iR p) (dx p) i).getD (go p f (i+1))
theorem go_succ(p f i:Nat):go p (f+1) i=(some_ p (kP p) (iR p) (dx p) i).getD (go p f (i+1)):=rfl
def digits(p:Nat):bD×Int:=go p 17 1
def ju(b:UInt64):Nat:=b.toNat%9223372036854775808
def Yd(b:UInt64):bD×Int×Bool:=if(Nr.split b).1=2 then((digits (ju b)).1,(digits (ju b)).2,NS)else([],0,NT)
def dgX:{f:UInt64->bD×Int×Bool//∀b,f b=Yd b}:=Classical.choice ⟨⟨Yd,λ_=>rfl⟩⟩
def dg(b:UInt64):bD×Int×Bool:=dgX.1 b
theorem Rc(b:UInt64):dg b=Yd b:=dgX.2 b
def eK(n:Int):bD:=List.replicate n.toNat 48
def laid(d:bD)(x:Int):bD:=
 if 1<=x/\x<=21/\(d.length:Int)<=x then d++eK (x -d.length)
 else if 1<=x/\x<=21 then d.take x.toNat++([46]++d.drop x.toNat)
 else if -5<=x/\x<=0 then[48,46]++(eK (-x)++d)
 else(d.take 1++(if 1<d.length then 46::d.drop 1 else[]))++(if x<1 then[101,45]++Nr.itoa (1 -x)else[101,43]++Nr.itoa (x -1))
def wi(p:Nat)(below NQ:Int):Bool:=if p%2=0 then oG (0<=below)&&oG (NQ<=0)else oG (0<below)&&oG (NQ<0)
def more(d:bD)(x:Int):bD×Int:=
 let s:=(d.reverse.dropWhile (· ==57)).reverse
 if s=[]then([49],x+1)else(s.dropLast++[s.getLast?.getD 0+1],x)
def Hq:{f:Nat->bD//∀n,f n=Nr.dec n}:=Classical.choice ⟨⟨Nr.dec,λ_=>rfl⟩⟩
def vY(n:Nat):bD:=Hq.1 n
theorem AN(n:Nat):vY n=Nr.dec n:=Hq.2 n
def HA:{f:Nat->Nat->Int->Option (bD×Int)//∀p N k,f p N k=reads p N k}:=Classical.choice ⟨⟨reads,λ_ _ _=>rfl⟩⟩
def nN(p N:Nat)(k:Int):Option (bD×Int):=HA.1 p N k
theorem AV(p N:Nat)(k:Int):nN p N k=reads p N k:=HA.2 p N k
def KV:{f:Nat->Nat->Nat->Int->Int->Option (bD×Int)//∀p a b x n,f p a b x n=some_ p a b x n}:=Classical.choice ⟨⟨some_,λ_ _ _ _ _=>rfl⟩⟩
def tT(p a b:Nat)(x n:Int):Option (bD×Int):=KV.1 p a b x n
theorem yK(p a b:Nat)(x n:Int):tT p a b x n=some_ p a b x n:=KV.2 p a b x n
open Classical in
def ta(a b:Nat)(x n:Int):Bool:=oG (1<=n/\n<=17/\-380<=x/\x<=380/\0<a/\a<2^1100/\0<b/\b<2^1100/\tB b (n -x)<=tA a (n -x)/\tA a (n -x)<10^17*tB b (n -x))
def LY:{f:bD->Int->bD//∀d x,f d x=laid d x}:=Classical.choice ⟨⟨laid,λ_ _=>rfl⟩⟩
def HW(d:bD)(x:Int):bD:=LY.1 d x
theorem Ek(d:bD)(x:Int):HW d x=laid d x:=LY.2 d x
def sign(b:UInt64):bD:=if(Nr.split b).2.1 then[45]else[]
def tR(b:UInt64):bD:=
 if(Nr.split b).1=4 then[78,97,78]
 else if(Nr.split b).1=3 then sign b++[73,110,102,105,110,105,116,121]
 else if(Nr.split b).1=1 then sign b++[48]
 else sign b++laid (dg b).1 (dg b).2.1
def KQ:{f:UInt64->bD//∀b,f b=tR b}:=Classical.choice ⟨⟨tR,λ_=>rfl⟩⟩
def text(b:UInt64):bD:=KQ.1 b
theorem rz(b:UInt64):text b=tR b:=KQ.2 b
end Sh
set_option maxRecDepth 20000
namespace dE
def oO(r:Int):Bool:=oG (0<=r/\r<=1114111/\(r<55296\/57343<r))
def cont:Nat->Nat->bD->Option Nat
 |r,0,_=>BQ r
 |_,_+1,[]=>Ku
 |r,k+1,c::l=>if 128<=c.toNat/\c.toNat<192 then cont (r*64+(c.toNat -128)) k l else Ku
def qN(r more least:Nat)(l:bD):Int×Int:=
 match cont r more l with
 |some r=>if r<least\/oO r=NT then(0,0)else((r:Int),(more+1:Int))
 |none=>(0,0)
def rune:bD->Int×Int
 |[]=>(0,0)
 |c::l=>
  if c.toNat<128 then((c.toNat:Int),1)
  else if 192<=c.toNat/\c.toNat<224 then qN (c.toNat -192) 1 128 l
  else if 224<=c.toNat/\c.toNat<240 then qN (c.toNat -224) 2 2048 l
  else if 240<=c.toNat/\c.toNat<248 then qN (c.toNat -240) 3 65536 l
  else(0,0)
def mq(b:bD)(i:Int):Int×Int:=if i<0\/(b.length:Int)<=i then(0,0)else rune (b.drop i.toNat)
def vn:Nat->bD->Nat×Nat
 |0,_=>(0,0)
 |n+1,l=>if(rune l).2=0 then(0,0)else let q:=vn n (l.drop (rune l).2.toNat);(q.1+(rune l).2.toNat,q.2+1)
def look(l:bD):Nat×Nat:=vn l.length l
def whole(l:bD):Bool:=oG ((look l).1=l.length)
def zero(l:bD):Bool:=l.contains 0
end dE
mutual
def bF.bJ:bF->Nat
 |.mk n _ _ _ _ t m _ y ks=>1+n.length+t.length+m.length+y.length+bF.bV ks
def bF.bV:List bF->Nat
 |[]=>0
 |f::r=>bF.bJ f+bF.bV r
end
namespace Tree
def Jl:List bD:=[[],[100,111,117,98,108,101],[115,116,114,105,110,103],[100,111,99,117,109,101,110,116],[97,114,114,97,121],[98,105,110,97,114,121],[117,110,100,101,102,105,110,101,100],[111,98,106,101,99,116,105,100],[98,111,111,108],[100,97,116,101],[110,117,108,108],[114,101,103,101,120],[112,111,105,110,116,101,114],[99,111,100,101],[115,121,109,98,111,108],[115,99,111,112,101,100],[105,110,116,51,50],[116,105,109,101,115,116,97,109,112],[105,110,116,54,52],[100,101,99,105,109,97,108]]
def name(k:Int):bD:=
 if k=127 then[109,97,120,107,101,121]
 else if k=255 then[109,105,110,107,101,121]
 else if k<0\/20<=k then[]
 else Jl.getD k.toNat []
def kinds:List Int:=[1,2,3,4,5,6,7,8,9,10,11,12,13,14,15,16,17,18,19,127,255]
def kT(i:Nat)(k:Int):Bool:=
 match i with
 |0=>oG (k∈[1,9,17,18,16,8])
 |1=>oG (k=19)
 |2=>oG (k∈[2,13,14,11,12,15])
 |3=>oG (k=11)
 |4=>oG (k=5)
 |5=>oG (k∈[5,7,12])
 |_=>oG (k∈[3,4,15])
def ia(v:Val):Bool:=
 (kT 0 v.kind||oG (v.bits=0))&&(kT 1 v.kind||(oG (v.high=0)&&oG (v.low=0)))&&(kT 2 v.kind||oG (v.text=[]))&&(kT 3 v.kind||oG (v.more=[]))&&
 (kT 4 v.kind||oG (v.sub=0))&&(kT 5 v.kind||oG (v.bytes=[]))&&(kT 6 v.kind||oG (v.kids=[]))&&
 (!decide (v.kind=16)||oG (v.bits<4294967296))&&(!decide (v.kind=8)||oG (v.bits<2))&&(oG (0<=v.sub)&&oG (v.sub<=255))&&(!(oG (v.kind=7)||oG (v.kind=12))||oG (v.bytes.length=12))
def ft(s:bD)(plain:Bool):Bool:=dE.whole s&&!(plain&&dE.zero s)
def own(v:Val):Int:=
 if name v.kind=[]then 5
 else if ia v=NT then 1
 else if ft v.text (oG (v.kind=11))=NT\/ft v.more (oG (v.kind=11))=NT then 4
 else 0
def sC(v:Val)(n:bD):Int:=if own v≠0 then own v else if ft n NS=NT then 4 else 0
mutual
def fD:bF->List Int->List Int×Int
 |.mk n k b h l t m s y ks,p=>if sC ⟨k,b,h,l,t,m,s,y,ks⟩ n≠0 then(p,sC ⟨k,b,h,l,t,m,s,y,ks⟩ n)else jv ks 0 p
def jv:List bF->Nat->List Int->List Int×Int
 |[],_,_=>([],0)
 |f::r,i,p=>if(fD f (p++[(i:Int)])).2≠0 then fD f (p++[(i:Int)])else jv r (i+1) p
end
def tj(a b:Val):Bool:=oG (a.kind=b.kind)&&oG (a.bits=b.bits)&&oG (a.high=b.high)&&oG (a.low=b.low)&&oG (a.text=b.text)&&oG (a.more=b.more)&&oG (a.sub=b.sub)&&oG (a.bytes=b.bytes)
end Tree
namespace gn
def room(left:Int):List Int->Int
 |[]=>left
 |s::r=>if left<0\/left<s then -1 else room (left -s) r
mutual
def value(left:Int):bF->Int
 |.mk _ _ _ _ _ t m _ y ks=>values (room left [2,t.length,m.length,y.length]) ks
def values(left:Int):List bF->Int
 |[]=>left
 |f::r=>if left<0 then left else values (value (room left [(f.name.length:Int)]) f) r
end
end gn
namespace Tree
def mR:Nat->List bF->Bool
 |_,[]=>NS
 |i,f::r=>oG (f.name=kn i)&&mR (i+1) r
def regular(l:List bF):Bool:=mR 0 l
end Tree
end Go.Eng
set_option maxRecDepth 20000
namespace Go.Eng.kQ
def sign(n:Nat):UInt8:=List.getD [48,49,50,51,52,53,54,55,56,57,97,98,99,100,101,102] n 0
def two(x:UInt8):bD:=[sign (x.toNat/16),sign (x.toNat%16)]
def text:bD->bD
 |[]=>[]
 |x::r=>two x++text r
end Go.Eng.kQ
set_option maxRecDepth 20000
namespace Go.Eng
def dY.Ux:{f:dY->Nat//∀a,f a=a.high.toNat*18446744073709551616+a.low.toNat}:=Classical.choice ⟨⟨λa=>a.high.toNat*18446744073709551616+a.low.toNat,λ_=>rfl⟩⟩
def dY.val(a:dY):Nat:=dY.Ux.1 a
theorem dY.jc(a:dY):a.val=a.high.toNat*18446744073709551616+a.low.toNat:=dY.Ux.2 a
def dY.of(n:Nat):dY:=⟨UInt64.ofNat (n/18446744073709551616),UInt64.ofNat n⟩
namespace Cn
def xp:bD:=[65,66,67,68,69,70,71,72,73,74,75,76,77,78,79,80,81,82,83,84,85,86,87,88,89,90,97,98,99,100,101,102,103,104,105,106,107,108,109,110,111,112,113,114,115,116,117,118,119,120,121,122,48,49,50,51,52,53,54,55,56,57,43,47]
def sign(c:UInt8):UInt8:=List.getD xp ((c.toNat:Int)).toNat 0
def base:bD->bD
 |a::b::c::r=>sign (oK a 2)::sign (o9 (a&&&3) 4|||oK b 4)::sign (o9 (b&&&15) 2|||oK c 6)::sign (c&&&63)::base r
 |[a,b]=>[sign (oK a 2),sign (o9 (a&&&3) 4|||oK b 4),sign (o9 (b&&&15) 2),61]
 |[a]=>[sign (oK a 2),sign (o9 (a&&&3) 4),61,61]
 |[]=>[]
def uj(h l:UInt64):Int×Bool×dY×Int:=
 let neg:=oG (cK h 63=1)
 let Tg:=cK h 58&&&31
 if Tg=31 then(3,neg,⟨0,0⟩,0)
 else if Tg=30 then(2,neg,⟨0,0⟩,0)
 else if cK Tg 3=3 then(1,neg,⟨0,0⟩,((cK h 47&&&16383).toNat:Int) -6176)
 else(1,neg,if dY.val ⟨h&&&562949953421311,l⟩<10000000000000000000000000000000000 then⟨h&&&562949953421311,l⟩else⟨0,0⟩,((cK h 49&&&16383).toNat:Int) -6176)
def KT:{f:UInt64->UInt64->Int×Bool×dY×Int//∀h l,f h l=uj h l}:=Classical.choice ⟨⟨uj,λ_ _=>rfl⟩⟩
def split(h l:UInt64):Int×Bool×dY×Int:=KT.1 h l
theorem uS(h l:UInt64):split h l=uj h l:=KT.2 h l
def sH:dY:=⟨542101086242752,4003012203950112768⟩
def Eo(neg:Bool)(c:dY)(x:Int):UInt64×UInt64×Bool:=
 if 10000000000000000000000000000000000<=c.val\/x< -6176\/6111<x then(0,0,NT)
 else(cond neg ((jB (UInt64.ofInt (x+6176)) 49|||c.high)|||9223372036854775808) (jB (UInt64.ofInt (x+6176)) 49|||c.high),c.low,NS)
def QF:{f:Bool->dY->Int->UInt64×UInt64×Bool//∀n c x,f n c x=Eo n c x}:=Classical.choice ⟨⟨Eo,λ_ _ _=>rfl⟩⟩
def join(n:Bool)(c:dY)(x:Int):UInt64×UInt64×Bool:=QF.1 n c x
theorem join_eq(n:Bool)(c:dY)(x:Int):join n c x=Eo n c x:=QF.2 n c x
def nQ(h l:UInt64):Bool:=
 let s:=split h l
 if s.1=3 then oG (h=8935141660703064064)&&oG (l=0)
 else if s.1=2 then oG (h&&&~~~9223372036854775808=8646911284551352320)&&oG (l=0)
 else(join s.2.1 s.2.2.1 s.2.2.2).2.2&&oG ((join s.2.1 s.2.2.1 s.2.2.2).1=h)&&oG ((join s.2.1 s.2.2.1 s.2.2.2).2.1=l)
def laid(d:bD)(x:Int):bD:=
 let n:Int:=d.length
 if x=0 then d
 else if x<0/\-6<=x+n -1 then
  let e:=if n<=-x then List.replicate (1 -x -n).toNat 48++d else d
  e.take (e.length+x).toNat++46::e.drop (e.length+x).toNat
 else
  let t:=if 1<n then d.take 1++46::d.drop 1 else d.take 1
  if x+n -1<0 then t++[69,45]++Nr.itoa (-(x+n -1))else t++[69,43]++Nr.itoa (x+n -1)
def qX(h l:UInt64):bD:=
 let s:=split h l
 if s.1=3 then[78,97,78]
 else
  let t:=if s.1=2 then[73,110,102,105,110,105,116,121]else laid (Nr.dec s.2.2.1.val) s.2.2.2
  cond s.2.1 (45::t) t
def str(s:bD):cQ:=⟨5,s,[]⟩
def num(v:Int):cQ:=⟨4,Nr.itoa v,[]⟩
def one(n:bD)(j:cQ):cQ:=⟨7,[],[Mem.of n j]⟩
def two(n:bD)(j:cQ)(m:bD)(k:cQ):cQ:=⟨7,[],[Mem.of n j,Mem.of m k]⟩
def b8(v:UInt64):bD:=[56,48,40,32,24,16,8,0].map λn=>UInt8.ofInt ((cK v n).toNat:Int)
def high(v:UInt64):bD:=kQ.text (b8 v)
def i64(b:UInt64):Int:=IntKind.wrap .i64 b.toNat
def i32(b:UInt64):Int:=IntKind.wrap .i64 (IntKind.wrap .i32 b.toNat)
def nF(v:Val):cQ×Bool:=
 if v.kind=1 then
  if oG (Sh.text v.bits=[78,97,78])&&!decide (v.bits=9221120237041090560)then(one [36,100,111,117,98,108,101,66,105,116,115] (str (high v.bits)),NS)
  else(one [36,110,117,109,98,101,114,68,111,117,98,108,101] (str (Sh.text v.bits)),NS)
 else if v.kind=9 then(one [36,100,97,116,101] (one [36,110,117,109,98,101,114,76,111,110,103] (str (Nr.itoa (i64 v.bits)))),NS)
 else if v.kind=16 then(one [36,110,117,109,98,101,114,73,110,116] (str (Nr.itoa (i32 v.bits))),NS)
 else if v.kind=18 then(one [36,110,117,109,98,101,114,76,111,110,103] (str (Nr.itoa (i64 v.bits))),NS)
 else if v.kind=17 then(one [36,116,105,109,101,115,116,97,109,112] (two [116] (num (i64 (cK v.bits 32))) [105] (num (i64 (v.bits&&&4294967295)))),NS)
 else if v.kind=19 then
  if nQ v.high v.low then(one [36,110,117,109,98,101,114,68,101,99,105,109,97,108] (str (qX v.high v.low)),NS)
  else(one [36,100,101,99,105,109,97,108,66,105,116,115] (str (high v.high++high v.low)),NS)
 else(⟨0,[],[]⟩,NT)
def oo(v:Val):cQ:=
 if v.kind=5 then one [36,98,105,110,97,114,121] (two [98,97,115,101,54,52] (str (base v.bytes)) [115,117,98,84,121,112,101] (str (kQ.text [UInt8.ofInt v.sub])))
 else if v.kind=7 then one [36,111,105,100] (str (kQ.text v.bytes))
 else if v.kind=11 then one [36,114,101,103,117,108,97,114,69,120,112,114,101,115,115,105,111,110] (two [112,97,116,116,101,114,110] (str v.text) [111,112,116,105,111,110,115] (str v.more))
 else if v.kind=12 then one [36,100,98,80,111,105,110,116,101,114] (two [36,114,101,102] (str v.text) [36,105,100] (one [36,111,105,100] (str (kQ.text v.bytes))))
 else if v.kind=13 then one [36,99,111,100,101] (str v.text)
 else if v.kind=14 then one [36,115,121,109,98,111,108] (str v.text)
 else str v.text
def mj(v:Val):cQ:=
 if v.kind=6 then one [36,117,110,100,101,102,105,110,101,100] ⟨3,[],[]⟩
 else if v.kind=8 then⟨IntKind.wrap .i64 (2+i64 v.bits),[],[]⟩
 else if v.kind=10 then⟨1,[],[]⟩
 else if v.kind=255 then one [36,109,105,110,75,101,121] (num 1)
 else if v.kind=127 then one [36,109,97,120,75,101,121] (num 1)
 else if(nF v).2 then(nF v).1
 else oo v
def ln:List bF->Bool
 |f::_=>oG (f.name.take 1=[36])
 |[]=>NT
def oN(m:Mem):Mem:=Mem.of [] m.val
mutual
def oP:bF->cQ
 |.mk _ k b h l t m s y ks=>
  if k=3 then cond (ln ks) (one [36,100,111,99,117,109,101,110,116] ⟨7,[],jJ ks⟩) ⟨7,[],jJ ks⟩
  else if k=4 then cond (Tree.regular ks) ⟨6,[],(jJ ks).map oN⟩ (one [36,97,114,114,97,121] ⟨7,[],jJ ks⟩)
  else if k=15 then two [36,99,111,100,101] (str t) [36,115,99,111,112,101] ⟨7,[],jJ ks⟩
  else mj ⟨k,b,h,l,t,m,s,y,ks⟩
def jJ:List bF->List Mem
 |[]=>[]
 |f::r=>Mem.of f.name (oP f)::jJ r
end
def Dk(v:Val):cQ:=oP (bF.of [] v)
def uE(l:List bF):cQ:=⟨7,[],jJ l⟩
def fC(v:Val):List Int×Int:=if(Tree.fD (bF.of [] v) []).2≠0 then Tree.fD (bF.of [] v) []else if v.kind=3 then([],0)else([],5)
def xz(v:Val):cQ:=if(fC v).2=0 then uE v.kids else⟨0,[],[]⟩
def escT:bD:=[34,92,98,102,110,114,116]
def xF(c:UInt8):bD:=
 if 0<=Lib.indexByte [34,92,8,12,10,13,9] c then[92,List.getD escT (Lib.indexByte [34,92,8,12,10,13,9] c).toNat 0]
 else if c<32 then[92,117,48,48]++kQ.text [c]
 else[c]
def quote(s:bD):bD:=34::(s.flatMap xF++[34])
def jC(s:bD):bD:=cond (dE.whole s) (quote s) []
mutual
def rN:Mem->Int
 |.mk _ k t ks=>
  if k<1\/7<k then 1
  else if ks≠[]/\k≠6/\k≠7 then 1
  else if t≠[]/\k≠4/\k≠5 then 1
  else if k=6/\(ks.any fun m=>!decide (m.name=[]))=NS then 1
  else if k=4/\(Nr.fy t=0\/300<t.length)then 10
  else if k=5/\dE.whole t=NT then 4
  else kg ks
def kg:List Mem->Int
 |[]=>0
 |m::r=>if dE.whole m.name=NT then 4 else if rN m≠0 then rN m else kg r
end
mutual
def xJ:Mem->bD
 |.mk _ k t ks=>
  if k=1 then[110,117,108,108]else if k=2 then[102,97,108,115,101]else if k=3 then[116,114,117,101]else if k=4 then t else if k=5 then jC t
  else cond (oG (k=7)) 123 91::(oU (oG (k=7)) NS ks++[cond (oG (k=7)) 125 93])
def oU(obj:Bool):Bool->List Mem->bD
 |_,[]=>[]
 |first,m::r=>cond first [] [44]++(cond obj (jC m.name++[58]) []++(xJ m++oU obj NT r))
end
def iz(j:cQ):Int:=rN (Mem.of [] j)
def sO(j:cQ):bD:=xJ (Mem.of [] j)
def pG(j:cQ):bD:=cond (oG (iz j=0)) (sO j) []
mutual
def xt:Mem->Mem->Bool
 |.mk _ k t ks,.mk _ k' t' Sg=>oG (k=k')&&oG (t=t')&&nh ks Sg
def nh:List Mem->List Mem->Bool
 |[],[]=>NS
 |m::r,m'::r'=>oG (m.name=m'.name)&&xt m m'&&nh r r'
 |_,_=>NT
end
def sq(a b:cQ):Bool:=xt (Mem.of [] a) (Mem.of [] b)
end Cn
mutual
def Mem.bJ:Mem->Nat
 |.mk n _ t ks=>1+n.length+t.length+Mem.bV ks
def Mem.bV:List Mem->Nat
 |[]=>0
 |m::r=>Mem.bJ m+Mem.bV r
end
def cQ.bJ(j:cQ):Nat:=Mem.bJ (Mem.of [] j)
end Go.Eng
