/- Texts of my own, one behind the other: XU, XV, XW, XX, XY, XT, XZ, YA, YB, YC, YE, YF, YG, YH, YJ, YK, XFloatP, XArithP, XNrPure, XShPure, WcUtfPure, WcTreePure, WcRegPure, WcHexaPure, WcPure, WcJpPure, WcRpPure. -/
import Derived.Test.YthkfiedkcmpokaaGreatDoorT1
import Derived.Sort.Grow
import Derived.Laws.Externs
import Derived.Lib.BytesEntry
import Derived.Deep.LoopGhost
import Derived.ScopeJumps
import Derived.Below
import Derived.Lib.LaidTab
import Derived.Lib.ItoaNum
import Derived.Deep.Draws
import Derived.ChangeArms
import Derived.ChangeShapes
import Derived.DataReads
import Derived.Laws.FloatArith
import Derived.IntWalk
import Derived.Lib.SlTrimSet
import Derived.Lib.IndexAny
import Derived.Lib.TrailingZeros
import Derived.Lib.Bytealg
set_option linter.defProp false
set_option linter.unusedVariables false
set_option linter.unusedSimpArgs false
noncomputable section
namespace Go.Eng
open Go.RowKit
def PM(P:Program)(t:TypeId):Option Nat:=(P.info? t).map (·.size)
theorem qT{P:Program}{w:World}:∀(fs:List Field),(∀f∈fs,(sizeOf f.type).run P w=.ok ((PM P f.type).getD 0) w)->
  ((fs.mapM λ(f:Field)=>do pure (f.offset,<-sizeOf f.type)):Sem (List (Nat×Nat))).run P w=.ok (fs.map λf=>(f.offset,(PM P f.type).getD 0)) w
 |[],_=>rfl
 |f::fs,hs=>by simp only[List.mapM_cons,Sem.run_bind,hs f (by simp),Result.andThen_ok,Sem.run_pure,qT fs (λg hg=>hs g (by simp[hg])),bc]
theorem sM{P:Program}{t:TypeId}:∀{l:List (Nat×Operand)}{pl:List (Nat×(Nat×TypeId))},qo P t l=some pl->pl.length=l.length/\∀(j:Nat)(p:Nat×Operand)(q:Nat×(Nat×TypeId)),l[j]?=some p->pl[j]?=some q->qY P t p.1=some q
 |[],pl,h=>by cases h;exact⟨rfl,by simp⟩
 |(i,o)::r,pl,h=>by
  simp only[qo]at h;split at h
  ·rename_i q l e1 e2;cases h;obtain⟨h1,h2⟩:=sM e2;refine⟨by simp[h1],λj p q' hp hq=>?_⟩;cases j with
   |zero=>cases hp;cases hq;exact e1
   |succ j=>exact h2 j p q' (by simpa using hp) (by simpa using hq)
  {cases h}
theorem iU:∀{l:List (Nat×Cell)}{S:St}{k:Nat},(∀p∈l,p.1≠k)->fU S l k=S k
 |[],_,_,_=>rfl
 |(j,x)::l,S,k,h=>by simp only[fU];rw[fq _ _ (Ne.symm (h (j,x) (List.mem_cons_self ..)))];exact iU λp hp=>h p (List.mem_cons_of_mem _ hp)
theorem yc:∀{cs Bl:List Cell}{k:Nat},qy cs=some (Bl,k)->cs=Bl++[(.pt,.fo k)]
 |[],_,_,h=>by simp[qy]at h
 |[c],Bl,k,h=>by obtain⟨x,g⟩:=c;cases x<;>cases g<;>simp[qy]at h;obtain⟨rfl,rfl⟩:=h;rfl
 |c::d::r,Bl,k,h=>by simp only[qy]at h;split at h;{rename_i c1 k1 e;cases h;rw[yc e];rfl};{cases h}
theorem Cells.snoc{R:Reach}{w:World}{τ:Nat->Value}{nt:Nat}:∀{cs:List Cell}{c:Cell}{vs:List Value},Cells R w τ nt (cs++[c]) vs->∃Iq v,vs=Iq++[v]/\Cells R w τ nt cs Iq/\eY R w τ c.1 c.2 v
 |[],_,_,.cons a b .nil=>⟨[],_,rfl,.nil,a⟩
 |_::_,_,_,.cons a b t=>by obtain⟨Iq,v,rfl,h1,h2⟩:=Cells.snoc t;exact⟨_::Iq,v,rfl,.cons a b h1,h2⟩
theorem jf.snoc{R:Reach}{w:World}:∀{xs:List TV}{vs:List Value}{x:TV}{v:Value},jf R w xs vs->Rep R w x v->jf R w (xs++[x]) (vs++[v])
 |_,_,_,_,.nil,h=>.cons h .nil
 |_,_,_,_,.cons a t,h=>.cons a (jf.snoc t h)
theorem zX(place:Nat->Option (Nat×Nat)):∀(ps:List (Nat×Value))(i:Nat)(v:Value)(off:Nat)(cells eK:Array Value),place i=some (off,1)->v.cells.toList=[v]->Instr.fill place cells (ps++[(i,v)])=some eK->eK[off]?=some v
 |[],i,v,off,cells,eK,hp,hv,h=>by have zR:v.cells=#[v]:=Array.toList_inj.1 hv;simp only[bh,Instr.fill,hp,zR]at h;split at h;{cases h};{rename_i hc;cases h;have:off<cells.size:=by{simp at hc;omega};simp[Array.getElem?_setIfInBounds,this]}
 |p::ps,i,v,off,cells,eK,hp,hv,h=>by simp only[List.cons_append,Instr.fill]at h;split at h;{cases h};{split at h;{cases h};{exact zX place ps i v off _ _ hp hv h}}
section
variable{C:Ctx}{S V:St}{a:Act}{w w':World}{R:Reach}{τ:Nat->Value}{o:Oper}{d:Nat}(h:fD C S a w R τ)(hV:Lt V S)
include h hV
omit hV in
theorem GJ(hE:kB C.P C.E){R':Reach}{t:TypeId}{parts:Array (Nat×Operand)}{z ds xs:List TV}{pl:List (Nat×(Nat×TypeId))}(ho:o.op=.build t parts)(hz:C.E.z t=some z)(BA:qo C.P t parts.toList=some pl)(hT:jf R' w xs ((parts.toList.map (·.2)).map a.eval))(h1:∀(j:Nat)(v:Value),xs[j]?=some .pt->(parts.toList.map λp=>a.eval p.2)[j]?=some v->v.oneCell'=true)(CZ:rB z (pl.map λq=>(q.1,q.2.1)) xs=some ds):∃(place:Nat->Option (Nat×Nat))(cells eK:Array Value),(∀(j:Nat)(q:Nat×(Nat×TypeId)),qY C.P t j=some q->place j=some (q.1,q.2.1))/\Instr.fill place cells (parts.toList.map λp=>(p.1,a.eval p.2))=some eK/\dJ R' w ds eK.toList/\(execOp a.eval o).run C.P w=.ok (.value (.agg eK)) w:=by
 have _:=h;obtain⟨QM,zv,hi,hzc⟩:=hE.z _ _ hz;rw[aV]at hi;obtain⟨i,hi,Vr⟩:=hi;have hL:dJ R' w z zv.cells.toList:=rJ hzc;obtain⟨hlen,Np⟩:=sM BA;have TL:∀(j:Nat)(p:Nat×Value)(x:TV),((parts.map λp=>(p.1,a.eval p.2)).toList)[j]?=some p->xs[j]?=some x->Rep R' w x p.2/\(x=.pt->p.2.oneCell'=true):=λj p x hp Zf=>by
  obtain⟨y,HL,HK⟩:=hT.get j x Zf;simp only[Array.toList_map,br,bA]at hp HL;cases hq:parts.toList[j]? with
  |none=>simp[hq]at hp
  |some q=>simp[hq]at hp HL;subst hp;rw[HL];exact⟨HK,λe=>h1 j _ (e▸Zf) (by simp[hq,HL])⟩
 have Qw:∀place:Nat->Option (Nat×Nat),(∀(j:Nat)(q:Nat×(Nat×TypeId)),qY C.P t j=some q->place j=some (q.1,q.2.1))->
   ∃eK,Instr.fill place zv.cells (parts.map λp=>(p.1,a.eval p.2)).toList=some eK/\dJ R' w ds eK.toList:=λplace DY=>
  Df place _ (pl.map λq=>(q.1,q.2.1)) _ z ds zv.cells hL (by simp[hlen]) (λj p q hp hq=>by
   simp only[Array.toList_map,br]at hp hq;cases W5:parts.toList[j]? with
   |none=>simp[W5]at hp
   |some q'=>
    simp[W5]at hp;subst hp;cases OQ:pl[j]? with
    |none=>simp[OQ]at hq
    |some q2=>simp[OQ]at hq;subst hq;exact DY _ _ (Np j q' q2 W5 OQ)) TL CZ
 have fin:∀place:Nat->Option (Nat×Nat),(∀(j:Nat)(q:Nat×(Nat×TypeId)),qY C.P t j=some q->place j=some (q.1,q.2.1))->
   (∀eK,Instr.fill place zv.cells (parts.map λp=>(p.1,a.eval p.2)).toList=some eK->(execOp a.eval o).run C.P w=.ok (.value (.agg eK)) w)->∃(place:Nat->Option (Nat×Nat))(cells eK:Array Value),(∀(j:Nat)(q:Nat×(Nat×TypeId)),qY C.P t j=some q->place j=some (q.1,q.2.1))/\Instr.fill place cells (parts.toList.map λp=>(p.1,a.eval p.2))=some eK/\dJ R' w ds eK.toList/\(execOp a.eval o).run C.P w=.ok (.value (.agg eK)) w:=λplace DY hrr=>by
  obtain⟨eK,QP,hR⟩:=Qw place DY
  exact⟨place,zv.cells,eK,DY,by rw[<-Array.toList_map];exact QP,hR,hrr eK QP⟩
 unfold rC at QM;cases hu:C.P.underlying t with
 |none=>simp[hu]at QM
 |some dd=>
  cases dd with
  |struct fs=>simp only[hu]at QM;have wM:∀f∈fs.toList,(sizeOf f.type).run C.P w=.ok ((PM C.P f.type).getD 0) w:=λf hf=>by{have:=aC.1 QM f hf;obtain⟨n,hn⟩:=Option.isSome_iff_exists.1 this;rw[run_sizeOf hn];simp[PM,hn]};refine fin (λi=>(fs.map λf=>(f.offset,(PM C.P f.type).getD 0))[i]?) (λj q hq=>?_) (λeK hc=>?_);{unfold qY at hq;rw[hu]at hq;simp only[aV,aW]at hq;obtain⟨f,h1,i',h2,rfl⟩:=hq;simp[h1,PM,h2]};{have hm:=qT fs.toList wM;have Xg:((fs.mapM λ(f:Field)=>do pure (f.offset,<-sizeOf f.type)):Sem (Array (Nat×Nat))).run C.P w=.ok (fs.map λf=>(f.offset,(PM C.P f.type).getD 0)) w:=by{rw[Array.mapM_eq_mapM_toList,Sem.run_map,hm];simp only[Result.andThen_ok];congr 1;apply Array.ext';simp};simp only[execOp,ho,Instr.build,Sem.run_bind,tx hi Vr,run_underlying hu,Result.andThen_ok,Xg];rw[hc];simp}
  |array n e=>simp only[hu]at QM;obtain⟨i',h1⟩:=Option.isSome_iff_exists.1 QM;refine fin (λi=>some (i*i'.size,i'.size)) (λj q hq=>?_) (λeK hc=>?_);{unfold qY at hq;rw[hu]at hq;simp only[h1,Option.map_some,aM]at hq;subst hq;rfl};{simp only[execOp,ho,Instr.build,Sem.run_bind,tx hi Vr,run_underlying hu,Result.andThen_ok,run_sizeOf h1];rw[hc];simp}
  |_=>simp[hu]at QM
theorem go_bd(hd:o.dst=some d)(hl:d<C.nt)(hE:kB C.P C.E){t:TypeId}{parts:Array (Nat×Operand)}{z ds xs:List TV}{pl:List (Nat×(Nat×TypeId))}{cs:List Cell}{ws:List (Nat×Cell)}(ho:o.op=.build t parts)(hz:C.E.z t=some z)(BA:qo C.P t parts.toList=some pl)(hx:sj C.E C.nt V (pl.map (·.2.2)) (parts.toList.map (·.2))=some cs)(hf:Mi V cs=some (xs,ws))(CZ:rB z (pl.map λq=>(q.1,q.2.1)) xs=some ds)(Qx:xs.all TV.plain=true):fx C o a w (cR (fU S ws) d (.ag ds,.no)):=by obtain⟨R',h',hT,hq⟩:=h.frs hV hx hf;obtain⟨_,_,eK,_,_,hR,mi⟩:=GJ h hE ho hz BA hT (λj v hj _=>by have:=aC.1 Qx _ (aO hj);cases this) CZ;exact h'.iL hd hl (v:=.agg eK) mi (by cases eK with|mk l=>exact .ag hR)
theorem go_bo(hd:o.dst=some d)(hl:d<C.nt)(hE:kB C.P C.E){t:TypeId}{parts:Array (Nat×Operand)}{z ds xs:List TV}{pl:List (Nat×(Nat×TypeId))}{cs Bl:List Cell}{ws:List (Nat×Cell)}{k:Nat}{q:Nat×(Nat×TypeId)}(ho:o.op=.build t parts)(hz:C.E.z t=some z)(BA:qo C.P t parts.toList=some pl)(hx:sj C.E C.nt V (pl.map (·.2.2)) (parts.toList.map (·.2))=some cs)(TX:qy cs=some (Bl,k))(hf:Mi V Bl=some (xs,ws))(CZ:rB z (pl.map λq=>(q.1,q.2.1)) (xs++[.pt])=some ds)(ym:pl.getLast?=some q)(hq:q.2.1=1)(hk:∀p∈ws,p.1≠k)(Qx:xs.all TV.plain=true):fx C o a w (cR (fU S ws) d (.ag ds,.ow [(q.1,k)])):=by
 obtain⟨hlen,Np⟩:=sM BA;have yo:=yc TX;obtain⟨h1,_,h3⟩:=tI h hV hx;have Zx:=(h3 (.pt,.fo k) (by rw[yo];simp)).2 k (by simp[Gh.dt]);rw[yo]at h1;obtain⟨Iq,v,Km,QR,hv⟩:=Cells.snoc h1;obtain⟨R',k1,k2,k3,_⟩:=E4 h.core hV.q QR hf;have h':=h.fz k1 k2;obtain⟨e1,e2⟩:v=τ k/\v.oneCell'=true:=hv;have hT:jf R' w (xs++[.pt]) ((parts.toList.map (·.2)).map a.eval):=by{rw[Km];exact jf.snoc k3 (.pt v)};obtain⟨place,cells,eK,DY,Kv,hR,mi⟩:=GJ h hE ho hz BA hT (λj v' hj vX=>by
  rw[show(parts.toList.map λp=>a.eval p.2)=Iq++[v] by rw[<-Km];simp]at vX;have hl:=k3.length;by_cases VE:j<xs.length;{rw[List.getElem?_append_left VE]at hj;have:=aC.1 Qx _ (aO hj);cases this}
  ·rw[aY (by omega)]at hj vX;have e:j -Iq.length=0:=by
    cases hh:j -xs.length with
    |zero=>omega
    |succ n=>rw[hh]at hj;simp at hj
   rw[e]at vX;cases vX;exact e2) CZ
 obtain⟨ps,p0,hps⟩:∃ps p0,parts.toList=ps++[p0]:=by{rcases List.eq_nil_or_concat parts.toList with e|⟨ps,p0,e⟩;{rw[e]at Km;simp at Km};{exact⟨ps,p0,by rw[e,List.concat_eq_append]⟩}};rw[hps]at Kv Km hlen Np;simp only[List.map_append,bc,bw]at Kv Km;have hv0:=(List.append_inj' Km rfl).2;simp only[bt,and_true]at hv0;have hq0:pl[ps.length]?=some q:=by{rw[List.getLast?_eq_getElem?]at ym;simp only[ae,ak]at hlen;rw[hlen]at ym;simpa using ym};have TS:=DY _ _ (Np ps.length p0 q (by simp) hq0);rw[hq]at TS;have QI:=zX place _ p0.1 (a.eval p0.2) q.1 cells eK TS (by rw[hv0];exact zD e2) Kv;refine h'.val hd hl (v:=.agg eK) mi (x:=.ag ds) (g:=.ow [(q.1,k)]) ?_ rfl λj hj=>?_
 ·cases eK with
  |mk l=>exact⟨l,ds,rfl,rfl,hR,λp hp=>by rw[List.mem_singleton]at hp;subst hp;rw[<-e1,<-hv0];simpa using QI⟩
 {simp only[Gh.dt,bc,bw,List.mem_singleton]at hj;subst hj;exact⟨Zx.1,by rw[iU hk];exact Zx.2⟩}
end
theorem fF.Bo{t t':fF}{l n:List t.El}{m:List t'.El}(h:t.app l t' m=some n):∃e:t'=t,n=l++(e▸m):=by unfold fF.app at h;split at h<;>cases h<;>exact⟨rfl,rfl⟩
section
variable{C:Ctx}{S V:St}{a:Act}{w w':World}{R:Reach}{τ:Nat->Value}{o:Oper}{d:Nat}
def U6(P:Program)(R:Reach)(w:World)(p:Bool)(x0:Value)(st:fF)(n:List st.El)(r:World->Result Value):Prop:=∃v w' R',r w=.ok v w'/\fX R' w' p v (.sl st n)/\eZ R w R' w'/\(∀b o,R' b o->R b o\/Value.ij v=some b)/\w'.os=w.os/\w'.tape=w.tape/\w'.output=w.output/\w.heap.size<=w'.heap.size/\(∀b,Value.ij v≠some b->b<w.heap.size->w'.heap[b]?=w.heap[b]?)/\(∀b,Value.ij v=some b->(w.heap.size<=b\/Value.ij x0=some b)/\b<w'.heap.size)/\∀b,Value.ij v=some b->Value.ij x0=some b->∃g cap m,x0=.slice (some ⟨g,0,none⟩) m cap/\v=.slice (some ⟨g,0,none⟩) n.length cap
theorem RO{P:Program}{t u ty e:TypeId}{i:TypeInfo}{z:Value}{du:TypeDesc}(gr:∀b o,R b o->b<w.heap.size)(ht:P.underlying t=some (.slice e))(hi:P.info? e=some i)(hz:i.zero=some z)(hzs:z.cells.size=i.size)(hu:P.underlying u=some du)(A3:∀k,du≠.int k){p:Bool}{x0 x:Value}{st:fF}{l m:List st.El}{news:List Value}(hs:i.size=st.size)(h0:fX R w p x0 (.sl st l))(hx:Source P w st.size x m.length news)(hL:dJ R w ((m.map st.tv).flatMap TV.cells) news)(VM:l.length+m.length<=maxLen)(hb:(l.length+m.length)*i.bytes<=140737488355328):U6 P R w p x0 st (l++m) λw=>(Builtin.append_ #[t,u] ty #[x0,x]).run P w:=by
 rw[<-hs]at hx;have CX:=hx.2.2.1;have Uc:((l++m).map st.tv).flatMap TV.cells=(l.map st.tv).flatMap TV.cells++(m.map st.tv).flatMap TV.cells:=by{simp};have grow:∀(q:Option Addr)(cap:Nat)(xK:List Value),x0=.slice q l.length cap->cap<l.length+m.length->(∀w':World,w'.heap=w.heap->(Builtin.firstCells i.size l.length (.slice q l.length cap)).run P w'=.ok ⟨xK⟩ w')->
   dJ R w ((l.map st.tv).flatMap TV.cells) xK->U6 P R w p x0 st (l++m) λw=>(Builtin.append_ #[t,u] ty #[x0,x]).run P w:=by
  rintro q cap xK rfl QG ho Sn
  have mi:=uR (ty:=ty) ht hi hz hu A3 ho hx QG VM hb
  have Ku:=grownCap_ge w (l.length+m.length) cap e
  have hle:=grownCap_le_maxLen w (l.length+m.length) cap e VM
  generalize hG:grownCap w (l.length+m.length) cap e=G at mi Ku hle
  have D0:xK.length=l.length*i.size:=by rw[<-Sn.length,oA,hs]
  let cur:Array Value:=(⟨xK⟩:Array Value)++⟨news⟩++Builtin.zeroCells z.cells (G -(l.length+m.length))
  let R':Reach:=λb o=>R b o\/(p=true/\b=w.heap.size/\o<(l.length+m.length)*st.size)
  have hold:∀b,b<w.heap.size->(w.drew.alloc (.cells cur e)).heap[b]?=w.heap[b]?:=λb hb=>by show(w.heap.push _)[b]?=_;rw[Array.getElem?_push,ao (by omega)]
  have dX:eZ R w R' (w.drew.alloc (.cells cur e)):=λb o hr=>⟨.inl hr,World.cell?_of_block (w:=w) (hold b (gr b o hr))⟩
  have QQ:cur.toList.take ((l++m).length*st.size)=xK++news:=by have e1:cur.toList=(xK++news)++(Builtin.zeroCells z.cells (G -(l.length+m.length))).toList:=by{simp[cur]};have e2:(xK++news).length=(l++m).length*st.size:=by{rw[ae,ae,D0,CX,hs,Nat.add_mul]};rw[e1,<-e2,List.take_left]
  refine⟨_,_,R',mi,⟨st,l++m,rfl,.inr ⟨w.heap.size,G,cur,e,(0,0),by rw[ae],?_,λo _=>by simp,?_,by rw[ae];exact Ku,hle,?_,λo=>⟨λhr=>?_,λhr=>.inr ⟨hr.1,rfl,by have:=hr.2;rwa[ae]at this⟩⟩⟩⟩,dX,λb o hr=>hr.imp id λe=>by rw[e.2.1];rfl,rfl,rfl,rfl,?_,λb _ hb=>hold b hb,λb hb=>?_,λb hb oa=>?_⟩
  {show(w.heap.push _)[w.heap.size]?=some _;rw[Array.getElem?_push,ar rfl]}
  {simp only[cur,Array.size_append,List.size_toArray,size_zeroCells,hzs,D0,CX,<-Nat.add_mul,<-hs];congr 1;omega}
  {rw[QQ,Uc];exact(Sn.append hL).mono dX}
  {rcases hr with hr|⟨h1,_,h2⟩;{have:=gr _ _ hr;omega};{exact⟨h1,by rwa[ae]⟩}}
  {show w.heap.size<=(w.heap.push _).size;simp}
  {cases hb;exact⟨.inl (Nat.le_refl _),by show w.heap.size<(w.heap.push _).size;simp⟩}
  {cases hb;exact absurd (h0.lt oa) (Nat.lt_irrefl _)}
 rcases h0.cells with⟨rfl,rfl⟩|⟨g,cap,cur,ce,fz,rfl,hg,hfz,yo,hnc,Nv,Sn,hR⟩;{by_cases hm:m.length=0;{have Xi:m=[]:=bj hm;subst Xi;refine⟨.slice none 0 0,w,R,?_,h0,eZ.refl _ _,λb o=>.inl,rfl,rfl,rfl,Nat.le_refl _,λ_ _ _=>rfl,λb hb=>(by cases hb),λb hb=>by cases hb⟩;obtain⟨h1,h2,h3,h4⟩:=hx;have Xv:(match du with|.int _=>true|_=>false)=false:=by{cases du<;>first|rfl|exact(A3 _ rfl).elim};have Ky:=h2 w rfl;simp only[aE]at h1 Ky;simp[Builtin.append_,run_underlying ht,run_underlying hu,Xv,sizeOf,typeInfo,hi,h1,Ky]};{exact grow none 0 [] rfl (by simp;omega) (λ_ _=>rfl) .nil}}
 ·have D0:(cur.toList.take (l.length*st.size)).length=l.length*i.size:=by{rw[<-Sn.length,oA,hs]};by_cases zT:l.length+m.length<=cap
  ·have mi:=uQ (ty:=ty) ht hi hu A3 hg hfz hx zT (by rw[hs];exact yo);have hle:(l.length+m.length)*st.size<=cap*st.size:=ay _ zT;rw[Nat.add_mul]at hle;rw[hs]at mi CX D0;have C0:cur.toList.length=cap*st.size:=by{simp[yo]};let cur':Array Value:=(cur.toList.take (l.length*st.size)++news++cur.toList.drop (l.length*st.size+news.length)).toArray;have Ua:∀j,j<l.length*st.size->cur'[j]?=cur[j]?:=λj hj=>by{simp only[cur',List.getElem?_toArray,az];rw[List.getElem?_append_left (by rw[D0];exact hj),aZ,ar hj];simp};have yp:∀j,(w.setRow g cur').cell? ⟨g,j,none⟩=cur'[j]?:=λj=>cell_setRow_same w g j cur cur' ce fz hg;let R':Reach:=λb o=>R b o\/(p=true/\b=g/\o<(l.length+m.length)*st.size);have dX:eZ R w R' (w.setRow g cur'):=λc o Iu=>⟨.inl Iu,by
    by_cases ZE:c=g;{subst ZE;rw[yp,Ua o ((hR o).1 Iu).2];simp[World.cell?,hg]}
    ·exact cell_setRow_other w g cur' ⟨c,o,none⟩ ZE⟩
   have Mg:g<w.heap.size:=(Array.getElem?_eq_some_iff.1 hg).1;have Vu:cur'.toList.take ((l++m).length*st.size)=cur.toList.take (l.length*st.size)++news:=by{have e2:(cur.toList.take (l.length*st.size)++news).length=(l++m).length*st.size:=by{rw[ae,ae,D0,CX,Nat.add_mul]};show(cur.toList.take (l.length*st.size)++news++_).take _=_;rw[<-e2,List.take_left]};have wM:cur'.size=cur.size:=by{simp only[cur',List.size_toArray,ae,D0,aR,C0,CX,<-Array.length_toList];omega};refine⟨_,_,R',mi,⟨st,l++m,rfl,.inr ⟨g,cap,cur',ce,fz,by rw[ae],setRow_heap w g cur cur' ce fz hg,λo ho=>hfz o (by rw[<-wM];exact ho),by rw[wM];exact yo,by rw[ae];exact zT,Nv,?_,λo=>⟨λhr=>?_,λhr=>.inr ⟨hr.1,rfl,by have:=hr.2;rwa[ae]at this⟩⟩⟩⟩,
    dX,λb o hr=>hr.imp id λe=>by rw[e.2.1];rfl,rfl,rfl,rfl,by rw[setRow_size];exact Nat.le_refl _,λb hb _=>setRow_other w g b cur' (λe=>hb (by rw[e];rfl)),λb hb=>?_,λb _ _=>⟨g,cap,l.length,rfl,by rw[ae]⟩⟩
   {rw[Vu,Uc];exact(Sn.append hL).mono dX};{rcases hr with hr|⟨h1,_,h2⟩;{have:=(hR o).1 hr;refine⟨this.1,?_⟩;rw[ae,Nat.add_mul];omega};{exact⟨h1,by rwa[ae]⟩}};{cases hb;exact⟨.inr rfl,by rw[setRow_size];exact Mg⟩}
  ·refine grow (some ⟨g,0,none⟩) cap _ rfl (by omega) (λw' hw=>?_) Sn;rw[hs];exact run_firstCells_some (P:=P) w' st.size l.length ⟨g,0,none⟩ l.length cap _ (by rw[D0,hs]) (λj v hj=>by
    rw[addr_add,Nat.zero_add,World.cell?_of_block (w:=w) (by rw[hw])];rw[aZ]at hj;split at hj;{simp only[World.cell?,hg];simpa using hj}
    ·cases hj)
theorem fD.Q5(h:fD C S a w R τ){k k2:Nat}{v:Value}{x:TV}{g c:Gh}{y:TV}{R':Reach}(hk:C.nt<=k/\(S k).2.own=true/\(S k).2.Ge=false)(yn:(S k2).2=.no/\k2<1000000/\C.nt<=k2)(dX:eZ R w R' w')(hn:∀b o,R' b o->R b o\/Value.ij v=some b)(os:w'.os=w.os)(tape:w'.tape=w.tape)(out:w'.output=w.output)(size:w.heap.size<=w'.heap.size)(heap:∀b,Value.ij v≠some b->b<w.heap.size->w'.heap[b]?=w.heap[b]?)(hb:∀b,Value.ij v=some b->(w.heap.size<=b\/Value.ij (τ k)=some b)/\b<w'.heap.size)(hg:g=.pv\/g=.lv)(new:kA R' w' τ x g v)(hc:c=.zz\/c=.us)(hy:kA R' w' τ y c (τ k)):fD C (cR (cR S k (y,c)) k2 (x,g)) a w' R' (yT τ k2 v):=by have mU:k≠k2:=by{rintro rfl;rw[yn.1]at hk;cases hk.2.1};have Mf:g.own=true:=by{rcases hg with rfl|rfl<;>rfl};have ZB:g.dt=[]:=by{rcases hg with rfl|rfl<;>rfl};have Nv:c.dt=[]:=by{rcases hc with rfl|rfl<;>rfl};have Ko:cR (cR S k (y,c)) k2 (x,g) k=(y,c):=by{rw[fq _ _ mU,cG]};have oth:∀j,j≠k->ij τ S j≠none->∀b,ij τ S j=some b->Value.ij v≠some b:=λj hj _ b HQ hv=>by{rcases(hb b hv).1 with e|e;{have:=h.core.lt HQ;omega};{exact hj (h.core.xq (ig hk.2.1 (AY hk.2.2) e) HQ).symm}};have dV:∀b,Value.ij v=some b->C.dV b:=λb hv=>by{rcases(hb b hv).1 with e|e;{exact .inr (Nat.le_trans h.ext.size e)};{exact h.core.dV k b (ig hk.2.1 (AY hk.2.2) e)}};have Kx:Core C.nt R' w' C.dV (yT τ k2 v) (cR (cR S k (y,c)) k2 (x,g)):=by{refine h.core.step (λj=>j=k\/j=k2) dX (λj hj=>?_) (λj b hj HQ=>?_) ?_ ?_ ?_ ?_ ?_ ?_ (λ_=>id) ?_ ?_ ?_;{have h1:j≠k:=λe=>hj (.inl e);have h2:j≠k2:=λe=>hj (.inr e);exact⟨by rw[fq _ _ h2,fq _ _ h1],iQ _ _ h2⟩};{have h1:j≠k:=λe=>hj (.inl e);have:=oth j h1 (by rw[HQ];simp) b HQ;exact⟨heap b this (h.core.lt HQ),λo hr=>(hn b o hr).resolve_right this⟩};{rintro j (rfl|rfl);{rw[Ko,iQ _ _ mU];exact hy.dX (eZ.refl _ _) (by rw[Nv];simp) λb e=>by rcases hc with rfl|rfl<;>cases e};{rw[cG,gZ];exact new.dX (eZ.refl _ _) (by rw[ZB];simp) λ_ _=>⟨rfl,λ_=>id⟩}};{rintro j (rfl|rfl);{exact .inl (iQ _ _ mU)};{exact .inr (.inr yn.1)}};{rintro j (rfl|rfl);{rw[Ko];right;rcases hc with rfl|rfl<;>simp};{rw[cG];right;rcases hg with rfl|rfl<;>simp}};{rintro j (rfl|rfl);{rw[Ko];exact .inl ⟨hk.2.2,by rcases hc with rfl|rfl<;>rfl⟩};{rw[cG,yn.1];exact .inl ⟨rfl,by rcases hg with rfl|rfl<;>rfl⟩}};{rintro j (rfl|rfl) _;{exact .inl hk.2.1};{exact .inr yn.1}};{rintro j b (rfl|rfl) HQ;{have:=(gE HQ).1;rw[Ko]at this;rcases hc with rfl|rfl<;>cases this};{have hv:=(gE HQ).2;rw[gZ]at hv;refine⟨dV b hv,?_,(hb b hv).1.imp id λe=>⟨k,.inl rfl,ig hk.2.1 (AY hk.2.2) e⟩⟩;rintro q (rfl|rfl) hq hqb;{have:=(gE hqb).1;rw[Ko]at this;rcases hc with rfl|rfl<;>cases this};{exact hq rfl}}};{rintro j (rfl|rfl) q hq;{rw[Ko,Nv]at hq;cases hq};{rw[cG,ZB]at hq;cases hq}};{intro b o hr;rcases hn b o hr with hr|hr;{have:=h.core.ux b o hr;omega};{exact(hb b hr).2}};{rintro j (rfl|rfl) hj<;>omega}};refine⟨h.size,h.defers,Kx,λt ht=>by rw[iQ _ _ (by omega)];exact h.tmps t ht,⟨h.io.1,λj hj=>by rw[iQ _ _ (by omega)];exact h.io.2 j hj⟩,h.ext.trans (io':=λb=>Value.ij v=some b) ⟨os,tape,out,size,λb oa hv=>heap b hv oa,dX,λb o hr=>(hn b o hr).imp id .inr⟩ (λb hv=>dV b hv),h.gl.dX dX⟩
end
section
variable{C:Ctx}{S V:St}{a:Act}{w w':World}{R:Reach}{τ:Nat->Value}{o:Oper}{d:Nat}
theorem fD.Um(h:fD C S a w R τ){k2:Nat}{v:Value}{x:TV}{R':Reach}(yn:(S k2).2=.no/\k2<1000000/\C.nt<=k2)(dX:eZ R w R' w')(hn:∀b o,R' b o->R b o\/Value.ij v=some b)(os:w'.os=w.os)(tape:w'.tape=w.tape)(out:w'.output=w.output)(size:w.heap.size<=w'.heap.size)(heap:∀b,Value.ij v≠some b->b<w.heap.size->w'.heap[b]?=w.heap[b]?)(hb:∀b,Value.ij v=some b->w.heap.size<=b/\b<w'.heap.size)(new:kA R' w' τ x .pv v):fD C (cR S k2 (x,.pv)) a w' R' (yT τ k2 v):=by
 have Tv:∀b,b<w.heap.size->Value.ij v≠some b:=λb h1 h2=>by{have:=(hb b h2).1;omega};refine⟨h.size,h.defers,h.core.qQ yn.2.2 dX (λj b _ HQ=>?_) new (.inr yn.1) ⟨by rw[yn.1];rfl,rfl⟩ (by simp) (λ_=>.inr yn.1) (λb _ hv=>⟨.inr (Nat.le_trans h.ext.size (hb b hv).1),.inl (hb b hv).1⟩) (by simp[Gh.dt]) (λb o hr=>?_),
  λt ht=>by rw[iQ _ _ (by omega)];exact h.tmps t ht,⟨h.io.1,λj hj=>by rw[iQ _ _ (by omega)];exact h.io.2 j hj⟩,
  h.ext.trans (io':=λb=>Value.ij v=some b) ⟨os,tape,out,size,λb oa hv=>heap b hv oa,dX,λb o hr=>(hn b o hr).imp id .inr⟩ (λb hv=>.inr (Nat.le_trans h.ext.size (hb b hv).1)),h.gl.dX dX⟩
 {have hl:=h.core.lt HQ;exact⟨heap b (Tv b hl) hl,λo hr=>(hn b o hr).resolve_right (Tv b hl)⟩};{rcases hn b o hr with hr|hr;{have:=h.core.ux b o hr;omega};{simp_all}}
theorem fD.recover(h:fD C S a w R τ){k c:Nat}{x:TV}(hk:S k=(x,.pw c)):fD C (cR (cR S k (x,.pv)) c (.dead,.zz)) a w R τ:=⟨h.size,h.defers,by have:=h.core.recover hk;rwa[wE,wE]at this,h.tmps,h.io,h.ext,h.gl⟩
variable(h:fD C S a w R τ)(hV:Lt V S)
include h hV
section
variable(hd:o.dst=some d)(hl:d<C.nt)
include hd hl
theorem go_app (hE:kB C.P C.E) {t u:TypeId} {x y:Operand} {st:fF} {sa k k2:Nat} {l m:List st.El} {news:List Value} {du:TypeDesc} {g c:Gh} {z:TV} (ho:o.op = .call { callee := .builtin .append,args:=#[x,y],argTypes:=#[t,u] }) (ht:C.E.ty t=some (st,sa)) (hx:gR C.E C.nt V t x=some (.pt,.fo k)) (hk:S k=(.sl st l,g))
  (hu:C.P.underlying u=some du) (A3:∀k,du ≠ .int k) (yk:Source C.P w st.size (a.eval y) m.length news) (hL:dJ R w ((m.map st.tv).flatMap TV.cells) news) (BB:dY (l.length+m.length) sa=true) (yn:(S k2).2 = .no∧k2<1000000∧C.nt≤k2) (hg:(g = .pv∧c = .zz∧z = .dead)∨(g = .lv∧c = .us∧z = .sl st l)) :
  fx C o a w (cR (cR (cR S k (z,c)) k2 (.sl st (l++m),g)) d (.pt,.fo k2)):=by
 obtain ⟨e,i,zv,h1,h2,h3,h4,h5,h6,h7⟩:=hE.ty _ _ _ ht
 obtain ⟨q1,_,q3⟩:=gV h hV hx
 have hv:a.eval x=τ k:=q1.1
 have hK:=h.core.key k
 rw [hk] at hK
 simp only [dY,af,aD] at BB
 have Mf:g.own=true∧g.Ge=false∧g.slot=false:=by rcases hg with ⟨rfl,_⟩ | ⟨rfl,_⟩ <;> exact ⟨rfl,rfl,rfl⟩
 obtain ⟨p,hp,hpk⟩:∃p,fX R w p (τ k) (.sl st l)∧∀R w τ x v,kA R w τ x g v=fX R w p v x:=by rcases hg with ⟨rfl,_⟩ | ⟨rfl,_⟩ <;> exact ⟨_,hK,fun _ _ _ _ _=>rfl⟩
 obtain ⟨v,w',R',mi,hs,dX,hn,os,tape,out,size,heap,hb,yq⟩:=RO (P:=C.P) (ty:=o.type) h.core.ux h1 h2 h5 (by omega) hu A3 h3 hp yk hL BB.1 (by simp_all)
 have A1:v.oneCell'=true:=by
  rcases hs.cells with ⟨_,rfl⟩ | ⟨_,_,_,_,_,rfl,_⟩ <;> rfl
 have DZ:=h.Q5 (k:=k) (k2:=k2) (x := .sl st (l++m)) (g:=g) (c:=c) (y:=z) ⟨(q3 k (by simp [Gh.dt])).1,by rw [hk];exact ⟨Mf.1,Mf.2.1⟩⟩ yn dX hn os tape out size heap hb (by grind) (by simp_all)
  (by grind) (by
   rcases hg with ⟨_,rfl,_⟩ | ⟨rfl,rfl,rfl⟩
   ·trivial
   ·exact (fX.rep hK).1.mono dX)
 refine DZ.yt (v:=v) hd hl ?_ (g := .fo k2) ⟨(gZ _ _ _).symm,A1⟩ rfl fun j hj=>?_
 ·simp only [execOp,ho]
  have:(Builtin.append_ #[t,u] o.type #[τ k,a.eval y]).run C.P w = .ok v w':=mi
  simp [resolve,invoke,builtin,this,hv]
 ·simp_all [Gh.dt,cG]
theorem go_lend(hE:kB C.P C.E){t u:TypeId}{x y:Operand}{st:fF}{sa k k2:Nat}{l m:List st.El}{news:List Value}{du:TypeDesc}(ho:o.op=.call {callee:=.builtin .append,args:=#[x,y],argTypes:=#[t,u]})(ht:C.E.ty t=some (st,sa))(hv:a.eval x=τ k)(Me:C.nt<=k)(hk:S k=(.sl st l,.pv))(hu:C.P.underlying u=some du)(A3:∀k,du≠.int k)(yk:Source C.P w st.size (a.eval y) m.length news)(hL:dJ R w ((m.map st.tv).flatMap TV.cells) news)(BB:dY (l.length+m.length) sa=true)(yn:(S k2).2=.no/\k2<1000000/\C.nt<=k2):fx C o a w (cR (cR (cR S k (.sl st l,.pw k2)) k2 (.sl st (l++m),.pc k)) d (.pt,.fo k2)):=by
 have _:=hV;obtain⟨e,i,zv,h1,h2,h3,h4,h5,h6,h7⟩:=hE.ty _ _ _ ht;have hK:fX R w false (τ k) (.sl st l):=by{have:=h.core.key k;rw[hk]at this;exact this};simp only[dY,af,aD]at BB;have mU:k2≠k:=by{grind};obtain⟨v,w',R',mi,hs,dX,hn,os,tape,out,size,heap,hb,yq⟩:=RO (P:=C.P) (ty:=o.type) h.core.ux h1 h2 h5 (by omega) hu A3 h3 hK yk hL BB.1 (by simp_all);have A1:v.oneCell'=true:=by{rcases hs.cells with⟨_,rfl⟩|⟨_,_,_,_,_,rfl,_⟩<;>rfl};have DZ:=h.Q5 (k:=k) (k2:=k2) (x:=.sl st (l++m)) (g:=.pv) (c:=.zz) (y:=.dead) ⟨Me,by rw[hk];exact⟨rfl,rfl⟩⟩ yn dX hn os tape out size heap hb (.inl rfl) hs (.inl rfl) trivial;have own:∀b,gb (yT τ k2 v) (.pw k2) (τ k)=some b->Value.ij (τ k)=some b/\Value.ij v≠some b:=λb oa=>by{simp only[gb,gZ]at oa;split at oa;{cases oa};{grind}};have hp:RY R' w' (yT τ k2 v k) (.sl st l) (yT τ k2 v k2):=by
  rw[gZ,iQ _ _ (Ne.symm mU)];cases O2:Value.ij (τ k)with
  |none=>exact .inl ⟨hK.dX dX λg hg=>(by simp_all),.inl O2⟩
  |some b=>by_cases Vt:Value.ij v=some b;{obtain⟨g,cap,q,e1,e2⟩:=yq b Vt O2;refine .inr ⟨st,l,g,cap,_,rfl,?_,e2⟩;obtain⟨t2,l2,e3,⟨_,e4⟩|⟨g',Yt,_,_,_,e4,_⟩⟩:=hK;{simp_all};{grind}};{refine .inl ⟨hK.dX dX λg hg=>?_,.inr (by rw[O2];exact Ne.symm Vt)⟩;rw[O2]at hg;cases hg;exact⟨heap b Vt (hK.lt O2),λo hr=>(hn b o hr).resolve_right Vt⟩}
 have e1:cR (cR S k (.dead,.zz)) k2 (.sl st (l++m),.pv) k=(.dead,.zz):=by{rw[fq _ _ (Ne.symm mU),cG]};have Uf:=DZ.core.UH (k:=k) (d:=k2) (t:=st) (l:=l) (m:=m) Me yn.2.2 e1 (cG ..) hp (λb oa=>by
  rw[iQ _ _ (Ne.symm mU)]at oa;obtain⟨q1,q2⟩:=own b oa;have Zw:ij τ S k=some b:=ig (by rw[hk];rfl) (by rw[hk];rfl) q1;refine⟨h.core.dV k b Zw,λj hj=>?_⟩;by_cases c1:j=k2;{grind[gE,gZ]}
  ·by_cases c2:j=k;{rw[c2]at hj;have:=(gE hj).1;rw[e1]at this;cases this}
   ·have ej:cR (cR S k (.dead,.zz)) k2 (.sl st (l++m),.pv) j=S j:=by{rw[fq _ _ c1,fq _ _ c2]};have vX:ij τ S j=some b:=by{unfold ij at hj⊢;rw[ej,iQ _ _ c1]at hj;rw[<-hj,KD λq hq=>?_];refine(iQ _ _ ?_).symm;rintro rfl;exact(h.core.inv j q hq).2 yn.1};exact c2 (h.core.sep _ _ _ vX Zw))
 rw[wE,wE]at Uf;have e2:cR (cR (cR (cR S k (.dead,.zz)) k2 (.sl st (l++m),.pv)) k (.sl st l,.pw k2)) k2 (.sl st (l++m),.pc k)=cR (cR S k (.sl st l,.pw k2)) k2 (.sl st (l++m),.pc k):=by{grind[cG,fq]};rw[e2]at Uf;have Xe:fD C (cR (cR S k (.sl st l,.pw k2)) k2 (.sl st (l++m),.pc k)) a w' R' (yT τ k2 v):=⟨DZ.size,DZ.defers,Uf,DZ.tmps,DZ.io,DZ.ext,DZ.gl⟩;refine Xe.yt (v:=v) hd hl ?_ (g:=.fo k2) ⟨(gZ _ _ _).symm,A1⟩ rfl λj hj=>?_;{have:(Builtin.append_ #[t,u] o.type #[τ k,a.eval y]).run C.P w=.ok v w':=mi;simp[execOp,ho,resolve,invoke,builtin,this,hv]};{simp_all[Gh.dt,List.mem_singleton,cG]}
theorem go_apn(hE:kB C.P C.E){t u:TypeId}{x y:Operand}{st:fF}{sa k2:Nat}{m:List st.El}{news:List Value}{du:TypeDesc}(ho:o.op=.call {callee:=.builtin .append,args:=#[x,y],argTypes:=#[t,u]})(ht:C.E.ty t=some (st,sa))(hx:gR C.E C.nt V t x=some (.nl st,.no))(hu:C.P.underlying u=some du)(A3:∀k,du≠.int k)(yk:Source C.P w st.size (a.eval y) m.length news)(hL:dJ R w ((m.map st.tv).flatMap TV.cells) news)(BB:dY m.length sa=true)(yn:(S k2).2=.no/\k2<1000000/\C.nt<=k2):fx C o a w (cR (cR S k2 (.sl st m,.pv)) d (.pt,.fo k2)):=by
 obtain⟨e,i,zv,h1,h2,h3,h4,h5,h6,h7⟩:=hE.ty _ _ _ ht;have hv:a.eval x=.slice none 0 0:=by
  have:=fu h hV hx;generalize a.eval x=v at this⊢;cases this with
  |sc h=>cases h
  |nl=>rfl
 simp only[dY,af,aD]at BB;obtain⟨v,w',R',mi,hs,dX,hn,os,tape,out,size,heap,hb,yq⟩:=RO (P:=C.P) (ty:=o.type) (p:=false) (x0:=.slice none 0 0) (l:=[]) h.core.ux h1 h2 h5 (by rw[h3];exact h6) hu A3 h3 ⟨st,[],rfl,.inl ⟨rfl,rfl⟩⟩ yk hL (by simpa using BB.1) (by rw[h4];simpa using BB.2);have A1:v.oneCell'=true:=by{rcases hs.cells with⟨_,rfl⟩|⟨_,_,_,_,_,rfl,_⟩<;>rfl};refine(h.Um (x:=.sl st m) yn dX hn os tape out size heap (λb hv=>⟨(hb b hv).1.resolve_right (by simp[Value.ij]),(hb b hv).2⟩) hs).yt (v:=v) hd hl ?_ (g:=.fo k2) ⟨(gZ _ _ _).symm,A1⟩ rfl λj hj=>?_;{have:(Builtin.append_ #[t,u] o.type #[.slice none 0 0,a.eval y]).run C.P w=.ok v w':=mi;simp[execOp,ho,resolve,invoke,builtin,this,hv]};{simp only[Gh.dt,List.mem_singleton]at hj;subst hj;exact⟨yn.2.2,by rw[cG];simp⟩}
theorem go_psl{t:TypeId}{x y:Operand}{st:fF}{k k2:Nat}{l:List st.El}{n:Int}(hE:kB C.P C.E)(ho:o.op=.slice t x none (some y) none)(ht:wm C.E t st=true)(hx:gR C.E C.nt V t x=some (.pt,.fo k))(hk:S k=(.sl st l,.pv))(hy:px C.E C.nt V (some y)=some (some n))(hc:eM 0 n l.length=true)(yn:(S k2).2=.no/\k2<1000000/\C.nt<=k2):fx C o a w (cR (cR (cR S k (.dead,.zz)) k2 (.sl st (l.take n.toNat),.pv)) d (.pt,.fo k2)):=by obtain⟨e,inf,ht,wN,hz⟩:=rN hE ht;obtain⟨q1,_,q3⟩:=gV h hV hx;have hv:a.eval x=τ k:=q1.1;have hK:=h.core.key k;rw[hk]at hK;have hb:=λcap yq=>bounds h hV (lo:=none) (p:=none) rfl hy hc true (cap:=cap) yq (λe=>by cases e);simp only[Option.getD_some,Option.getD_none]at hb;obtain⟨_,_,Y8⟩:=hb l.length (Nat.le_refl _);generalize hu:n.toNat=u at*;have gr:(l.take u).length=u:=by{rw[aF];omega};have fin:∀v,(execOp a.eval o).run C.P w=.ok (.value v) w->fX R w false v (.sl st (l.take u))->(∀b,Value.ij v=some b->Value.ij (τ k)=some b)->v.oneCell'=true->fx C o a w (cR (cR (cR S k (.dead,.zz)) k2 (.sl st (l.take u),.pv)) d (.pt,.fo k2)):=λv mi hs hb A1=>by{have DZ:=h.Q5 (w':=w) (R':=R) (k:=k) (k2:=k2) (v:=v) (x:=.sl st (l.take u)) (g:=.pv) (c:=.zz) (y:=.dead) ⟨(q3 k (by simp[Gh.dt])).1,by rw[hk];exact⟨rfl,rfl⟩⟩ yn (eZ.refl _ _) (λ_ _=>.inl) rfl rfl rfl (Nat.le_refl _) (λ_ _ _=>rfl) (λb oa=>⟨.inr (hb b oa),hs.lt oa⟩) (.inl rfl) hs (.inl rfl) trivial;refine DZ.yt (v:=v) hd hl mi (g:=.fo k2) ⟨(gZ _ _ _).symm,A1⟩ rfl λj hj=>?_;simp only[Gh.dt,List.mem_singleton]at hj;subst hj;exact⟨yn.2.2,by rw[cG];simp⟩};rcases fX.cells hK with⟨rfl,e1⟩|⟨g,cap,cur,ce,fz,e1,e2,e3,e4,e5,e6,e7,e8⟩;{obtain rfl:u=0:=by{simpa using Y8};have ta:=(hb 0 (by simp)).1;simp only[aE]at ta;refine fin (.slice none 0 0) ?_ ⟨st,[],rfl,.inl ⟨rfl,rfl⟩⟩ (λb hb=>by cases hb) rfl;simp only[execOp,ho,hv,e1,Instr.sliceAt,Instr.slice,Sem.run_bind,run_underlying ht,Result.andThen_ok,Option.map_none,Option.map_some,run_sizeOf wN,Sem.run_pure];simp at ta;simp[ta]};{have ta:=(hb cap e5).1;refine fin (.slice (some ⟨g,0,none⟩) u cap) ?_ ⟨st,l.take u,rfl,.inr ⟨g,cap,cur,ce,fz,by rw[gr],e2,e3,e4,by omega,e6,?_,λo=>⟨λhr=>by simpa using(e8 o).1 hr,λhr=>by simp at hr⟩⟩⟩ (λb hb=>by rw[e1];exact hb) rfl;{simp only[execOp,ho,hv,e1,Instr.sliceAt,Instr.slice,Sem.run_bind,run_underlying ht,Result.andThen_ok,Option.map_none,Option.map_some,run_sizeOf wN,Sem.run_pure];simp at ta;simp[ta,addr_add]};{rw[gr];have:((l.take u).map st.tv).flatMap TV.cells=((l.map st.tv).flatMap TV.cells).take (u*st.size):=by{have e:=congrArg (λm:List st.El=>(m.map st.tv).flatMap TV.cells) (List.take_append_drop u l);simp only[List.map_append,List.flatMap_append]at e;rw[<-e,show u*st.size=(((l.take u).map st.tv).flatMap TV.cells).length by rw[oA,gr],List.take_left]};rw[this];have hle:u*st.size<=l.length*st.size:=ay _ Y8;have:=e7.take (u*st.size);rwa[List.take_take,Nat.min_eq_left hle]at this}}
end
theorem go_stt(hd:o.dst=none){x v:Operand}{t:TypeId}{inf:TypeInfo}{m q k:Nat}{cs:List TV}{ts:List (Nat×Nat)}(ho:o.op=.store t x v)(hi:C.P.info? t=some inf)(hn:inf.size=1)(hx:gR C.E C.nt V 0 x=some (.pt,.ptr m q))(hm:S m=(.ag cs,.cl ts))(hv:gR C.E C.nt V t v=some (.pt,.fo k))(oh:q<cs.length)(mU:k≠m)(Sb:∀t∈ts,t.2≠m):fx C o a w (cR S m (.ag (gX cs q [.pt]),.cl ((q,k)::FR q 1 ts))):=by obtain⟨q1,_,q3⟩:=gV h hV hv;have e1:a.eval v=τ k:=q1.1;have e2:(a.eval v).oneCell'=true:=q1.2;have e3:(a.eval v).cells.toList=[a.eval v]:=zD e2;refine go_st' h hV hd ho hi hx hm (qs:=[.pt]) (by rw[e3];exact .cons e2 (.pt _) .nil) (by simp[hn]) (by omega) λu hu=>?_;rcases aP.1 hu with rfl|hu;{exact⟨mU,.inr ⟨(q3 k (by simp[Gh.dt])).1,(q3 k (by simp[Gh.dt])).2,Nat.le_refl _,by rw[e3,e1];simp⟩⟩};{obtain⟨h1,h2⟩:=zt hu;rw[hn];exact⟨Sb u h1,.inl ⟨h1,h2⟩⟩}
theorem go_sto(hd:o.dst=none){x v:Operand}{t:TypeId}{inf:TypeInfo}{m:Nat}{cs xs:List TV}{ts us:List (Nat×Nat)}(ho:o.op=.store t x v)(hi:C.P.info? t=some inf)(hx:gR C.E C.nt V 0 x=some (.pt,.ptr m 0))(hm:S m=(.ag cs,.cl ts))(hv:gR C.E C.nt V t v=some (.ag xs,.ow us))(hn:xs.length=inf.size)(oh:inf.size=cs.length)(hus:∀t∈us,t.2≠m):fx C o a w (cR S m (.ag xs,.cl us)):=by obtain⟨q1,_,q3⟩:=gV h hV hv;obtain⟨ys,vs,e1,e2,e3,e4⟩:∃ys vs,a.eval v=.agg ⟨ys⟩/\TV.ag xs=.ag vs/\dJ R w vs ys/\∀p∈us,ys[p.1]?=some (τ p.2):=q1;cases e2;have e5:(a.eval v).cells.toList=ys:=by{rw[e1];rfl};have:=go_st' h hV hd ho hi hx hm (qs:=xs) (us:=us) (by rw[e5];exact e3) hn (by omega) λu hu=>⟨hus u hu,.inr ⟨(q3 u.2 (List.mem_map_of_mem (f:=(·.2)) hu)).1,(q3 u.2 (List.mem_map_of_mem (f:=(·.2)) hu)).2,Nat.zero_le _,by rw[e5,Nat.sub_zero];exact e4 u hu⟩⟩;have e6:gX cs 0 xs=xs:=by{simp[gX,hn,oh]};rwa[e6]at this
end
def tF(P:Program)(f:Nat):Bool:=(P.funcs[f]?).any λfn=>fn.body.isSome&&!(fn.name== "runtime.NumGoroutine")
def Ty:Nat->Value:=λ_=>undef
def GO(R:Reach)(w:World)(m:Md)(x:TV)(v:Value):Prop:=
 match m with
 |.pl=>Rep R w x v
 |.rf=>Ar R w Ty v x []
 |_=>fX R w false v x
def Bt(R:Reach)(w:World)(ms:List Md)(ins:List TV)(xs:List Value):Prop:=ins.length=xs.length/\∀i x v,ins[i]?=some x->xs[i]?=some v->GO R w (ms.getD i .pl) x v
def RW(p:Md->Prop)(ms:List Md)(xs:List Value):Prop:=∀i j v v' b,p (ms.getD i .pl)->p (ms.getD j .pl)->xs[i]?=some v->xs[j]?=some v'->Value.ij v=some b->Value.ij v'=some b->i=j
def Bx(ms:List Md)(xs:List Value)(b:Nat):Prop:=∃i v,ms.getD i .pl≠.pl/\xs[i]?=some v/\Value.ij v=some b
def Md.HB(m:Md):Prop:=m≠.pl/\m≠.gv
def L7(R:Reach)(w:World)(m:Md)(y:TV)(v:Value):Prop:=
 match m with
 |.rf=>Ar R w Ty v y []
 |.sl=>fX R w false v y
 |.sm=>fX R w false v y
 |_=>True
def qp(vs:List Value)(i:Nat):Option Value:=cond (Nat.blt i 1000) (vs[i]?) (match vs[0]? with|some (Value.agg cs)=>cs.toList[i -1000]? |_=>none)
structure Bs (sg:ib) (R:Reach) (w:World) (dV:Nat->Prop) (ins:List TV) (xs:List Value) (outs:List TV) (x:Value) (pd:List Value) (ys:List TV):Prop where
 len:pd.length=sg.jd
 le:sg.jd<=outs.length
 val:x=if sg.jd=1 then pd.headD undef else .tuple ⟨pd⟩
 rep:jf R w (uU sg.own (outs.take sg.jd)) pd
 own:∀i∈sg.own,∀v y,qp pd i=some v->sf outs i=some y->fX R w false v y
 back:nJ sg.md ins (outs.drop sg.jd)=some ys
 Uy:∀i y v,ys[i]?=some y->xs[i]?=some v->L7 R w (sg.md.getD i .pl) y v
 dV:∀i∈sg.own,∀v b,qp pd i=some v->Value.ij v=some b->dV b
 Wp:∀(j j' i i':Nat)(v v':Value)(b:Nat),sg.own[j]?=some i->sg.own[j']?=some i'->qp pd i=some v->qp pd i'=some v'->Value.ij v=some b->Value.ij v'=some b->j=j'
 Wo:∀i∈sg.own,∀v b,qp pd i=some v->Value.ij v=some b->∀q u,(sg.md.getD q .pl).HB->xs[q]?=some u->Value.ij u≠some b
def gf(P:Program)(gl:Nat->Option (List Value))(f:Nat)(c:dD×ib):Prop:=∀ins outs,(c.1 ins).holds outs->tF P f=true/\∀w R xs,(∀b o,R b o->b<w.heap.size)->GlOK gl R w->Bt R w c.2.md ins xs->RW (· ≠.pl) c.2.md xs->Calls P f ⟨xs⟩ w λe w'=>∃x R' pd ys,e=.returned x/\Ext w R (Bx c.2.md xs) w' R'/\(∀b o,R' b o->b<w'.heap.size)/\Bs c.2 R' w' (λb=>Bx c.2.md xs b\/w.heap.size<=b) ins xs outs x pd ys
def Po(V:St)(R:Reach)(w:World)(τ:Nat->Value)(m:Md)(c:Cell)(x:TV)(v:Value):Prop:=
 match m with
 |.pl=>Rep R w x v
 |.rf=>∃k cs ts b ys e xs,c=(.pt,.ptr k 0)/\V k=(.ag cs,.cl ts)/\v=τ k/\τ k=.pointer (some ⟨b,0,none⟩)/\w.heap[b]?=some (.cells ⟨ys⟩ e (0,0))/\x=.ag xs/\dJ R w xs ys
 |m=>(∃k g,c=(.pt,.fo k)/\V k=(x,g)/\(g=.pv\/(m=.sm/\∃r,g=.pc r))/\v=τ k)\/((m=.sm\/m=.gv)/\∃t,c=(.nl t,.no)/\x=.sl t []/\v=.slice none 0 0)
theorem Po.mono{V:St}{R R':Reach}{w:World}{τ:Nat->Value}{m:Md}{c:Cell}{x:TV}{v:Value}(h:Po V R w τ m c x v)(k:eZ R w R' w):Po V R' w τ m c x v:=by(cases m<;>simp only[Po]at h⊢<;>first|exact h.mono k|exact h|skip);obtain⟨q,cs,ts,b,ys,e,xs,h1,h2,h3,h4,h5,h6,h7⟩:=h;exact⟨q,cs,ts,b,ys,e,xs,h1,h2,h3,h4,h5,h6,h7.mono k⟩
inductive uv (V:St) (R:Reach) (w:World) (τ:Nat->Value):List Md->List Cell->List TV->List Value->Prop
 |nil (ms:List Md):uv V R w τ ms [] [] []
 |cons {ms:List Md} {c:Cell} {x:TV} {v:Value} {cs:List Cell} {xs:List TV} {vs:List Value}:Po V R w τ (ms.headD .pl) c x v->uv V R w τ ms.tail cs xs vs->uv V R w τ ms (c::cs) (x::xs) (v::vs)
theorem uv.mono{V:St}{R R':Reach}{w:World}{τ:Nat->Value}(k:eZ R w R' w):∀{ms:List Md}{cs:List Cell}{xs:List TV}{vs:List Value},uv V R w τ ms cs xs vs->uv V R' w τ ms cs xs vs
 |_,_,_,_,.nil _=>.nil _
 |_,_,_,_,.cons a b=>.cons (a.mono k) (uv.mono k b)
theorem uv.len{V:St}{R:Reach}{w:World}{τ:Nat->Value}:∀{ms:List Md}{cs:List Cell}{xs:List TV}{vs:List Value},uv V R w τ ms cs xs vs->xs.length=vs.length/\cs.length=vs.length
 |_,_,_,_,.nil _=>⟨rfl,rfl⟩
 |_,_,_,_,.cons _ b=>by obtain⟨h1,h2⟩:=uv.len b;simp[h1,h2]
theorem HW{ms:List Md}{i:Nat}:ms.tail.getD i .pl=ms.getD (i+1) .pl:=by cases ms<;>rfl
theorem HX{ms:List Md}:ms.headD .pl=ms.getD 0 .pl:=by cases ms<;>rfl
theorem uv.get{V:St}{R:Reach}{w:World}{τ:Nat->Value}:∀{ms:List Md}{cs:List Cell}{xs:List TV}{vs:List Value},uv V R w τ ms cs xs vs->∀(i:Nat)(v:Value),vs[i]?=some v->∃c x,cs[i]?=some c/\xs[i]?=some x/\Po V R w τ (ms.getD i .pl) c x v
 |_,_,_,_,.nil _,i,v,h=>by simp at h
 |_,_,_,_,.cons a b,0,v,h=>by cases h;exact⟨_,_,rfl,rfl,by rw[<-HX];exact a⟩
 |_,_,_,_,.cons a b,i+1,v,h=>by obtain⟨c,x,h1,h2,h3⟩:=uv.get b i v (by simpa using h);exact⟨c,x,by simpa using h1,by simpa using h2,by rw[<-HW];exact h3⟩
section
variable{nt:Nat}{R:Reach}{w:World}{dV:Nat->Prop}{τ:Nat->Value}{S V:St}
theorem NZ(h:Core nt R w dV τ S)(hV:Lq V S){m:Md}{c:Cell}{v:Value}{x:TV}{ws:List (Nat×Cell)}(hs:eY R w τ c.1 c.2 v)(hc:∀k∈c.2.dt,nt<=k)(he:RN V m c=some (x,ws)):∃R',Core nt R' w dV τ (fU S ws)/\Fz dV R w R'/\Po V R' w τ m c x v/\Lq V (fU S ws):=by
 have fo:∀{m:Md}{k:Nat}{g:Gh},m≠.pl->m≠.rf->c=(.pt,.fo k)->ws=[]->V k=(x,g)->(g=.pv\/(m=.sm/\∃r,g=.pc r))->∃R',Core nt R' w dV τ (fU S ws)/\Fz dV R w R'/\Po V R' w τ m c x v/\Lq V (fU S ws):=by{rintro m k g h1 h2 rfl rfl hk hg;have:v=τ k:=hs.1;refine⟨R,h,Fz.refl _ _ _,?_,hV⟩;cases m<;>first|exact(h1 rfl).elim|exact(h2 rfl).elim|exact .inl ⟨k,g,rfl,hk,hg,this⟩};unfold RN at he;split at he;{obtain⟨R',h1,h2,h3,h4⟩:=Ba h hV hs hc he;exact⟨R',h1,h2,h3,h4⟩};{rename_i k;split at he;{rename_i cs ts hk;split at he;{rename_i Bl U7 hf;cases he;have e:S k=(.ag cs,.cl ts):=by{rcases hV k with e|e|⟨e,_⟩;{rw[<-e,hk]};{rw[hk]at e;cases e};{rw[hk]at e;cases e}};have hK:=h.key k;rw[e]at hK;obtain⟨b,ys,el,xs,h1,h2,h3,h4,h5,h6⟩:=hK;cases h3;obtain⟨b',p1,hv⟩:∃b,τ k=.pointer (some ⟨b,0,none⟩)/\v=.pointer (some ⟨b,0,none⟩):=hs;obtain⟨R',f1,f2,f3,f4,_⟩:=pY h hV h4 (λt ht=>⟨by have:=h.inv k t.2;rw[e]at this;exact(this (List.mem_map_of_mem (f:=(·.2)) ht)).1,h5 t ht⟩) hf;exact⟨R',f1,f2,⟨k,cs,ts,b,ys,el,_,rfl,hk,by rw[hv,p1],h1,h2,rfl,q8 f3⟩,f4⟩};{cases he}};{cases he}};{cases he};{rename_i k n1 _;split at he;{rename_i y hk;cases he;exact fo (by intro e;subst e;simp_all) (by intro e;subst e;simp_all) rfl rfl (by assumption) (.inl rfl)};{rename_i y r hk;cases he;exact fo (by simp) (by simp) rfl rfl (by assumption) (.inr ⟨rfl,_,rfl⟩)};{cases he}}
 ·rename_i t;cases he;refine⟨R,h,Fz.refl _ _ _,.inr ⟨.inl rfl,t,rfl,rfl,?_⟩,hV⟩;have:Rep R w (.nl t) v:=kU.rep hs;cases this with
  |sc h=>cases h
  |nl=>rfl
 ·rename_i t;cases he;refine⟨R,h,Fz.refl _ _ _,.inr ⟨.inr rfl,t,rfl,rfl,?_⟩,hV⟩;have:Rep R w (.nl t) v:=kU.rep hs;cases this with
  |sc h=>cases h
  |nl=>rfl
 {cases he}
theorem DJ:∀{cs:List Cell}{ms:List Md}{R:Reach}{S:St}{vs:List Value}{xs:List TV}{ws:List (Nat×Cell)},Core nt R w dV τ S->Lq V S->Cells R w τ nt cs vs->DK V ms cs=some (xs,ws)->
  ∃R',Core nt R' w dV τ (fU S ws)/\Fz dV R w R'/\uv V R' w τ ms cs xs vs/\Lq V (fU S ws)
 |[],ms,R,S,_,_,_,h,hV,.nil,he=>by cases he;exact⟨R,h,Fz.refl _ _ _,.nil _,hV⟩
 |c::cs,ms,R,S,_,_,_,h,hV,.cons a b t,he=>by simp only[DK]at he;split at he;{rename_i x ws e1;split at he;{rename_i xs us e2;cases he;obtain⟨R1,h1,k1,r1,q1⟩:=DJ h hV t e2;obtain⟨R2,h2,k2,r2,q2⟩:=NZ h1 q1 (a.dX k1.1 λ_ _=>rfl) b e1;rw[lg];exact⟨R2,h2,k1.trans k2,.cons r2 (r1.mono k2.1),q2⟩};{cases he}};{cases he}
theorem AI:∀{l:List (Nat×Cell)}{S:St}{k:Nat}{x:Cell},(k,x)∈l->(∀y,(k,y)∈l->y=x)->fU S l k=x
 |(j,y)::l,S,k,x,h,hu=>by simp only[fU];by_cases e:k=j;{subst e;rw[cG];exact hu y (List.mem_cons_self ..)};{rw[fq _ _ e];rcases aP.1 h with h|h;{cases h;exact(e rfl).elim};{exact AI h λy hy=>hu y (List.mem_cons_of_mem _ hy)}}
theorem se{V:St}:∀{ms:List Md}{cs:List Cell}{ys:List TV}{p:Nat×Cell},p∈iP V ms cs ys->∃i c y,cs[i]?=some c/\ys[i]?=some y/\i<ms.length/\ob V (ms.getD i .pl) c y=some p
 |m::ms,c::cs,y::ys,p,h=>by simp only[iP]at h;split at h;{rename_i q e;rcases aP.1 h with rfl|h;{exact⟨0,c,y,rfl,rfl,by simp,e⟩};{obtain⟨i,c',y',h1,h2,h3,h4⟩:=se h;exact⟨i+1,c',y',by simpa using h1,by simpa using h2,by simpa using h3,h4⟩}};{obtain⟨i,c',y',h1,h2,h3,h4⟩:=se h;exact⟨i+1,c',y',by simpa using h1,by simpa using h2,by simpa using h3,h4⟩}
 |[],_,_,_,h=>by simp[iP]at h
 |_::_,[],_,_,h=>by simp[iP]at h
 |_::_,_::_,[],_,h=>by simp[iP]at h
theorem pT{V:St}:∀{ms:List Md}{cs:List Cell}{ys:List TV}{p:Nat×Cell}{i:Nat}{c:Cell}{y:TV},cs[i]?=some c->ys[i]?=some y->i<ms.length->ob V (ms.getD i .pl) c y=some p->p∈iP V ms cs ys
 |m::ms,c::cs,y::ys,p,0,_,_,h1,h2,_,h4=>by cases h1;cases h2;simp only[iP];have:ob V m c y=some p:=h4;rw[this];exact List.mem_cons_self ..
 |m::ms,c::cs,y::ys,p,i+1,_,_,h1,h2,h3,h4=>by have:=pT (ms:=ms) (cs:=cs) (ys:=ys) (i:=i) (by simpa using h1) (by simpa using h2) (by simpa using h3) h4;simp only[iP];split;{exact List.mem_cons_of_mem _ this};{exact this}
 |[],_,_,_,_,_,_,_,_,h,_=>by simp at h
 |_::_,[],_,_,_,_,_,h,_,_,_=>by simp at h
 |_::_,_::_,[],_,_,_,_,_,h,_,_=>by simp at h
theorem Dm{k:Nat}{x:Cell}{l:List (Nat×Cell)}(h:Bk ((k,x)::l)=true){p:Nat×Cell}(hp:p∈l):p.1≠k:=by simp only[Bk,af,aC]at h;have:=h.1 p hp;intro e;rw[e]at this;simp at this
theorem Ia{p:Nat×Cell}{l:List (Nat×Cell)}(h:Bk (p::l)=true):Bk l=true:=by obtain⟨k,x⟩:=p;simp only[Bk,af]at h;exact h.2
theorem Bj{V:St}:∀{ms:List Md}{cs:List Cell}{ys:List TV}{k i j:Nat}{c c':Cell}{y y':TV}{x x':Cell},Bk (iP V ms cs ys)=true->cs[i]?=some c->ys[i]?=some y->i<ms.length->ob V (ms.getD i .pl) c y=some (k,x)->
  cs[j]?=some c'->ys[j]?=some y'->j<ms.length->ob V (ms.getD j .pl) c' y'=some (k,x')->i=j
 |m::ms,c::cs,y::ys,k,0,0,_,_,_,_,_,_,_,_,_,_,_,_,_,_,_=>rfl
 |m::ms,c::cs,y::ys,k,0,j+1,_,_,_,_,_,_,hd,h1,h2,h3,h4,k1,k2,k3,k4=>by cases h1;cases h2;have e:ob V m c y=some (k,_):=h4;simp only[iP,e]at hd;exact(Dm hd (pT (by simpa using k1) (by simpa using k2) (by simpa using k3) k4) rfl).elim
 |m::ms,c::cs,y::ys,k,i+1,0,_,_,_,_,_,_,hd,h1,h2,h3,h4,k1,k2,k3,k4=>by cases k1;cases k2;have e:ob V m c y=some (k,_):=k4;simp only[iP,e]at hd;exact(Dm hd (pT (by simpa using h1) (by simpa using h2) (by simpa using h3) h4) rfl).elim
 |m::ms,c::cs,y::ys,k,i+1,j+1,_,_,_,_,_,_,hd,h1,h2,h3,h4,k1,k2,k3,k4=>by have Ix:Bk (iP V ms cs ys)=true:=by{simp only[iP]at hd;split at hd;{exact Ia hd};{exact hd}};rw[Bj Ix (by simpa using h1) (by simpa using h2) (by simpa using h3) h4 (by simpa using k1) (by simpa using k2) (by simpa using k3) k4]
 |[],_,_,_,_,_,_,_,_,_,_,_,_,_,_,h,_,_,_,_,_=>by simp at h
 |_::_,[],_,_,_,_,_,_,_,_,_,_,_,h,_,_,_,_,_,_,_=>by simp at h
 |_::_,_::_,[],_,_,_,_,_,_,_,_,_,_,_,h,_,_,_,_,_,_=>by simp at h
theorem Cw{nt:Nat}{own:Nat->Nat}:∀{l:List Nat}{j:Nat}{outs:List TV}{ns:List (Nat×Cell)},M3 nt own V l j outs=some ns->
  (∀p∈ns,∃q i y,l[q]?=some i/\p=(own (j+q),(y,.pv))/\sf outs i=some y/\vc nt V (own (j+q))=true)/\(∀q i,l[q]?=some i->∃y,sf outs i=some y/\(own (j+q),(y,.pv))∈ns/\vc nt V (own (j+q))=true)
 |[],j,outs,ns,h=>by cases h;exact⟨by simp,by simp⟩
 |i::l,j,outs,ns,h=>by
  simp only[M3]at h;split at h
  ·rename_i x hx;obtain⟨h1,h2⟩:=bK.1 h;rw[aW]at h2;obtain⟨ns',h2,rfl⟩:=h2;obtain⟨k1,k2⟩:=Cw h2;refine⟨λp hp=>?_,λq i' hq=>?_⟩;{rcases aP.1 hp with rfl|hp;{exact⟨0,i,x,rfl,rfl,hx,h1⟩};{obtain⟨q,i',y,e1,e2,e3,e4⟩:=k1 p hp;rw[show j+1+q=j+(q+1) by omega]at e2 e4;exact⟨q+1,i',y,by simpa using e1,e2,e3,e4⟩}}
   ·cases q with
    |zero=>cases hq;exact⟨x,hx,List.mem_cons_self ..,h1⟩
    |succ q=>obtain⟨y,e1,e2,e3⟩:=k2 q i' (by simpa using hq);rw[show j+1+q=j+(q+1) by omega]at e2 e3;exact⟨y,e1,List.mem_cons_of_mem _ e2,e3⟩
  {cases h}
theorem MT{R:Reach}{w:World}{l:List Nat}{outs:List TV}{pd:List Value}{i:Nat}{y:TV}(h:jf R w (uU l outs) pd)(hi:i∈l)(hy:sf outs i=some y):∃v,qp pd i=some v:=by
 unfold sf at hy;unfold qp;cases hb:Nat.blt i 1000 with
 |true=>rw[hb,au]at hy;simp only[au];have hl:=h.length;have:(uU l outs).length=outs.length:=by{unfold uU;cases mN l<;>simp};have gr:=(aH.1 hy).1;exact⟨_,aw (by omega)⟩
 |false=>
  rw[hb,aj]at hy;simp only[aj];have hs:mN l=false:=by
   cases hs:mN l with
   |false=>rfl
   |true=>have:=aC.1 hs i hi;rw[hb]at this;cases this
  unfold uU at h;rw[hs,aj]at h;match outs,hy with
  |.ag cs::r,hy=>
   simp only[List.getElem?_cons_zero]at hy;simp only[bc,Vj]at h;cases h with
   |cons h1 h2=>
    cases h1 with
    |sc e=>cases e
    |@ag _ ys hL=>have hl:=hL.length;simp only[List.length_mapIdx]at hl;have gr:=(aH.1 hy).1;exact⟨_,aw (l:=ys) (by simpa using(by omega:i -1000<ys.length))⟩
theorem zB{outs:List TV}{n i:Nat}{y:TV}(h:sf (outs.take n) i=some y):sf outs i=some y:=by
 unfold sf at h⊢;have t:∀j x,(outs.take n)[j]?=some x->outs[j]?=some x:=λj x hj=>by{rw[aZ]at hj;split at hj;{exact hj};{cases hj}};cases hb:Nat.blt i 1000 with
 |true=>rw[hb,au]at h;rw[au];exact t _ _ h
 |false=>rw[hb,aj]at h;rw[aj];split at h;{rename_i cs e;rw[t _ _ e];exact h};{cases h}
end
theorem Ao:∀{ms:List Md}{ins outs ys:List TV},nJ ms ins outs=some ys->ys.length=ms.length
 |[],_,_,_,h=>by grind[nJ]
 |m::ms,ins,outs,ys,h=>by have key:∀{y:TV}{ins outs:List TV},(nJ ms ins outs).map (y::·)=some ys->ys.length=(m::ms).length:=λh=>by{rw[aW]at h;obtain⟨zs,h1,rfl⟩:=h;simp[Ao h1]};unfold nJ at h;(split at h<;>first|(rename_i e;cases e;exact key h)|(rename_i e _;cases e;exact key h)|(rename_i e _ _;cases e;exact key h)|(cases h;done)|skip);all_goals simp_all
theorem DI:∀{ms:List Md}{ins outs ys:List TV}{i:Nat},nJ ms ins outs=some ys->ms.getD i .pl=.sm->ys[i]?=ins[i]?
 |m::ms,ins,outs,ys,i,h,hm=>by
  have key:∀{y z:TV}{Qh Oq:List TV},ins=z::Qh->(nJ ms Qh Oq).map (y::·)=some ys->(m=.sm->y=z)->ys[i]?=ins[i]?:=λ{y z Qh Oq}e h hy=>by
   rw[aW]at h;obtain⟨zs,h1,rfl⟩:=h;subst e;cases i with
   |zero=>simp at hm⊢;exact hy hm
   |succ i=>simp at hm⊢;exact DI h1 (by simpa using hm)
  unfold nJ at h;(split at h<;>first|(rename_i e;cases e;exact key rfl h (by simp))|(rename_i e _;cases e;exact key rfl h (by simp))|(rename_i e _ _;cases e;exact key rfl h (by simp))|(cases h;done)|skip);all_goals simp_all
theorem Jx(l:List TV):uU [] l=l:=by unfold uU;simp only[mN,List.all_nil,au];apply List.ext_getElem?;intro i;rw[List.getElem?_mapIdx];cases l[i]? <;>rfl
theorem fX.one{R:Reach}{w:World}{p:Bool}{v:Value}{x:TV}(h:fX R w p v x):v.oneCell'=true:=by obtain⟨t,l,_,⟨_,rfl⟩|⟨g,cap,cur,e,fz,rfl,_⟩⟩:=h<;>rfl
section
variable{C:Ctx}{S V:St}{a:Act}{w:World}{R:Reach}{τ:Nat->Value}{o:Oper}{d:Nat}
theorem fD.Tr(h:fD C S a w R τ)(hl:d<C.nt){v:Value}{x:TV}{g:Gh}(hs:eY R w τ x g v)(hg:g.slot=true)(hm:∀k∈g.dt,C.nt<=k/\(S k).2≠.no):wX C (cR S d (x,g)) (a.put (some d) v) w:=by refine⟨R,_,by simp[Act.put,h.size],h.defers,h.core.put hl hs hg hm,λt ht=>?_,⟨h.io.1,λk hk=>?_⟩,h.ext,h.gl⟩;{by_cases e:t=d;{subst e;rw[gZ];simp[Act.put,h.size,ht]};{rw[iQ _ _ e,<-h.tmps t ht];simp only[Act.put,Array.getD_eq_getD_getElem?];rw[Array.getElem?_setIfInBounds_ne (Ne.symm e)]}};{have:=h.io.1;rw[iQ _ _ (by omega)];exact h.io.2 k hk}
theorem Lw{f:Nat}{args:Array Operand}{ts:Array TypeId}{x:Operand}(ho:o.op=.call {callee:=.value x,args,argTypes:=ts})(hx:a.eval x=.func (.func f) #[] #[])(hp:tF C.P f=true):(execOp a.eval o).run C.P w=.ok (.enter f (args.map a.eval)) w:=by
 unfold tF at hp;cases hf:C.P.funcs[f]? with
 |none=>simp[hf]at hp
 |some fn=>simp only[hf,Option.any_some,af,Bool.not_eq_true',beq_eq_false_iff_ne]at hp;obtain⟨h1,h2⟩:=hp;simp[execOp,ho,resolve,Deferred.ofValue,hx,invoke,callFunc,hf];rw[ao h2,ao (by grind)]
open Classical in
def Cv(τ:Nat->Value)(own:Nat->Nat)(l:List Nat)(pd:List Value)(k:Nat):Value:=if h:∃q i,l[q]?=some i/\own q=k then(qp pd (l.getD h.choose 0)).getD undef else τ k
theorem JL{own:Nat->Nat}{l:List Nat}{pd:List Value}{q i:Nat}(A2:∀j j',own j=own j'->j=j')(hq:l[q]?=some i):Cv τ own l pd (own q)=(qp pd i).getD undef:=by have h:∃q' i,l[q']?=some i/\own q'=own q:=⟨q,i,hq,rfl⟩;unfold Cv;rw[dif_pos h];obtain⟨i',h1,h2⟩:=h.choose_spec;have:h.choose=q:=A2 _ _ h2;rw[this,show l.getD q 0=i by simp[ai,hq]]
theorem Hp{own:Nat->Nat}{l:List Nat}{pd:List Value}{k:Nat}(h:∀q i,l[q]?=some i->own q≠k):Cv τ own l pd k=τ k:=by unfold Cv;rw[dif_neg];rintro⟨q,i,h1,h2⟩;exact h q i h1 h2
set_option maxHeartbeats 2000000 in
theorem go_call(h:fD C S a w R τ)(hV:Lt V S)(hd:o.dst=none\/∃d,o.dst=some d/\d<C.nt){f:Nat}{c:dD}{sg:ib}(hS:gf C.P C.gl f (c,sg)){args:Array Operand}{ts:Array TypeId}{x:Operand}(ho:o.op=.call {callee:=.value x,args,argTypes:=ts})(hx:a.eval x=.func (.func f) #[] #[]){tl:List TypeId}{cs:List Cell}{xs:List TV}{ws:List (Nat×Cell)}{outs:List TV}{own:Nat->Nat}{p:Option Bool}{e:iu}(yo:sj C.E C.nt V tl args.toList=some cs)(OI:DK V sg.md cs=some (xs,ws))(hc:(c xs).holds outs)(A2:0<C.nt->∀j j',own j=own j'->j=j')(he:DA C.nt own V sg cs xs ws p outs=some e):fx C o a w (jJ S o.dst e):=by
 unfold DA at he;obtain⟨hh,he⟩:=bK.1 he;simp only[af]at hh;obtain⟨hh,Xa⟩:=hh;have A2:=A2 (Nat.le_of_ble_eq_true hh.2);have hle:=Nat.le_of_ble_eq_true hh.1;(split at he<;>try(cases he;done));rename_i ns ys hns Qn;obtain⟨ZA,he⟩:=bK.1 he;cases he;simp only[af]at ZA;obtain⟨OZ,Mb⟩:=ZA;have Mb:∀q∈ws,∀p∈iP V sg.md cs ys,p.1≠q.1:=λq hq p hp e=>by{have:=aC.1 (aC.1 Mb q hq) p hp;rw[e]at this;simp at this};obtain⟨kH,_,QE⟩:=tI h hV yo;obtain⟨R1,h1,f1,Qv,hq⟩:=DJ h.core hV.q kH OI;have h':fD C (fU S ws) a w R1 τ:=h.fz h1 f1;obtain⟨TY,QJ⟩:=Qv.len;generalize Km:args.toList.map a.eval=vs at*;generalize ZN:fU S ws=S1 at*;have Sa:=Ao Qn;obtain⟨Ns,DZ⟩:=Cw hns;simp only[Nat.zero_add]at Ns DZ;have hand:∀i v,vs[i]?=some v->sg.md.getD i .pl≠.pl->∃c y x,cs[i]?=some c/\ys[i]?=some y/\xs[i]?=some x/\i<sg.md.length/\GO R1 w (sg.md.getD i .pl) x v/\
   ((v=.slice none 0 0/\∀y,ob V (sg.md.getD i .pl) c y=none)\/∃k x',ob V (sg.md.getD i .pl) c y=some (k,x')/\v=τ k/\C.nt<=k/\(S1 k).2.own=true/\(S1 k).2.Gd=false/\((S1 k).2.Ge=false\/sg.md.getD i .pl=.sm)/\(sg.md.getD i .pl=.sm->S1 k=(x,(V k).2)/\((V k).2=.pv\/∃r,(V k).2=.pc r))):=by
  intro i v hv hm
  obtain⟨c,x,e1,e2,e3⟩:=Qv.get i v hv
  have hi:i<sg.md.length:=by rcases Nat.lt_or_ge i sg.md.length with hi|hi;{exact hi};{rw[ai,List.getElem?_eq_none hi]at hm;exact(hm rfl).elim}
  have ey:ys[i]?=some ys[i]:=aw (by omega)
  have TW:=QE c (aO e1)
  have Tv:∀k x',ob V (sg.md.getD i .pl) c ys[i]=some (k,x')->(V k).2≠.hid->S1 k=V k:=λk x' hb hg=>by have vm:=pT e1 ey hi hb;rw[<-ZN,iU λq hq e=>Mb q hq _ vm e.symm];exact((hV k).resolve_right hg).symm
  refine⟨c,ys[i],x,e1,ey,e2,hi,?_⟩
  generalize sg.md.getD i .pl=m at*
  have fo:m≠.pl->m≠.rf->(∃k g,c=(.pt,.fo k)/\V k=(x,g)/\(g=.pv\/(m=.sm/\∃r,g=.pc r))/\v=τ k)->GO R1 w m x v/\((v=.slice none 0 0/\∀y,ob V m c y=none)\/∃k x',ob V m c ys[i]=some (k,x')/\v=τ k/\C.nt<=k/\(S1 k).2.own=true/\(S1 k).2.Gd=false/\((S1 k).2.Ge=false\/m=.sm)/\(m=.sm->S1 k=(x,(V k).2)/\((V k).2=.pv\/∃r,(V k).2=.pc r))):=by rintro Zr Zq ⟨k,g,rfl,hk,hg,rfl⟩;have Mf:g.own=true/\g.Gd=false/\g≠.hid/\∀R w τ x v,kA R w τ x g v=fX R w false v x:=by{rcases hg with rfl|⟨_,r,rfl⟩<;>exact⟨rfl,rfl,by simp,λ_ _ _ _ _=>rfl⟩};obtain⟨x',hb⟩:∃x',ob V m (.pt,.fo k) ys[i]=some (k,x'):=by{cases m<;>first|exact(Zr rfl).elim|exact(Zq rfl).elim|exact⟨_,rfl⟩};have e:=Tv k x' hb (by rw[hk];exact Mf.2.2.1);have hK:=h1.key k;rw[e,hk,Mf.2.2.2]at hK;refine⟨?_,.inr ⟨k,x',hb,rfl,(TW.2 k (by simp[Gh.dt])).1,by rw[e,hk];exact Mf.1,by rw[e,hk];exact Mf.2.1,by rw[e,hk];exact hg.imp (λe=>by rw[e];rfl) (·.1),λ_=>by rw[e,hk];exact⟨rfl,hg.imp id (·.2)⟩⟩⟩;cases m<;>first|exact(Zr rfl).elim|exact(Zq rfl).elim|exact hK
  cases m with
  |pl=>exact(hm rfl).elim
  |rf=>obtain⟨k,Bl,ts,b,zs,el,L8,rfl,hk,rfl,hb,hhp,rfl,hL⟩:=e3;have e:=Tv k _ rfl (by rw[hk];simp);have hK:=h1.key k;rw[e,hk]at hK;obtain⟨b',_,_,_,k1,_,_,_,_,k2⟩:=hK;rw[hb]at k1;cases k1;exact⟨⟨b,zs,el,L8,hb,hhp,rfl,hL,by simp,k2⟩,.inr ⟨k,_,rfl,rfl,(TW.2 k (by simp[Gh.dt])).1,by rw[e,hk];rfl,by rw[e,hk];rfl,.inl (by rw[e,hk];rfl),λe=>by cases e⟩⟩
  |sl=>exact fo (by simp) (by simp) (e3.resolve_right (by simp))
  |gv=>rcases e3 with e3|⟨_,t,rfl,rfl,rfl⟩;{exact fo (by simp) (by simp) e3};{exact⟨⟨t,[],rfl,.inl ⟨rfl,rfl⟩⟩,.inl ⟨rfl,λ_=>rfl⟩⟩}
  |sm=>rcases e3 with e3|⟨_,t,rfl,rfl,rfl⟩;{exact fo (by simp) (by simp) e3};{exact⟨⟨t,[],rfl,.inl ⟨rfl,rfl⟩⟩,.inl ⟨rfl,λ_=>rfl⟩⟩}
 have hargs:Bt R1 w sg.md xs vs:=⟨TY,λi x v hx hv=>by
  by_cases hm:sg.md.getD i .pl=.pl;{obtain⟨c,x',_,e2,e3⟩:=Qv.get i v hv;rw[hx]at e2;cases e2;rw[hm]at e3⊢;exact e3}
  ·obtain⟨_,_,x',_,_,e2,_,e3,_⟩:=hand i v hv hm;rw[hx]at e2;cases e2;exact e3⟩
 have WX:RW (· ≠.pl) sg.md vs:=λi j v v' b hi hj hv zR hb oa=>by{obtain⟨c,y,_,a1,a2,_,a3,_,a4⟩:=hand i v hv hi;obtain⟨c',y',_,b1,b2,_,b3,_,b4⟩:=hand j v' zR hj;rcases a4 with⟨rfl,_⟩|⟨k,x1,k1,rfl,_,k2,k3,_⟩;{cases hb};rcases b4 with⟨rfl,_⟩|⟨k',x2,l1,rfl,_,l2,l3,_⟩;{cases oa};have:=h1.xq (ig k2 k3 hb) (ig l2 l3 oa);subst this;exact Bj OZ a1 a2 a3 k1 b1 b2 b3 l1};obtain⟨hpf,yr⟩:=hS xs outs hc;intro K Q hK;unfold Oper.wp;rw[Lw ho hx hpf,Oper.upon_enter];have e0:(⟨vs⟩:Array Value)=args.map a.eval:=by{apply Array.ext';simp[<-Km]};have yr:=yr w R1 vs h1.ux h'.gl hargs WX;rw[e0]at yr;refine yr.mono ?_;rintro e w' ⟨x,R',pd,At,rfl,HR,WZ,wu⟩;have:At=ys:=by{have:=wu.back;simp only at this;rw[Qn]at this;cases this;rfl};subst this;simp only at HR wu;have bk:∀k x,(k,x)∈iP V sg.md cs At->∃i v y,vs[i]?=some v/\At[i]?=some y/\v=τ k/\C.nt<=k/\(S1 k).2.own=true/\(S1 k).2.Gd=false/\((x,sg.md.getD i .pl)∈[((y,.cl []),.rf),((y,.pv),.sl),((.dead,.zz),.gv)]/\(S1 k).2.Ge=false\/sg.md.getD i .pl=.sm/\x=S1 k/\y=x.1/\(x.2=.pv\/∃r,x.2=.pc r))/\(∀x',(k,x')∈iP V sg.md cs At->x'=x):=by{intro k x vm;obtain⟨i,c,y,e1,e2,e3,e4⟩:=se vm;have hi:i<vs.length:=by{have:=(aH.1 e1).1;omega};have ev:vs[i]?=some vs[i]:=aw hi;have hm:sg.md.getD i .pl≠.pl:=by{intro e;rw[e]at e4;cases e4};obtain⟨c',y',xi,a1,a2,ax,a3,_,a4⟩:=hand i _ ev hm;rw[e1]at a1;cases a1;rw[e2]at a2;cases a2;have hu:∀x',(k,x')∈iP V sg.md cs At->x'=x:=λx' A0=>by{obtain⟨j,c2,y2,k1,k2,k3,k4⟩:=se A0;have:=Bj OZ e1 e2 e3 e4 k1 k2 k3 k4;subst this;rw[e1]at k1;cases k1;rw[e2]at k2;cases k2;rw[e4]at k4;cases k4;rfl};rcases a4 with⟨_,a4⟩|⟨k',x',k1,k2,k3,k4,k5,k6,k7⟩;{rw[a4]at e4;cases e4};{rw[e4]at k1;cases k1;refine⟨i,_,y,ev,e2,k2,k3,k4,k5,?_,hu⟩;by_cases hs:sg.md.getD i .pl=.sm;{right;obtain⟨q1,q2⟩:=k7 hs;have ey:y=xi:=by{have:=DI Qn hs;rw[e2,ax]at this;exact Option.some.inj this};rw[hs]at e4;unfold ob at e4;(split at e4<;>first|(cases e4;done)|(rename_i em _;cases em;done)|skip);rename_i ec;cases e4;exact⟨hs,by rw[q1,ey],rfl,q2⟩};{left;refine⟨?_,k6.resolve_right hs⟩;unfold ob at e4;split at e4<;>first|(cases e4;done)|(rename_i em _;exact(hs em).elim)|(rename_i em _;cases e4;rw[em];simp)}}};have nw:∀q i,sg.own[q]?=some i->(S1 (own q)).2=.no/\own q<1000000/\C.nt<=own q:=λq i nL=>jl hq (DZ q i nL).choose_spec.2.2;have Sv:∀k x,(k,x)∈iP V sg.md cs At->∀q i,sg.own[q]?=some i->own q≠k:=λk x vm q i nL e=>by{obtain⟨_,_,_,_,_,_,_,ho,_⟩:=bk k x vm;rw[<-e,(nw q i nL).1]at ho;cases ho};have WL:∀g,Bx sg.md vs g->∃k x,(k,x)∈iP V sg.md cs At/\ij τ S1 k=some g:=by{rintro g ⟨i,v,hm,hv,hb⟩;obtain⟨c',y',_,a1,a2,_,a3,_,a4⟩:=hand i v hv hm;rcases a4 with⟨rfl,_⟩|⟨k',x',k1,rfl,k3,k4,k5,_⟩;{cases hb};{exact⟨k',x',pT a1 a2 a3 k1,ig k4 k5 hb⟩}};have Nu:∀g,Bx sg.md vs g->C.dV g:=λg hg=>by{obtain⟨k,_,_,hb⟩:=WL g hg;exact h1.dV k g hb};have rv:∀q i,sg.own[q]?=some i->∃v y,qp pd i=some v/\(qp pd i).getD undef=v/\sf (outs.take sg.jd) i=some y/\sf outs i=some y/\fX R' w' false v y:=λq i nL=>by{obtain⟨y,e1,_⟩:=DZ q i nL;have hi:=aO nL;obtain⟨v,hv⟩:=MT wu.rep hi e1;exact⟨v,y,hv,by rw[hv];rfl,e1,zB e1,wu.own i hi _ _ hv (zB e1)⟩};let qH:=Cv τ own sg.own pd;have t1:∀q i,sg.own[q]?=some i->qH (own q)=(qp pd i).getD undef:=λq i=>JL A2;have t2:∀k,(∀q i,sg.own[q]?=some i->own q≠k)->qH k=τ k:=λk=>Hp;have Qu:fU S (iP V sg.md cs At++(ns++ws))=fU (fU S1 ns) (iP V sg.md cs At):=by{rw[lg,lg,ZN]};generalize Sm:fU S (iP V sg.md cs At++(ns++ws))=S' at*;have s1:∀k x,(k,x)∈iP V sg.md cs At->S' k=x:=λk x vm=>by{obtain⟨_,_,_,_,_,_,_,_,_,_,hu⟩:=bk k x vm;rw[Qu];exact AI vm hu};have s2:∀q i y,sg.own[q]?=some i->sf (outs.take sg.jd) i=some y->S' (own q)=(y,.pv):=λq i y nL hy=>by{obtain⟨y',e1,e2,_⟩:=DZ q i nL;rw[hy]at e1;cases e1;rw[Qu,iU λp hp e=>Sv p.1 p.2 hp q i nL e.symm];refine AI e2 λz hz=>?_;obtain⟨q',i',y2,k1,k2,k3,_⟩:=Ns _ hz;have ek:own q=own q':=congrArg Prod.fst k2;have:=A2 _ _ ek;subst this;rw[nL]at k1;cases k1;rw[hy]at k3;cases k3;exact congrArg Prod.snd k2};have s3:∀k,(∀x,(k,x)∉iP V sg.md cs At)->(∀q i,sg.own[q]?=some i->own q≠k)->S' k=S1 k:=λk hb hn=>by{rw[Qu,iU λp hp e=>hb p.2 (by rw[<-e];exact hp),iU λp hp e=>by obtain⟨q,i,y,k1,rfl,_⟩:=Ns p hp;exact hn q i k1 e]};have Kx:Core C.nt R' w' C.dV qH S':=by{refine h1.step (λk=>(∃x,(k,x)∈iP V sg.md cs At)\/∃q i,sg.own[q]?=some i/\own q=k) HR.dX (λk hk=>?_) (λk g hk hb=>?_) ?_ ?_ ?_ ?_ ?_ ?_ (λ_=>id) ?_ WZ ?_;{have e1:∀q i,sg.own[q]?=some i->own q≠k:=λq i a b=>hk (.inr ⟨q,i,a,b⟩);exact⟨s3 k (λx hx=>hk (.inl ⟨x,hx⟩)) e1,t2 k e1⟩};{have gr:=h1.lt hb;have Zn:¬Bx sg.md vs g:=λhg=>by{obtain⟨k',x,hm,oa⟩:=WL g hg;obtain⟨_,_,_,_,_,_,_,_,hp,_⟩:=bk k' x hm;have:=h1.xq oa hb;subst this;exact hk (.inl ⟨x,hm⟩)};exact⟨HR.heap g gr Zn,λo hr=>(HR.Hd g o hr).resolve_right (by rintro(h|h);exact absurd gr (by omega);exact Zn h)⟩};{rintro k (⟨x,hx⟩|⟨q,i,nL,rfl⟩);{obtain⟨i,v,y,e1,e2,rfl,e3,e4,e5,e6,_⟩:=bk k x hx;have hB:=wu.Uy i y _ e2 e1;rw[s1 k x hx,t2 k (Sv k x hx)];simp only[aP,Prod.mk.injEq,List.not_mem_nil,or_false]at e6;rcases e6 with⟨⟨rfl,em⟩|⟨rfl,em⟩|⟨rfl,em⟩,_⟩|⟨em,_,rfl,em2⟩<;>rw[em]at hB;{obtain⟨b,cs,e,xs,k1,k2,k3,k4,k5,k6⟩:=hB;exact⟨b,cs,e,xs,k1,k2,k3,k4,by simp,k6⟩};{exact hB};{trivial};{rcases em2 with e|⟨r,e⟩<;>rw[e]<;>exact hB}};{obtain⟨v,y,e1,e2,e3,e4,e5⟩:=rv q i nL;rw[s2 q i y nL e3,t1 q i nL,e2];exact e5}};{rintro k (⟨x,hx⟩|⟨q,i,nL,rfl⟩);{exact .inl (t2 k (Sv k x hx))};{exact .inr (.inr (nw q i nL).1)}};{rintro k (⟨x,hx⟩|⟨q,i,nL,rfl⟩);{obtain⟨i,v,y,e1,e2,rfl,e3,e4,e5,e6,_⟩:=bk k x hx;rw[s1 k x hx];simp only[aP,Prod.mk.injEq,List.not_mem_nil,or_false]at e6;right;rcases e6 with⟨⟨rfl,em⟩|⟨rfl,em⟩|⟨rfl,em⟩,_⟩|⟨em,_,rfl,e|⟨r,e⟩⟩<;>first|(rw[e];simp)|simp};{obtain⟨v,y,e1,e2,e3,e4,e5⟩:=rv q i nL;rw[s2 q i y nL e3];right;simp}};{rintro k (⟨x,hx⟩|⟨q,i,nL,rfl⟩);{obtain⟨i,v,y,e1,e2,rfl,e3,e4,e5,e6,_⟩:=bk k x hx;rw[s1 k x hx];simp only[aP,Prod.mk.injEq,List.not_mem_nil,or_false]at e6;rcases e6 with⟨e6,hP⟩|⟨em,ex,_⟩;{exact .inl ⟨hP,by rcases e6 with⟨rfl,em⟩|⟨rfl,em⟩|⟨rfl,em⟩<;>rfl⟩};{exact .inr ⟨e5,ex⟩}};{obtain⟨v,y,e1,e2,e3,e4,e5⟩:=rv q i nL;rw[s2 q i y nL e3,(nw q i nL).1];exact .inl ⟨rfl,rfl⟩}};{rintro k (⟨x,hx⟩|⟨q,i,nL,rfl⟩) _;{obtain⟨i,v,y,e1,e2,rfl,e3,e4,e5,e6,_⟩:=bk k x hx;exact .inl e4};{exact .inr (nw q i nL).1}};{have HB:∀k x,(k,x)∈iP V sg.md cs At->(S' k).2.own=true->∃i,(sg.md.getD i .pl).HB/\vs[i]?=some (τ k):=λk x hx ho=>by{obtain⟨i,v,y,e1,e2,rfl,e3,e4,e5,e6,_⟩:=bk k x hx;rw[s1 k x hx]at ho;refine⟨i,?_,e1⟩;simp only[aP,Prod.mk.injEq,List.not_mem_nil,or_false]at e6;rcases e6 with⟨⟨rfl,em⟩|⟨rfl,em⟩|⟨rfl,em⟩,_⟩|⟨em,_⟩<;>rw[em]<;>first|(cases ho;done)|exact⟨by simp,by simp⟩};have Pd:∀k x q i g,(k,x)∈iP V sg.md cs At->sg.own[q]?=some i->ij qH S' k=some g->ij qH S' (own q)=some g->False:=λk x q i g hx nL h1 h2=>by{obtain⟨o1,b1⟩:=gE h1;obtain⟨o2,b2⟩:=gE h2;obtain⟨j,l1,l2⟩:=HB k x hx o1;obtain⟨v,y,e1,e2,e3,e4,e5⟩:=rv q i nL;rw[t1 q i nL,e2]at b2;rw[t2 k (Sv k x hx)]at b1;exact wu.Wo i (aO nL) v g e1 b2 j _ l1 l2 b1};rintro k g (⟨x,hx⟩|⟨q,i,nL,rfl⟩) hb;{obtain⟨i,v,y,e1,e2,rfl,e3,e4,e5,e6,_⟩:=bk k x hx;have b1:=(gE hb).2;rw[t2 k (Sv k x hx)]at b1;have b2:=ig e4 e5 b1;refine⟨h1.dV k g b2,?_,.inr ⟨k,.inl ⟨x,hx⟩,b2⟩⟩;rintro k' (⟨x',A0⟩|⟨q,i,nL,rfl⟩) mU oa;{obtain⟨_,_,_,_,_,_,_,f4,f5,_⟩:=bk k' x' A0;have b3:=(gE oa).2;rw[t2 k' (Sv k' x' A0)]at b3;exact mU (h1.xq b2 (ig f4 f5 b3)).symm};{exact Pd k x q i g hx nL hb oa}};{obtain⟨v,y,e1,e2,e3,e4,e5⟩:=rv q i nL;have b1:=(gE hb).2;rw[t1 q i nL,e2]at b1;have hm:=wu.dV i (aO nL) v g e1 b1;refine⟨hm.elim (Nu g) λe=>.inr (Nat.le_trans h'.ext.size e),?_,hm.symm.imp id λhg=>?_⟩;{rintro k' (⟨x',A0⟩|⟨q',i',Qt,rfl⟩) mU oa;{exact Pd k' x' q i g A0 nL oa hb};{obtain⟨v',y',f1,f2,_⟩:=rv q' i' Qt;have b2:=(gE oa).2;rw[t1 q' i' Qt,f2]at b2;exact mU (by rw[wu.Wp q q' i i' v v' g nL Qt e1 f1 b1 b2])}};{obtain⟨k0,x0,h0,ta⟩:=WL g hg;exact⟨k0,.inl ⟨x0,h0⟩,ta⟩}}};{rintro k (⟨x,hx⟩|⟨q,i,nL,rfl⟩) j hj;{obtain⟨i,v,y,e1,e2,rfl,e3,e4,e5,e6,_⟩:=bk k x hx;rw[s1 k x hx]at hj;simp only[aP,Prod.mk.injEq,List.not_mem_nil,or_false]at e6;(rcases e6 with⟨⟨rfl,em⟩|⟨rfl,em⟩|⟨rfl,em⟩,_⟩|⟨em,ex,_⟩<;>first|(simp[Gh.dt]at hj;done)|skip);rw[ex]at hj;obtain⟨q1,q2⟩:=h1.inv k j hj;refine⟨q1,?_⟩;by_cases hb:∃x',(j,x')∈iP V sg.md cs At;{obtain⟨x',A0⟩:=hb;obtain⟨i',_,_,_,_,_,_,f3,_,f6,_⟩:=bk j x' A0;rw[s1 j x' A0];simp only[aP,Prod.mk.injEq,List.not_mem_nil,or_false]at f6;rcases f6 with⟨⟨rfl,_⟩|⟨rfl,_⟩|⟨rfl,_⟩,_⟩|⟨_,rfl,_⟩<;>first|(simp;done)|exact q2};{rw[s3 j (λx' A0=>hb ⟨x',A0⟩) λq i nL e=>by rw[<-e]at q2;exact q2 (nw q i nL).1];exact q2}};{obtain⟨v,y,e1,e2,e3,e4,e5⟩:=rv q i nL;rw[s2 q i y nL e3]at hj;simp[Gh.dt]at hj}};{rintro k (⟨x,hx⟩|⟨q,i,nL,rfl⟩) hk;{obtain⟨_,_,_,_,_,_,e3,_⟩:=bk k x hx;omega};{have:=(nw q i nL).2.2;omega}}};have CV:fD C S' a w' R' qH:=⟨h'.size,h'.defers,Kx,λt ht=>by
   rw[t2 t λq i nL e=>by have:=(nw q i nL).2.2;omega];exact h'.tmps t ht,
  ⟨h'.io.1,λk hk=>by rw[t2 k λq i nL e=>by have:=(nw q i nL).2.1;omega];exact h'.io.2 k hk⟩,h'.ext.trans HR (λb hb=>Nu b hb),h'.gl.dX HR.dX⟩
 show K (a.put o.dst x) w';rcases hd with hd|⟨d,hd,hl⟩;{rw[hd]at hK⊢;exact hK _ _ ⟨R',qH,show fD C _ a w' R' qH by simpa only[jJ,Sm]using CV⟩}
 ·rw[hd]at hK⊢;refine hK _ _ ?_;simp only[jJ,Sm];have zS:eY R' w' qH (Hg own sg (outs.take sg.jd)).1 (Hg own sg (outs.take sg.jd)).2 x/\(Hg own sg (outs.take sg.jd)).2.slot=true/\∀k∈(Hg own sg (outs.take sg.jd)).2.dt,∃q i,sg.own[q]?=some i/\k=own q:=by
   have lU:=wu.rep;unfold Hg;cases hb:Nat.beq sg.jd 1 with
   |true=>
    have hb:=aB hb;have hx:=wu.val;simp only[hb,if_true]at hx;have hl:=wu.len;simp only[hb]at hl;obtain⟨v,rfl⟩:∃v,pd=[v]:=by
     match pd,hl with
     |[v],_=>exact⟨v,rfl⟩
    subst hx;simp only[au];cases ho:sg.own with
    |nil=>
     rw[ho,Jx]at lU;refine⟨?_,rfl,by simp[Gh.dt]⟩;generalize outs.take sg.jd=l at*;cases lU with
     |cons hr _=>exact .no hr
    |cons i r=>
     have h0:sg.own[0]?=some i:=by{rw[ho];rfl};obtain⟨v',y,e1,e2,e3,e4,e5⟩:=rv 0 i h0;cases Sj:Nat.blt i 1000 with
     |true=>have Fh:=e1;unfold qp at Fh;rw[Sj,au]at Fh;have hi:i=0:=by{have:=(aH.1 Fh).1;simp at this;exact this};subst hi;cases Fh;dsimp only;simp only[Sj,au];exact⟨⟨by rw[t1 0 0 h0];rfl,e5.one⟩,rfl,λk hk=>⟨0,0,by rw[<-ho];exact h0,by simpa[Gh.dt]using hk⟩⟩
     |false=>
      have Fh:=e1;unfold qp at Fh;rw[Sj,aj]at Fh;simp only[List.getElem?_cons_zero]at Fh;have TQ:mN (i::r)=false:=by{unfold mN;rw[List.all_cons,Sj];rfl};rw[ho]at lU;dsimp only;simp only[Sj,aj];unfold uU at lU⊢;rw[TQ]at lU⊢;simp only[aj]at lU⊢;unfold sf at e3;rw[Sj,aj]at e3;generalize outs.take sg.jd=l at*;match l,e3,lU with
      |.ag Bl::l',_,lU=>
       simp only[bc,Vj]at lU⊢;cases lU with
       |cons hr ht=>
        cases hr with
        |sc e=>cases e
        |@ag _ ys hL=>have yp:ys[i -1000]?=some (qH (own 0)):=by{rw[t1 0 i h0,e2];exact Fh};exact⟨⟨_,_,rfl,rfl,hL,λp hp=>by simp at hp;subst hp;exact yp⟩,rfl,λk hk=>⟨0,i,by rw[<-ho];exact h0,by simpa[Gh.dt]using hk⟩⟩
   |false=>
    have hb:sg.jd≠1:=λe=>by{rw[e]at hb;cases hb};have hx:=wu.val;simp only[ao hb]at hx;subst hx;simp only[aj];cases ho:sg.own with
    |nil=>rw[ho]at lU;exact⟨.no (.tu lU),rfl,by simp[Gh.dt]⟩
    |cons i r=>
     simp only[List.isEmpty_cons,aj];rw[<-ho];have key:∀p∈(sg.own.mapIdx λj i=>(i,own j)),∃q,sg.own[q]?=some p.1/\p.2=own q:=λp hp=>by{obtain⟨q,hq⟩:=List.mem_iff_getElem?.1 hp;rw[List.getElem?_mapIdx,aW]at hq;obtain⟨i,h1,rfl⟩:=hq;exact⟨q,h1,rfl⟩};refine⟨⟨pd,_,rfl,rfl,lU,λp hp=>?_⟩,rfl,λk hk=>?_⟩
     ·obtain⟨q,k1,k2⟩:=key p hp;obtain⟨v',y,e1,e2,e3,e4,e5⟩:=rv q p.1 k1;have TQ:mN sg.own=true:=by
       unfold okO at Xa;cases hs:mN sg.own with
       |true=>rfl
       |false=>rw[hs,Bool.false_or,af]at Xa;exact(hb (aB Xa.1)).elim
      have Fh:=e1;unfold qp at Fh;rw[aC.1 TQ p.1 (aO k1),au]at Fh;rw[k2,t1 q p.1 k1,e2,Fh]
     {obtain⟨p,hp,rfl⟩:=bn.1 hk;obtain⟨q,k1,k2⟩:=key p hp;exact⟨q,p.1,k1,k2⟩}
  refine CV.Tr hl zS.1 zS.2.1 λk hk=>?_;obtain⟨q,i,nL,rfl⟩:=zS.2.2 k hk;obtain⟨v,y,e1,e2,e3,e4,e5⟩:=rv q i nL;exact⟨(nw q i nL).2.2,by rw[s2 q i y nL e3];simp⟩
end
theorem IV{P:Program}{w:World}{nm:String}{b:Nat}(hb:Fl.num b=true):(Extern.MathFloor.toIntegral nm .zero #[.float .f64 b]).run P w=.ok (.float .f64 (Fl.nn b)) w:=by
 unfold Fl.num at hb;have e:Extern.MathFloor.toIntegral nm .zero #[.float .f64 b]=(match FloatKind.f64.decode b with
  |.nan s t=>
   if FloatKind.f64.format.quiet t=t then pure (.float .f64 b)else do
   let kept<-choose (.extern "math.Floor,Ceil,Trunc,RoundToEven.signallingNaN kept" 2);pure (.float .f64 (if kept==1 then b else FloatKind.f64.encode (.nan s (FloatKind.f64.format.quiet t))))
  |d=>pure (.float .f64 (FloatKind.f64.encode (d.integral .zero)))):=rfl
 rw[e];unfold Fl.nn;cases hd:FloatKind.f64.decode b with
 |nan s t=>rw[hd]at hb;cases hb
 |number s m e=>rfl
 |infinity s=>rfl
theorem KP{fn:Func}{nm:String}{f:Array Value->Sem Value}(h:fn.name=nm)(e1:Extern.allGenericRows.lookup nm=none)(e2:Extern.allTypedRows.lookup nm=none)(e3:Extern.allRows.lookup nm=some f):Extern.find fn=some f:=by unfold Extern.find;simp only[h,e1,e2,e3];rfl
theorem KN{fn:Func}{nm:String}(h:fn.name=nm)(h2:fn.origin= "" \/fn.origin=nm)(e1:Extern.allNextRows.lookup nm=none):Extern.findNext fn=none:=by have e2:(Extern.allNextRows.lookup "")=none:=by{kernel_rfl};unfold Extern.findNext;rcases h2 with h2|h2<;>simp only[h,h2,e1,e2]<;>rfl
theorem DB(l:bD):Lib.bytesOf (l.map λx=>(x.toNat:Int))=l:=by unfold Lib.bytesOf;rw[bA];(conv=>rhs;rw[<-List.map_id l]);exact List.map_congr_left λx _=>by simp
theorem B7{P:Program}{w:World}{R:Reach}{l:bD}{v:Value}{c:UInt8}(h:Rep R w (.sl .bs l) v):(Extern.BytealgIndexByte.indexByte #[v,.int .u8 c.toNat]).run P w=.ok (.int .i64 (Lib.indexByte l c)) w:=by
 have hs:=Lib.run_indexByteString (P:=P) .empty (c.toNat:Int) w;cases h with
 |sc h=>cases h
 |sn=>exact hs
 |em=>exact hs
 |@sl _ _ b off n cap hn _ _ hE=>
  have e:=Lib.run_indexByteSlice (P:=P) w b off n cap (l.map λx=>(x.toNat:Int)) (by simp[hn]) (λi hi=>by
   have hi:i<l.length:=by{omega};have hg:=hE.get i (.u8 l[i]) (by rw[br,aw hi];rfl);rw[show fF.size .bs=1 from rfl,Nat.mul_one]at hg;cases hg with
   |one _ _ hc _ hr=>rw[hc,hr.dN rfl,ai,br,aw hi];rfl) (c.toNat:Int)
  rw[e,DB];simp
section
variable{C:Ctx}{S V:St}{a:Act}{w:World}{R:Reach}{τ:Nat->Value}{o:Oper}
theorem yE{f:Nat}{nm:String}{args:Array Operand}{ts:Array TypeId}{g:Array Value->Sem Value}{vs:Array Value}{v:Value}(ho:o.op=.call {callee:=.value (.func f),args:=args,argTypes:=ts})(hv:args.map a.eval=vs)(hf:rD C.P f nm=true)(hg:(nm== "runtime.NumGoroutine")=false)(e1:Extern.allGenericRows.lookup nm=none)(e2:Extern.allTypedRows.lookup nm=none)(e3:Extern.allRows.lookup nm=some g)(e4:Extern.allNextRows.lookup nm=none)(hr:(g vs).run C.P w=.ok v w):(execOp a.eval o).run C.P w=.ok (.value v) w:=by
 unfold rD at hf;cases hfn:C.P.funcs[f]? with
 |none=>simp[hfn]at hf
 |some fn=>simp only[hfn,Option.any_some,af,beq_iff_eq,Bool.or_eq_true]at hf;obtain⟨⟨hn,hb⟩,hor⟩:=hf;have yr:=run_callFunc_extern (P:=C.P) hfn (by rw[hn];simpa using hg) hb (KN hn hor e4) (KP hn e1 e2 e3) vs w;rw[hr]at yr;have he:a.eval (.func f)=.func (.func f) #[] #[]:=rfl;simp only[execOp,ho,resolve,Deferred.ofValue,he,invoke];simpa[hv,resolve,Deferred.ofValue,invoke]using yr
theorem fx.any(h:fD C S a w R τ)(hd:o.dst=none\/∃d,o.dst=some d/\d<C.nt){v:Value}{x:TV}(hr:(execOp a.eval o).run C.P w=.ok (.value v) w)(hs:Rep R w x v):fx C o a w (jJ S o.dst ⟨none,(x,.no),[]⟩):=by rcases hd with hd|⟨d,hd,hl⟩;{intro K Q hK;unfold Oper.wp;rw[hr,Oper.upon_value,hd];rw[hd]at hK;exact hK _ _ ⟨R,τ,h⟩};{rw[hd];exact h.iL hd hl hr hs}
theorem go_xtn(h:fD C S a w R τ)(hV:Lt V S)(hd:o.dst=none\/∃d,o.dst=some d/\d<C.nt){f:Nat}{args:Array Operand}{ts:Array TypeId}{e:iu}(hp:∀p,e.p=some p->p=true)(ho:o.op=.call {callee:=.value (.func f),args:=args,argTypes:=ts})(he:Rd C.P f (sj C.E C.nt V ts.toList args.toList)=some e):fx C o a w (jJ S o.dst e):=by
 cases yo:sj C.E C.nt V ts.toList args.toList with
 |none=>rw[yo]at he;cases he
 |some cs=>
  obtain⟨kH,_,_⟩:=tI h hV yo;have ea:∀{vs:List Value},args.toList.map a.eval=vs->args.map a.eval=⟨vs⟩:=λhv=>by{apply Array.ext';simpa using hv};rw[yo]at he;unfold Rd at he;split at he
  ·rename_i b hb;cases hb;obtain⟨h1,h2⟩:=bK.1 he;cases h2;generalize hv:args.toList.map a.eval=vs at kH;cases kH with
   |cons a1 _ t=>cases t;obtain rfl:=(kU.rep a1).dN rfl;have:=yE ho (ea hv) h1 (by decide+kernel) (by kernel_rfl) (by kernel_rfl) (by kernel_rfl) (by kernel_rfl) (IV (P:=C.P) (w:=w) (nm:=IY) (hp _ rfl));exact fx.any h hd this (.sc rfl)
  ·rename_i l c hb;cases hb;obtain⟨h1,h2⟩:=bK.1 he;cases h2;generalize hv:args.toList.map a.eval=vs at kH;cases kH with
   |cons a1 _ t=>
    cases t with
    |cons a2 _ t=>cases t;obtain rfl:=(kU.rep a1).dN rfl;obtain rfl:=(kU.rep a2).dN rfl;have hr:(Extern.BytealgIndexByte.indexByte #[.string ⟨⟨l⟩⟩,.int .u8 c.toNat]).run C.P w=.ok (.int .i64 (Lib.indexByte l c)) w:=by{rw[Lib.run_indexByteString];simp};have:=yE ho (ea hv) h1 (by decide+kernel) (by kernel_rfl) (by kernel_rfl) (by kernel_rfl) (by kernel_rfl) hr;exact fx.any h hd this (.sc rfl)
  ·rename_i l c hb;cases hb;obtain⟨h1,h2⟩:=bK.1 he;cases h2;generalize hv:args.toList.map a.eval=vs at kH;cases kH with
   |cons a1 _ t=>
    cases t with
    |cons a2 _ t=>cases t;obtain rfl:=(kU.rep a2).dN rfl;have:=yE ho (ea hv) h1 (by decide+kernel) (by kernel_rfl) (by kernel_rfl) (by kernel_rfl) (by kernel_rfl) (B7 (kU.rep a1));exact fx.any h hd this (.sc rfl)
  {cases he}
end
theorem Ie{e:iu}{st:fF}{l:List st.El}{lo hi:Option Int}(he:Rv st l lo hi=some e)(hp:∀p,e.p=some p->p=true):eM (lo.getD 0) (hi.getD l.length) l.length=true/\e.x=(.sl st ((l.take (hi.getD l.length).toNat).drop (lo.getD 0).toNat),.no)/\e.ws=[]:=by unfold Rv at he;split at he<;>cases he;{simp_all};{simp_all};{simp_all};{simp[eM]}
theorem Ib{e:iu}{l:bD}{lo hi:Option Int}(he:Ru l lo hi=some e)(hp:∀p,e.p=some p->p=true):eM (lo.getD 0) (hi.getD l.length) l.length=true/\e.x=(.s ((l.take (hi.getD l.length).toNat).drop (lo.getD 0).toNat),.no)/\e.ws=[]:=by unfold Ru at he;split at he<;>cases he;{simp_all};{simp_all};{simp_all};{simp[eM]}
theorem Ft{l:List (Nat×Nat)}{m:Nat}(h:(l.all λt=>!Nat.beq t.2 m)=true)(t:Nat×Nat)(ht:t∈l):t.2≠m:=λe=>by have:=aC.1 h t ht;rw[e]at this;simp at this
theorem Bp{l:List (Nat×Cell)}{m:Nat}(h:(l.all λt=>!Nat.beq t.1 m)=true)(t:Nat×Cell)(ht:t∈l):t.1≠m:=λe=>by have:=aC.1 h t ht;rw[e]at this;simp at this
theorem C7{V:St}{c:Cell}{x:TV}{ws:List (Nat×Cell)}(h:Gp V c=some (x,ws))(p:Nat×Cell)(hp:p∈ws):p.1∈c.2.dt:=by unfold Gp at h;split at h;{split at h;{grind[List.mem_singleton,Gh.dt]};{simp_all};{grind};{cases h}};{simp_all};{cases h}
theorem sX{V:St}{o n:Nat}:∀{ts:List (Nat×Nat)}{cs ds:List TV}{ws:List (Nat×Cell)},pZ V o n ts cs=some (ds,ws)->∀p∈ws,p.1∈ts.map (·.2)
 |(c,k)::ts,cs,ds,ws,h,p,hp=>by
  simp only[pZ]at h;split at h
  ·rename_i Bl U7 h1;cases hb:(Nat.ble o c&&Nat.blt c (o+n))with
   |true=>rw[hb,au]at h;split at h;{rename_i h2;cases h;rcases List.mem_append.1 hp with hp|hp;{have:=C7 h2 p hp;simp[Gh.dt]at this;exact this▸List.mem_cons_self ..};{exact List.mem_cons_of_mem _ (sX h1 p hp)}};{cases h}
   |false=>rw[hb,aj]at h;cases h;exact List.mem_cons_of_mem _ (sX h1 p hp)
  {cases h}
theorem KH{V:St}{c:Cell}{x:TV}{ws:List (Nat×Cell)}(h:C8 V c=some (x,ws))(p:Nat×Cell)(hp:p∈ws):p.1∈c.2.dt:=by unfold C8 at h;split at h;{split at h;{rename_i hf;cases h;exact sX hf p hp};{cases h}};{grind[C7]}
theorem Hm{E:cH}{nt:Nat}{V V':St}{t:TypeId}{x:Operand}(h:∀i,i<nt->V' i=V i):gR E nt V' t x=gR E nt V t x:=by
 (cases x<;>try rfl);rename_i i;unfold gR;by_cases hi:i<nt;{simp_all}
 ·have:Nat.blt i nt=false:=by
   cases hb:Nat.blt i nt with
   |false=>rfl
   |true=>exact absurd (Nat.le_of_ble_eq_true hb) hi
  simp only[this,aj]
theorem Lt.fU{V S:St}(h:Lt V S):∀ws:List (Nat×Cell),Lt (fU V ws) (fU S ws)
 |[]=>h
 |(k,x)::ws=>λj=>by by_cases e:j=k;{subst e;simp only[Go.Eng.fU,cG];exact .inl trivial};{simp only[Go.Eng.fU,fq _ _ e];exact h.fU ws j}
section
variable{C:Ctx}{S V:St}{a:Act}{w:World}{R:Reach}{τ:Nat->Value}{o:Oper}{d:Nat}{own:Nat->Nat}{e:iu}(h:fD C S a w R τ)(hV:Lt V S)(hE:kB C.P C.E)(hp:∀p,e.p=some p->p=true)
include h hV hE hp
section
variable(hd:o.dst=some d)(hl:d<C.nt)
include hd hl
omit hE in
theorem Lh{s t:TypeId}{x:Operand}{c:Cell}{y:TV}(ho:o.op=.convert s t x)(hx:gR C.E C.nt V s x=some c)(hy:yV V c=some y)(he:Li C.P C.nt own V s t y=some e):fx C o a w (jJ S (some d) e):=by unfold Li at he;split at he;{rename_i hs ht;split at he<;>cases he;exact go_ci h hV hd hl ho hx hy (by assumption) hs ht};{rename_i hs ht;split at he<;>cases he;exact go_cf h hV hd hl ho hx hy (by rw[hs];rfl) ht};{rename_i hs ht;split at he<;>cases he;exact go_fc h hV hd hl ho hx hy (hp _ rfl) (by rw[hs];rfl) ht};{rename_i hs ht;split at he<;>cases he;exact go_cs h hV hd hl ho hx hy hs ht};{rename_i hs ht;split at he;{rename_i hu;obtain⟨h1,h2⟩:=bK.1 he;cases h2;exact go_sb h hd hl hV ho hx hy hs ht hu (hp _ rfl) (jl hV.q h1)};{cases he}};{rename_i hs ht;split at he<;>cases he;exact go_bs h hV hd hl ho hx hy hs (by assumption) ht};{cases he}
omit hE in
theorem Lf{s t:TypeId}{x:Operand}{c:Cell}(ho:o.op=.convert s t x)(hx:gR C.E C.nt V s x=some c)(he:Lg C.P V s t c=some e):fx C o a w (jJ S (some d) e):=by unfold Lg at he;split at he;{split at he;{rename_i hk hs;split at he;{rename_i hu;obtain⟨h1,h2⟩:=bK.1 he;cases h2;have:=aB h1;subst this;refine go_cc h hd hl hV ho hx hk hs hu λhn=>?_;have:=hp _ rfl;rw[hn]at this;cases this};{cases he}};{cases he}};{cases he}
theorem GM{t u:TypeId}{x y:Operand}{st st':fF}{sa:Nat}{c:Cell}{m:List st'.El}{du:TypeDesc}{news:List Value}(ho:o.op=.call {callee:=.builtin .append,args:=#[x,y],argTypes:=#[t,u]})(ht:C.E.ty t=some (st,sa))(hx:gR C.E C.nt V t x=some c)(hu:C.P.underlying u=some du)(A3:∀k,du≠.int k)(yk:Source C.P w st'.size (a.eval y) m.length news)(hL:dJ R w ((m.map st'.tv).flatMap TV.cells) news)(he:N0 C.E C.nt own V st sa c st' m=some e):fx C o a w (jJ S (some d) e):=by unfold N0 at he;split at he;{rename_i k;obtain⟨q1,_,q3⟩:=gV h hV hx;have hv:a.eval x=τ k:=q1.1;have Me:C.nt<=k:=(q3 k (by simp[Gh.dt])).1;split at he;{rename_i t' l hk;split at he;{obtain⟨h0,hq⟩:=bK.1 he;obtain rfl:=aq h0;unfold F7 at hq;split at hq;{rename_i n hn;obtain⟨h1,h2⟩:=bK.1 hq;cases h2;obtain⟨e1,rfl⟩:=fF.Bo hn;subst e1;exact go_lend h hV hd hl hE ho ht hv Me (hV.of hk) hu A3 yk hL (hp _ rfl) (jl hV.q h1)};{cases hq}};split at he;{rename_i n hn;obtain⟨h1,h2⟩:=bK.1 he;cases h2;simp at h1;obtain⟨rfl,h1⟩:=h1;obtain⟨e1,rfl⟩:=fF.Bo hn;subst e1;exact go_app h hV hd hl hE ho ht hx (hV.of hk) hu A3 yk hL (hp _ rfl) (jl hV.q h1) (.inl ⟨rfl,rfl,rfl⟩)};{cases he}};{rename_i t' l d0 hk;obtain⟨h0,hq⟩:=bK.1 he;obtain rfl:=aq h0;unfold F7 at hq;split at hq;{rename_i n hn;obtain⟨h1,h2⟩:=bK.1 hq;cases h2;obtain⟨e1,rfl⟩:=fF.Bo hn;subst e1;have hk:=hV.of hk;obtain⟨p1,_⟩:=h.core.par k d0 (by rw[hk]);obtain⟨n1,n2,n3⟩:=jl hV.q h1;have c1:own 0≠k:=by{grind};have c2:own 0≠d0:=by{grind};have hr:=h.recover hk;have:=go_lend hr (Lt.refl _) hd hl hE ho ht hv Me (by grind[fq,cG]) hu A3 yk hL (hp _ rfl) (k2:=own 0) ⟨by rw[fq _ _ c2,fq _ _ c1];exact n1,n2,n3⟩;have e2:cR (cR (cR (cR S k (.sl st' l,.pv)) d0 (.dead,.zz)) k (.sl st' l,.pw (own 0))) (own 0) (.sl st' (l++m),.pc k)=cR (cR (cR S d0 (.dead,.zz)) k (.sl st' l,.pw (own 0))) (own 0) (.sl st' (l++m),.pc k):=by{funext j;by_cases j1:j=own 0;{simp_all[cG]};{grind[fq,cG]}};rw[e2]at this;exact this};{cases hq}};{rename_i t' l hk;split at he;{rename_i n hn;obtain⟨h1,h2⟩:=bK.1 he;cases h2;simp at h1;obtain⟨rfl,h1⟩:=h1;obtain⟨e1,rfl⟩:=fF.Bo hn;subst e1;exact go_app h hV hd hl hE ho ht hx (hV.of hk) hu A3 yk hL (hp _ rfl) (jl hV.q h1) (.inr ⟨rfl,rfl,rfl⟩)};{cases he}};{cases he}};{rename_i t';obtain⟨h1,h2⟩:=bK.1 he;simp at h1;obtain⟨rfl,rfl⟩:=h1;obtain⟨h1,h2⟩:=bK.1 h2;cases h2;exact go_apn h hV hd hl hE ho ht hx hu A3 yk hL (hp _ rfl) (jl hV.q h1)};{cases he}
theorem DC{b:Builtin}{ts:Array TypeId}{args:Array Operand}(ho:o.op=.call {callee:=.builtin b,args:=args,argTypes:=ts})(he:yH C.P C.E C.nt own V b ts.toList args.toList=some e):fx C o a w (jJ S (some d) e):=by obtain⟨ts⟩:=ts;obtain⟨args⟩:=args;simp only at he;unfold yH at he;split at he;{split at he<;>cases he;{exact go_len h hV hd hl ho (by assumption) (by assumption)};{exact go_lens h hV hd hl ho (by assumption) (by assumption)}};{split at he;{rename_i hm;obtain⟨news,h1,h2⟩:=Source.of (P:=C.P) (xF h hV hm);exact GM h hV hE hp hd hl ho (by assumption) (by assumption) (by assumption) (by simp) h1 h2 he};{rename_i hm;obtain⟨h1,h2⟩:=Source.PZ (P:=C.P) (w:=w) (R:=R) _;have e1:=Jr h hV hm;rw[<-e1]at h1;exact GM h hV hE hp hd hl (st':=.bs) ho (by assumption) (by assumption) (by assumption) (by simp) h1 h2 he};{cases he}};{split at he;{obtain⟨h1,h2⟩:=bK.1 he;cases h2;have h1:=aq h1;subst h1;exact go_minmax h hV hd hl (mx:=false) ho (by assumption) (by assumption)};{cases he}};{split at he;{obtain⟨h1,h2⟩:=bK.1 he;cases h2;have h1:=aq h1;subst h1;exact go_minmax h hV hd hl (mx:=true) ho (by assumption) (by assumption)};{cases he}};{split at he<;>cases he;exact go_real h hV hd hl (im:=false) ho (by assumption)};{split at he<;>cases he;exact go_real h hV hd hl (im:=true) ho (by assumption)};{split at he<;>cases he;exact go_cx h hV hd hl ho (by assumption) (by assumption)};{cases he}
theorem Qf{t:TypeId}{x i:Operand}{c:Cell}{n:Int}(ho:o.op=.indexAddr t x i)(hx:gR C.E C.nt V t x=some c)(hi:sW C.E C.nt V i=some n)(he:WJ C.P C.E V t c n=some e):fx C o a w (jJ S (some d) e):=by have fo:∀{k:Nat},c=(.pt,.fo k)->a.eval x=τ k:=by{rintro k rfl;exact(gV h hV hx).1.1};unfold WJ at he;split at he;{rename_i k _;split at he;{rename_i hk;obtain⟨h1,h2⟩:=bK.1 he;cases h2;exact go_pix h hV hd hl hE ho h1 hx (hV.of hk) hi (hp _ rfl)};{rename_i hk;obtain⟨h1,h2⟩:=bK.1 he;cases h2;have hK:=h.core.key k;rw[hV.of hk]at hK;exact go_ix h hV hd hl hE ho h1 (by rw[fo rfl];exact(fX.rep hK).1) hi (hp _ rfl)};{rename_i hk;obtain⟨h1,h2⟩:=bK.1 he;cases h2;have hK:=h.core.key k;rw[hV.of hk]at hK;exact go_ix h hV hd hl hE ho h1 (by rw[fo rfl];exact hK) hi (hp _ rfl)};{cases he}};{obtain⟨h1,h2⟩:=bK.1 he;cases h2;exact go_ix h hV hd hl hE ho h1 (fu h hV hx) hi (hp _ rfl)};{split at he;{rename_i hk;rw[aV]at he;obtain⟨inf,h1,h2⟩:=he;cases h2;exact go_la h hV hd hl ho (by assumption) h1 hx (hV.of hk) hi (hp _ rfl)};{cases he}};{cases he}
theorem NK{t:TypeId}{x:Operand}{lo hi:Option Operand}{p q:Option Int}{c:Cell}(ho:o.op=.slice t x lo hi none)(hx:gR C.E C.nt V t x=some c)(h1:px C.E C.nt V lo=some p)(h2:px C.E C.nt V hi=some q)(he:Lc C.E V t c p q=some e):fx C o a w (jJ S (some d) e):=by unfold Lc at he;split at he;{rename_i hf;obtain⟨k1,k2⟩:=bK.1 he;rw[aW]at k2;obtain⟨e',k2,rfl⟩:=k2;obtain⟨c1,c2,c3⟩:=Ie (e:=e') k2 hp;unfold jJ;simp only[c2];exact go_sc h hV hd hl hE ho k1 hx hf h1 h2 c1};{cases he}
omit hE in
theorem JV{t:TypeId}{x:Operand}{c:Cell}(ho:o.op=.load t x)(hx:gR C.E C.nt V 0 x=some c)(he:JW C.P C.E own V t c=some e):fx C o a w (jJ S (some d) e):=by unfold JW at he;split at he;{rename_i n agg hs;obtain⟨h1,E0⟩:=bK.1 he;clear he;have he:=E0;clear E0;have h1:agg=true\/n=1:=by{rcases Bool.or_eq_true _ _▸h1 with h|h;{exact .inl h};{exact .inr (aB h)}};split at he;{split at he;{rename_i hm;split at he;{rename_i hf;cases he;have:n=1:=by{simpa using h1};subst this;exact go_ldt h hV hd hl ho hs hx (hV.of hm) (by assumption)};{split at he;{obtain⟨k1,k2⟩:=bK.1 he;cases k2;simp only[af]at k1;obtain⟨⟨rfl,k1⟩,k2⟩:=k1;have k1:=aB k1;have k2:=aB k2;subst k1 k2;exact go_ldo h hV hd hl ho hs hx (hV.of hm)};{split at he;{split at he<;>cases he;exact go_ld h hV hd hl ho hs h1 hx (hV.of hm) (by assumption) (by assumption)};{cases he}}}};{cases he}};{rename_i k;split at he;{rename_i st l g hk;split at he;{rename_i hpt;obtain⟨k1,k2⟩:=bK.1 he;cases k2;simp only[af,Bool.or_eq_true,aD]at k1;obtain⟨k1,k2⟩:=k1;have gr:=aq (hp _ rfl);have hK:=h.core.key k;rw[hV.of hk (by rcases k1 with rfl|rfl<;>simp)]at hK;obtain⟨p,hK⟩:∃p,fX R w p (τ k) (.sl st l):=by{rcases k1 with rfl|rfl<;>exact⟨_,hK⟩};exact go_pld h hV hd hl ho hs h1 hx hK (aB k2) gr hpt};{cases he}};{rename_i cs hk;split at he;{obtain⟨k1,k2⟩:=bK.1 he;cases k2;simp only[af,Bool.not_eq_true']at k1;obtain⟨⟨⟨k1,k2⟩,k3⟩,rfl⟩:=k1;have k1:=aB k1;have k2:=aB k2;have k3:=aB k3;subst k1 k2 k3;exact go_pla h hV hd hl ho hs hx (hV.of hk) (aq (hp _ rfl)) (by assumption)};{cases he}};{cases he}};{obtain⟨k1,k2⟩:=bK.1 he;cases k2;simp only[af,beq_iff_eq]at k1;exact go_lr h hV hd hl ho hs h1 hx k1.1.2 (aB k1.2)};{cases he}};{cases he}
end
omit hE in
theorem G1(hd:o.dst=none){t:TypeId}{x y:Operand}{c v:Cell}(ho:o.op=.store t x y)(hx:gR C.E C.nt V 0 x=some c)(hy:gR C.E C.nt V t y=some v)(he:Ek C.P V t c v=some e):fx C o a w (jJ S none e):=by unfold Ek at he;split at he;{rename_i n agg hs;obtain⟨inf,hi,rfl,_⟩:=gS hs;split at he;{split at he;{rename_i cs ts hm;split at he;{rename_i k;obtain⟨k1,k2⟩:=bK.1 he;cases k2;simp only[af,Bool.not_eq_true']at k1;have hn:=aB k1.1.1;have HP:=hV.of hm;rw[hn];exact go_stt h hV hd ho hi hn hx HP hy (Nat.le_of_ble_eq_true k1.1.2) (Nat.ne_of_beq_eq_false k1.2.1) (Ft k1.2.2)};{obtain⟨k1,k2⟩:=bK.1 he;cases k2;simp only[af]at k1;obtain⟨⟨⟨k1,k2⟩,k3⟩,k4⟩:=k1;have k1:=aB k1;subst k1;exact go_sto h hV hd ho hi hx (hV.of hm) hy (aB k2) (aB k3) (Ft k4)};{obtain⟨k1,k2⟩:=bK.1 he;cases k2;simp only[af]at k1;have HP:=hV.of hm;have hr:=fu h hV hy;have hn:=aB k1.1.1.2;refine go_st' h hV hd ho hi hx HP (ot hr k1.1.1.1) hn (Nat.le_of_ble_eq_true k1.1.2) λu hu=>?_;obtain⟨h1,h2⟩:=zt hu;exact⟨Ft k1.2 u h1,.inl ⟨h1,h2⟩⟩};{cases he}};{cases he}};{rename_i i s q k;split at he;{rename_i y' ws hf;obtain⟨R',h',e1,_⟩:=h.fr hV hy hf;have VD:∀p∈ws,C.nt<=p.1:=λp hp=>((gV h hV hy).2.2 _ (KH hf p hp)).1;have VK:Lt (fU V ws) (fU S ws):=hV.fU ws;have A0:gR C.E C.nt (fU V ws) 0 x=some (.el i s q,.pe k):=by{rw[<-hx];exact Hm λi hi=>iU λp hp e=>by have:=VD p hp;omega};split at he;{rename_i st l hk;split at he;{split at he;{obtain⟨k1,k2⟩:=bK.1 he;cases k2;simp only[af]at k1;exact go_pst h' VK hd ho hi A0 (by rw[iU (Bp k1.2)];exact hV.of hk) e1 k1.1.1.1 (aB k1.1.2) (aB k1.1.1.2) (aq (hp _ rfl)) (by assumption) (by assumption)};{cases he}};{cases he}};{rename_i cs hk;split at he;{obtain⟨k1,k2⟩:=bK.1 he;cases k2;simp only[af]at k1;have k2:=aB k1.1.1.1;have k3:=aB k1.1.1.2;subst k2 k3;exact go_ls h' VK hd ho hi (aB k1.1.2) A0 (by rw[iU (Bp k1.2)];exact hV.of hk) (aq (hp _ rfl)) e1 (by assumption)};{cases he}};{cases he}};{cases he}};{cases he}};{cases he}
theorem BV(hF:∀f,gf C.P C.gl f (C.E.fs f))(A2:0<C.nt->∀j j',own j=own j'->j=j')(oU:yx C.nt o=true)(he:BW C.P C.E C.nt own V o.type o.op=some e):fx C o a w (jJ S o.dst e):=by
 have qb:(∀t x y,o.op≠.store t x y)->(∀x args ts,o.op≠.call {callee:=.value x,args:=args,argTypes:=ts})->∃d,o.dst=some d/\d<C.nt:=λh1 h2=>by{unfold yx at oU;split at oU;{exact(h1 _ _ _ (by assumption)).elim};{cases oU};{exact(h2 _ _ _ (by assumption)).elim};{exact⟨_,by assumption,Nat.le_of_ble_eq_true oU⟩};{cases oU}};have Rq:∀{x:Operand}{args:Array Operand}{ts:Array TypeId},o.op=.call {callee:=.value x,args:=args,argTypes:=ts}->o.dst=none\/∃d,o.dst=some d/\d<C.nt:=λ{x args ts}h1=>by
  cases hd:o.dst with
  |none=>exact .inl rfl
  |some d=>right;unfold yx at oU;rw[h1,hd]at oU;exact⟨d,rfl,Nat.le_of_ble_eq_true oU⟩
 have call:∀{f:Nat}{x:Operand}{args:Array Operand}{ts:Array TypeId},o.op=.call {callee:=.value x,args:=args,argTypes:=ts}->a.eval x=.func (.func f) #[] #[]->GG C.E C.nt own V f ts.toList args.toList=some e->fx C o a w (jJ S o.dst e):=λ{f x args ts}ho hx he=>by{unfold GG at he;split at he;{rename_i cs yo;split at he;{rename_i xs ws OI;split at he;{rename_i outs hc;exact go_call h hV (Rq ho) (c:=(C.E.fs f).1) (sg:=(C.E.fs f).2) (hF f) ho hx yo OI (by rw[hc];rfl) A2 he};{rename_i p outs hc;have DY:p=true:=by{have E0:=he;unfold DA at E0;obtain⟨_,E0⟩:=bK.1 E0;split at E0;{obtain⟨_,E0⟩:=bK.1 E0;cases E0;exact hp _ rfl};{cases E0}};exact go_call h hV (Rq ho) (c:=(C.E.fs f).1) (sg:=(C.E.fs f).2) (hF f) ho hx yo OI (by rw[hc];exact⟨DY,rfl⟩) A2 he};{cases he}};{cases he}};{cases he}};generalize kh:o.op=op at he;unfold BW at he;split at he;{obtain⟨d,hd,hl⟩:=qb (by simp[kh]) (by simp[kh]);rw[aW]at he;obtain⟨c,h1,rfl⟩:=he;rw[hd];exact go_move h hV hd hl (.inl kh) h1};{obtain⟨d,hd,hl⟩:=qb (by simp[kh]) (by simp[kh]);rw[aW]at he;obtain⟨c,h1,rfl⟩:=he;rw[hd];exact go_move h hV hd hl (.inr kh) h1};{obtain⟨d,hd,hl⟩:=qb (by simp[kh]) (by simp[kh]);split at he;{obtain⟨z,h1,h2,h3⟩:=qK.Fg he hp;rw[uf hd h2 h3];exact go_pick h hV hd hl kh (by assumption) (by assumption) (by assumption) h1};{cases he}};{obtain⟨d,hd,hl⟩:=qb (by simp[kh]) (by simp[kh]);split at he;{split at he;{split at he;{cases he;rw[hd];exact go_nl h hV hd hl kh (by assumption) (by assumption) (by assumption) (by assumption)};{cases he}};{split at he<;>cases he<;>rw[hd];{exact go_be h hV hd hl (neg:=false) kh rfl (by assumption) (by assumption) (by assumption)};{exact go_be h hV hd hl (neg:=true) kh rfl (by assumption) (by assumption) (by assumption)}};{split at he;{obtain⟨r,hr,he⟩:=aV.1 he;cases he;rw[hd];exact go_es h hV hd hl false kh rfl (by assumption) (by assumption) (by assumption) hr};{obtain⟨r,hr,he⟩:=aV.1 he;cases he;rw[hd];exact go_es h hV hd hl true kh rfl (by assumption) (by assumption) (by assumption) hr};{cases he}};{split at he;{obtain⟨z,h1,h2,h3⟩:=qK.Fg he hp;rw[uf hd h2 h3];exact go_bin h hV hd hl kh (by assumption) (by assumption) h1};{cases he}}};{cases he}};{obtain⟨d,hd,hl⟩:=qb (by simp[kh]) (by simp[kh]);split at he;{obtain⟨z,h1,h2,h3⟩:=qK.Fg he hp;rw[uf hd h2 h3];exact go_un h hV hd hl kh (by assumption) h1};{cases he}};{obtain⟨d,hd,hl⟩:=qb (by simp[kh]) (by simp[kh]);split at he;{split at he;{cases he;rw[hd];exact Lf h hV hp hd hl kh (by assumption) (by assumption)};{split at he;{rw[hd];exact Lh h hV hp hd hl kh (by assumption) (by assumption) he};{cases he}}};{cases he}};{obtain⟨d,hd,hl⟩:=qb (by simp[kh]) (by simp[kh]);rw[hd];exact DC h hV hE hp hd hl kh he}
 ·rename_i f _ _;cases hb:Gl C.P f with
  |true=>rw[hb]at he;exact call kh rfl he
  |false=>rw[hb]at he;exact go_xtn h hV (Rq kh) hp kh he
 {split at he;{rename_i hx;exact call kh ((fu h hV hx).dN rfl) he};{cases he}};{obtain⟨d,hd,hl⟩:=qb (by simp[kh]) (by simp[kh]);split at he;{rw[hd];exact Qf h hV hE hp hd hl kh (by assumption) (by assumption) he};{cases he}};{obtain⟨d,hd,hl⟩:=qb (by simp[kh]) (by simp[kh]);split at he;{split at he;{cases he;rw[hd];exact go_si h hV hd hl kh (by assumption) (by assumption) (hp _ rfl) (by assumption)};{cases he}};{rename_i hi;split at he;{split at he;{rename_i hs;split at he;{rename_i hx;obtain⟨k1,k2⟩:=bK.1 he;cases k2;rw[hd];have hn:=hp _ rfl;have CY:=hn;simp only[bF,af,aD]at CY;have hm:=aB k1;exact go_ai h hV hd hl kh (by assumption) hi (by assumption) hs (.inr rfl) hn (by rw[Nat.mul_one];exact Bn hx (by omega))};{cases he}};{rename_i hs;split at he;{rename_i hx;obtain⟨k1,k2⟩:=bK.1 he;cases k2;rw[hd];have hn:=hp _ rfl;have CY:=hn;simp only[bF,af,aD]at CY;have hm:=aB k1;refine go_ai h hV hd hl kh (by assumption) hi (by assumption) hs (.inl rfl) hn ?_;have hx:=Du hm (by omega) _ (Nat.le_refl _) hx;rw[Nat.sub_self,Nat.add_zero]at hx;have hb:∀{x y:Nat},x<=y->Nat.ble x y=true:=Nat.ble_eq_true_of_le;simp only[ph];rw[hb (by rw[<-hm,<-Nat.succ_mul];exact ay _ (by omega)),au,hx]};{cases he}};{cases he}};{cases he}};{cases he}};{obtain⟨d,hd,hl⟩:=qb (by simp[kh]) (by simp[kh]);split at he;{split at he;{rename_i agg hs;split at he;{obtain⟨k1,k2⟩:=bK.1 he;cases k2;rw[hd];refine go_fe h hV hd hl kh (by assumption) (by assumption) hs (by assumption) ?_;rcases Bool.or_eq_true _ _▸k1 with h|h;{exact .inl h};{exact .inr (aB h)}};{cases he}};{cases he}};{cases he}};{obtain⟨d,hd,hl⟩:=qb (by simp[kh]) (by simp[kh]);split at he;{split at he;{rename_i hs;obtain⟨k1,k2⟩:=bK.1 he;clear he;have k1:=Nat.le_of_ble_eq_true k1;rw[hd];split at k2;{cases k2;exact go_fa h hV hd hl kh (by assumption) hs k1 (by assumption)};{cases k2;exact go_pfa h hV hd hl kh (by assumption) hs k1 (by assumption)};{split at k2<;>cases k2;exact go_fr h hV hd hl kh (by assumption) hs k1 (by assumption) (by assumption)};{cases k2}};{cases he}};{cases he}};{obtain⟨d,hd,hl⟩:=qb (by simp[kh]) (by simp[kh]);split at he<;>cases he<;>rw[hd];{exact go_nc h hV hd hl kh (by assumption)};{exact go_ncr h hV hd hl kh (by assumption)}};{obtain⟨d,hd,hl⟩:=qb (by simp[kh]) (by simp[kh]);split at he;{rw[aV]at he;obtain⟨y,h1,h2⟩:=he;cases h2;rw[hd];exact go_ex h hV hd hl (l:=[]) kh (.inl (by assumption)) h1};{split at he;{rename_i k _;split at he;{rename_i hk;cases he;rw[hd];have hK:=h.core.key k;rw[hV.of hk]at hK;exact go_ext h hV hd hl kh (by assumption) (by assumption) (fX.one hK)};{cases he}};{rw[aV]at he;obtain⟨y,h1,h2⟩:=he;cases h2;rw[hd];exact go_ex h hV hd hl kh (.inr (by assumption)) h1}};{cases he}};{obtain⟨d,hd,hl⟩:=qb (by simp[kh]) (by simp[kh]);split at he;{rw[hd];exact JV h hV hp hd hl kh (by assumption) he};{cases he}}
 ·have hd:o.dst=none:=by
   unfold yx at oU;rw[kh]at oU;cases hd:o.dst with
   |none=>rfl
   |some d=>rw[hd]at oU;cases oU
  split at he;{rw[hd];exact G1 h hV hp hd kh (by assumption) (by assumption) he};{cases he}
 {obtain⟨d,hd,hl⟩:=qb (by simp[kh]) (by simp[kh]);split at he;{obtain⟨c1,c2,c3⟩:=Ib he hp;rw[uf hd c2 c3];exact go_ss h hV hd hl kh (by assumption) (by assumption) (by assumption) (by assumption) c1};{rename_i c lo hi ht hx h1 h2;have cx:Lc C.E V _ c lo hi=some e->fx C o a w (jJ S o.dst e):=λhe=>by{rw[hd];exact NK h hV hE hp hd hl kh hx h1 h2 he};split at he;{rename_i k n;split at he;{rename_i hk;obtain⟨k1,k2⟩:=bK.1 he;cases k2;simp only[af]at k1;rw[hd];obtain⟨rfl,_⟩:_=none/\True:=by{rcases yf h hV h1 with⟨e1,_⟩|⟨_,_,_,_,e1,_⟩;{exact⟨e1,trivial⟩};{cases e1}};obtain⟨y,rfl⟩:∃y,_=some y:=by{rcases yf h hV h2 with⟨_,e1⟩|⟨y,_,_,e1,_⟩;{cases e1};{exact⟨y,e1⟩}};exact go_psl h hV hd hl hE kh k1.1 hx (hV.of hk) h2 (hp _ rfl) (jl hV.q k1.2)};{exact cx he}};{exact cx he}};{cases he}};{obtain⟨d,hd,hl⟩:=qb (by simp[kh]) (by simp[kh]);split at he;{split at he;{split at he;{split at he;{obtain⟨k1,k2⟩:=bK.1 he;simp only[af,aD]at k1;obtain⟨k4,k3⟩:=bK.1 k2;cases k3;rw[hd];exact go_bl h hV hd hl hE kh (by assumption) (by assumption) (by assumption) (by assumption) (aB k1.1.1) (Nat.le_of_ble_eq_true k1.1.2) k1.2 k4};{cases he}};{cases he}};{cases he}};{cases he}};{obtain⟨d,hd,hl⟩:=qb (by simp[kh]) (by simp[kh]);split at he;{split at he;{split at he;{split at he;{split at he;{obtain⟨k1,k2⟩:=bK.1 he;simp only[af,aC,Bool.not_eq_true']at k1;cases k2;rw[hd];exact go_bo h hV hd hl hE kh (by assumption) (by assumption) (by assumption) (by assumption) (by assumption) (by assumption) (by assumption) (aB k1.2.1) (λp hp e=>by have:=k1.2.2 p hp;rw[e,Nat.beq_refl]at this;cases this) (aC.2 k1.1)};{cases he}};{cases he}};{split at he;{split at he;{obtain⟨k1,k2⟩:=bK.1 he;cases k2;rw[hd];exact go_bd h hV hd hl hE kh (by assumption) (by assumption) (by assumption) (by assumption) (by assumption) k1};{cases he}};{cases he}}};{cases he}};{cases he}};{obtain⟨d,hd,hl⟩:=qb (by simp[kh]) (by simp[kh]);rw[aV]at he;obtain⟨z,h1,h2⟩:=he;obtain⟨k1,k2⟩:=bK.1 h2;cases k2;rw[hd];exact go_al h hd hl hE kh h1 (jl hV.q k1)};{obtain⟨d,hd,hl⟩:=qb (by simp[kh]) (by simp[kh]);split at he;{obtain⟨k1,k2⟩:=bK.1 he;cases k2;simp only[af]at k1;rw[hd];exact go_bx h hd hl hV kh (by assumption) k1.1 (jl hV.q k1.2)};{cases he}};{obtain⟨d,hd,hl⟩:=qb (by simp[kh]) (by simp[kh]);split at he;{obtain⟨k1,k2⟩:=bK.1 he;cases k2;rw[hd];exact go_mk h hd hl hE hV kh (by assumption) (by assumption) (by assumption) (hp _ rfl) (jl hV.q k1)};{cases he}};{cases he}
end
theorem vv{l:List TV}(h:wx l=none):∀x∈l,x.Ll=none:=by
 induction l with
 |nil=>simp
 |cons x l ih=>simp only[wx]at h;split at h;{rename_i h1;intro y hy;rcases aP.1 hy with rfl|hy;{exact h1};{exact ih h y hy}};{cases h};{cases h}
theorem Ai{l:List TV}(h:wx l=some true):∀x∈l,∀q,x.Ll=some q->q=true:=by
 induction l with
 |nil=>simp
 |cons x l ih=>simp only[wx]at h;split at h;{rename_i h1;intro y hy q hq;rcases aP.1 hy with rfl|hy;{rw[h1]at hq;cases hq};{exact ih h y hy q hq}};{rename_i p h1 h2;cases h;intro y hy q hq;rcases aP.1 hy with rfl|hy;{rw[h1]at hq;cases hq;rfl};{rw[vv h2 y hy]at hq;cases hq}};{rename_i p q' h1 h2;have h:=Option.some.inj h;rw[af]at h;obtain⟨rfl,rfl⟩:=h;intro y hy q hq;rcases aP.1 hy with rfl|hy;{rw[h1]at hq;cases hq;rfl};{exact ih h2 y hy q hq}}
section
variable{C:Ctx}{S V:St}{a:Act}{w:World}{R:Reach}{τ:Nat->Value}{o:Oper}{d:Nat}{e:iu}{K:Act->World->Prop}{Q:Exit->Act->World->Prop}
theorem FI{x:TV}{g:Gh}{v:Value}(hx:x.Ki=false):eY R w τ (.gd true x) g v↔eY R w τ x g v:=by cases x<;>first|(cases hx;done)|exact Iff.rfl
theorem Core.FH{nt:Nat}{dV:Nat->Prop}{S S':St}(h:Core nt R w dV τ S)(h1:∀k,nt<=k->S' k=S k)(h2:∀k,k<nt->(S' k).2=(S k).2)(h3:∀k,k<nt->eY R w τ (S k).1 (S k).2 (τ k)->eY R w τ (S' k).1 (S' k).2 (τ k)):Core nt R w dV τ S':=by have hg:∀k,(S' k).2=(S k).2:=λk=>by{rcases Nat.lt_or_ge k nt with hk|hk;{exact h2 k hk};{rw[h1 k hk]}};have hb:∀k,ij τ S' k=ij τ S k:=λk=>by{unfold ij;rw[hg]};refine⟨λk=>?_,λk k' g a b=>?_,λk g a=>?_,λj k hk=>?_,h.ux,λk hk=>by rw[hg];exact h.slt k hk,λk d hk=>?_⟩;{rcases Nat.lt_or_ge k nt with hk|hk;{have hs:=h.slt k hk;have hK:=h.key k;rw[kA.slot hs]at hK;rw[kA.slot (by rw[hg];exact hs)];exact h3 k hk hK};{rw[h1 k hk];exact h.key k}};{rw[hb]at a b;exact h.sep k k' g a b};{rw[hb]at a;exact h.dV k g a};{rw[hg]at hk;rw[hg];exact h.inv j k hk};{rw[hg]at hk;have Me:nt<=k:=by{rcases Nat.lt_or_ge k nt with Xn|Xn;{have:=h.slt k Xn;rw[hk]at this;cases this};{exact Xn}};have hdn:nt<=d:=(h.inv k d (by rw[hk];exact List.mem_singleton.2 rfl)).1;rw[h1 k Me,h1 d hdn];exact h.par k d hk}
theorem fD.FH{S':St}(h:fD C S a w R τ)(h1:∀k,C.nt<=k->S' k=S k)(h2:∀k,k<C.nt->(S' k).2=(S k).2)(h3:∀k,k<C.nt->eY R w τ (S k).1 (S k).2 (τ k)->eY R w τ (S' k).1 (S' k).2 (τ k)):fD C S' a w R τ:={h with core:=h.core.FH h1 h2 h3}
theorem wA(h:fD C S a w R τ){t:Nat}(ht:t<C.nt):eY R w τ (S t).1 (S t).2 (a.tmps.getD t undef):=by have:=h.core.key t;rw[kA.slot (h.core.slt t ht),<-h.tmps t ht]at this;exact this
theorem BF(h:fD C S a w R τ){ops:Array Oper}{j t:Nat}{x:Bool}(ht:t<C.nt)(hj:(ops[j]?).bind (·.dst)=some t)(hx:a.tmps.getD t undef=.bool x):yielded ops a.tmps j=some x:=by have hs:t<a.tmps.size:=by{rw[h.size];exact ht};have e2:a.tmps[t]?=some (.bool x):=by{rw[Array.getElem?_eq_getElem hs,<-hx];simp[Array.getD,hs]};simp[yielded,hj,e2]
theorem IC(h:fD C S a w R τ){ops:Array Oper}{j t:Nat}(ht:t<C.nt)(hj:(ops[j]?).bind (·.dst)=some t)(hx:a.tmps.getD t undef=undef):yielded ops a.tmps j=none:=by have hs:t<a.tmps.size:=by{rw[h.size];exact ht};have e2:a.tmps[t]?=some undef:=by{rw[Array.getElem?_eq_getElem hs,<-hx];simp[Array.getD,hs]};simp[yielded,hj,e2,undef]
theorem Cp{nt:Nat}{dst:Option Nat}(h:0<nt)(j j':Nat)(e:Cq nt dst j=Cq nt dst j'):j=j':=by unfold Cq at e;have:(j+1)*nt=(j'+1)*nt:=by{omega};have:=Nat.eq_of_mul_eq_mul_right h this;omega
theorem sd{nt:Nat}{ts:List Nat}{S:St}{k:Nat}(h:k<nt)(hk:k∈ts):lW nt ts S k=((S k).1.bare,(S k).2):=by have h1:Nat.blt k nt=true:=Nat.ble_eq_true_of_le h;have h2:ts.contains k=true:=by{simpa using hk};unfold lW;simp only[h1,h2,aX,au]
theorem qB{nt:Nat}{ts:List Nat}{S:St}{k:Nat}(h:nt<=k\/k∉ts):lW nt ts S k=S k:=by
 unfold lW;cases hb:(Nat.blt k nt&&ts.contains k)with
 |false=>rfl
 |true=>exfalso;simp only[af]at hb;have h1:k+1<=nt:=Nat.le_of_ble_eq_true hb.1;have h2:k∈ts:=by{simpa using hb.2};rcases h with h|h;{omega};{exact h h2}
theorem Lt.lW{nt:Nat}{ts:List Nat}(h:Lt V S):Lt (lW nt ts V) (lW nt ts S):=λk=>by by_cases hk:k<nt/\k∈ts;{rw[sd hk.1 hk.2,sd hk.1 hk.2];exact(h k).imp (λe=>by rw[e]) id};{have:nt<=k\/k∉ts:=by{by_cases h1:k<nt;{exact .inr λh2=>hk ⟨h1,h2⟩};{exact .inl (by omega)}};rw[qB this,qB this];exact h k}
theorem xG:∀{l:List (Nat×Cell)}{S S':St}{k:Nat},k∈l.map (·.1)->fU S l k=fU S' l k
 |(j,x)::l,S,S',k,h=>by simp only[fU];by_cases e:k=j;{subst e;rw[cG,cG]};{rw[fq _ _ e,fq _ _ e];rcases aP.1 h with h|h;{exact(e h).elim};{exact xG h}}
theorem zl(h:fD C S a w R τ)(hV:Lt V S)(hE:kB C.P C.E)(hF:∀f,gf C.P C.gl f (C.E.fs f)){d:Nat}{x':Cell}{e0:iu}(hd:o.dst=some d)(hl:d<C.nt)(oU:yx C.nt o=true)(O1:∀t∈watch o.op,∀q,(V t).1.Ll=some q->q=true)(Gj:(watch o.op).all (λt=>!(V t).1.bare.Ki)=true)(VI:BW C.P C.E C.nt (Cq C.nt o.dst) (lW C.nt (watch o.op) V) o.type o.op=some e0)(Ks:∀p,e0.p=some p->p=true)(Mb:∀p∈e0.ws,C.nt<=p.1)(zQ:x'.2=e0.x.2)(hx:∀(R:Reach)(w:World)(τ:Nat->Value)(v:Value),eY R w τ e0.x.1 e0.x.2 v->eY R w τ x'.1 x'.2 v)(hK:∀a' w',wX C (cR (fU S e0.ws) d x') a' w'->K a' w'):o.wp C.P a w K Q:=by
 let S':St:=λk=>if(V k).2=.hid then S k else lW C.nt (watch o.op) S k;have bk:∀k,S' k=S k\/(k<C.nt/\S' k=((S k).1.bare,(S k).2)/\(S k).1.bare.Ki=false/\∀q,(S k).1.Ll=some q->q=true):=λk=>by{show(if(V k).2=.hid then S k else lW C.nt (watch o.op) S k)=S k\/_;by_cases hh:(V k).2=.hid;{left;rw[ar hh]};by_cases hk:k<C.nt/\k∈watch o.op;{right;have e:=(hV k).resolve_right hh;have hn:=aC.1 Gj k hk.2;refine⟨hk.1,?_,?_,?_⟩;{show(if(V k).2=.hid then S k else lW C.nt (watch o.op) S k)=_;rw[ao hh,sd hk.1 hk.2]};{rw[<-e];simpa using hn};{rw[<-e];exact O1 k hk.2}};{left;rw[ao hh,qB];by_cases h1:k<C.nt;{exact .inr λh2=>hk ⟨h1,h2⟩};{exact .inl (by omega)}}};have conv:∀{R:Reach}{w:World}{τ:Nat->Value}k,k<C.nt->(S' k).2=(S k).2/\(eY R w τ (S k).1 (S k).2 (τ k)↔eY R w τ (S' k).1 (S' k).2 (τ k)):=λ{R w τ}k _=>by rcases bk k with e|⟨_,e,h1,h2⟩;{rw[e];exact⟨rfl,Iff.rfl⟩};{rw[e];refine⟨rfl,?_⟩;generalize S k=c at*;obtain⟨x,g⟩:=c;(cases x<;>first|exact Iff.rfl|skip);rename_i q x;have:=h2 q rfl;subst this;exact FI h1}
 have Sm:fD C S' a w R τ:=h.FH (λk hk=>by
  rcases bk k with e|⟨h1,_⟩;{exact e}
  ·omega) (λk hk=>(conv (R:=R) (w:=w) (τ:=τ) k hk).1) λk hk=>(conv k hk).2.1
 have VK:Lt (lW C.nt (watch o.op) V) S':=λk=>by{show _=(if(V k).2=.hid then S k else lW C.nt (watch o.op) S k)\/_;by_cases hh:(V k).2=.hid;{right;by_cases hk:k<C.nt/\k∈watch o.op;{rw[sd hk.1 hk.2];exact hh};{rw[qB];{exact hh};{by_cases h1:k<C.nt;{exact .inr λh2=>hk ⟨h1,h2⟩};{exact .inl (by omega)}}}};{rw[ao hh];exact hV.lW k}};have Mf:=BV Sm VK hE Ks hF (λhn=>Cp hn) oU VI;refine Mf K Q λa' w' CV=>hK _ _ ?_;obtain⟨R2,DV,CV⟩:=CV;rw[hd]at CV;simp only[jJ]at CV;have put:∀k,fU S e0.ws k=fU S' e0.ws k\/(k<C.nt/\fU S e0.ws k=S k/\fU S' e0.ws k=S' k):=λk=>by{by_cases hk:k<C.nt;{have hn:∀p∈e0.ws,p.1≠k:=λp hp e=>by{have:=Mb p hp;omega};exact .inr ⟨hk,iU hn,iU hn⟩};{left;by_cases hm:k∈e0.ws.map (·.1);{exact xG hm};{have hn:∀p∈e0.ws,p.1≠k:=λp hp e=>hm (bn.2 ⟨p,hp,e⟩);rw[iU hn,iU hn];rcases bk k with e|⟨h1,_⟩;{exact e.symm};{exact(hk h1).elim}}}};refine⟨R2,DV,CV.FH (λk hk=>?_) (λk hk=>?_) λk hk=>?_⟩;{have hk:C.nt<=k:=hk;have mU:k≠d:=Nat.ne_of_gt (Nat.lt_of_lt_of_le hl hk);rw[fq _ _ mU,fq _ _ mU];rcases put k with e|⟨h1,_⟩;{exact e};{omega}};{by_cases e:k=d;{subst e;rw[cG,cG];exact zQ};{rw[fq _ _ e,fq _ _ e];rcases put k with e|⟨h1,e1,e2⟩;{rw[e]};{rw[e1,e2];exact(conv (R:=R) (w:=w) (τ:=τ) k h1).1.symm}}};{by_cases e:k=d;{subst e;rw[cG,cG];exact hx _ _ _ _};{rw[fq _ _ e,fq _ _ e];rcases put k with e|⟨h1,e1,e2⟩;{rw[e];exact id};{rw[e1,e2];exact(conv k h1).2.2}}}
theorem step_ok(h:fD C S a w R τ)(hV:Lt V S)(hE:kB C.P C.E)(hF:∀f,gf C.P C.gl f (C.E.fs f)){ops:Array Oper}(hp:∀p,e.p=some p->p=true)(he:pL C.P C.E C.nt ops o V=some e)(hK:∀a' w',wX C (jJ S o.dst e) a' w'->K a' w'):if Region.wanted o (yielded ops a.tmps)then o.wp C.P a w K Q\/(o.asks C.P a w/\LetsOut Q)else K (a.put o.dst undef) w:=by
 unfold pL at he;obtain⟨oU,he⟩:=bK.1 he;split at he;{rename_i hg;simp only[Region.wanted,hg,if_true];exact .inl (BV h hV hE hp hF (λhn=>Cp hn) oU he K Q hK)}
 ·rename_i j b hg;split at he
  ·rename_i t hj;split at he
   ·rename_i x hVt;split at he
    ·rename_i c e0 hc VI;obtain⟨h1,Sg⟩:=bK.1 he;simp only[af]at h1;obtain⟨ht,hds,Gj⟩:=h1;have ht:t<C.nt:=Nat.le_of_ble_eq_true ht;obtain⟨d,hd⟩:=Option.isSome_iff_exists.1 hds;have hl:d<C.nt:=by{unfold yx at oU;split at oU;{rename_i Ix;rw[hd]at Ix;cases Ix};{cases oU};{rename_i Ix;rw[hd]at Ix;cases Ix};{rename_i Ix _;rw[hd]at Ix;cases Ix;exact Nat.le_of_ble_eq_true oU};{cases oU}};have Vw:=wA h ht;have hSt:S t=(x,.no):=hV.of hVt;rw[hSt]at Vw;have hw:Region.wanted o (yielded ops a.tmps)=c:=by
      unfold KB at hc;split at hc;{rename_i y;cases hc;have:=(kU.rep Vw).dN rfl;simp only[Region.wanted,hg,BF h ht hj this];cases b<;>cases y<;>rfl}
      ·rename_i q y;cases hc;cases q with
       |false=>simp only[Region.wanted,hg,IC h ht hj Vw];try(cases b<;>cases y<;>rfl)
       |true=>have:Rep R w (.b y) (a.tmps.getD t undef):=Vw;simp only[Region.wanted,hg,BF h ht hj (this.dN rfl)];cases b<;>cases y<;>rfl
      {cases hc}
     cases hf:C.E.ld.contains (Cq C.nt o.dst 1)with
     |true=>
      rw[hf,au]at Sg;unfold KI at Sg;obtain⟨h2,Xu⟩:=bK.1 Sg;cases Xu;have Mb:∀p∈e0.ws,C.nt<=p.1:=λp hp=>Nat.le_of_ble_eq_true (aC.1 h2 p hp);have hp:=hp _ rfl;simp only at hp;have E2:c=true/\(∀r,wx ((watch o.op).map λt=>(V t).1)=some r->r=true)/\∀p,e0.p=some p->p=true:=by
       cases hq:wx ((watch o.op).map λt=>(V t).1)with
       |none=>
        cases Kw:e0.p with
        |none=>rw[hq,Kw]at hp;exact⟨hp,λr hr=>(by cases hr),λp DY=>(by cases DY)⟩
        |some p0=>rw[hq,Kw]at hp;simp only[af]at hp;exact⟨hp.1,λr hr=>(by cases hr),λp DY=>(by cases DY;exact hp.2)⟩
       |some q0=>
        cases Kw:e0.p with
        |none=>rw[hq,Kw]at hp;simp only[af]at hp;exact⟨hp.1,λr hr=>(by cases hr;exact hp.2),λp DY=>(by cases DY)⟩
        |some p0=>rw[hq,Kw]at hp;simp only[af]at hp;exact⟨hp.1,λr hr=>(by cases hr;exact hp.2.1),λp DY=>(by cases DY;exact hp.2.2)⟩
      obtain⟨Mh,ym,Qy⟩:=E2;rw[hw,Mh,ar rfl];left;refine zl h hV hE hF hd hl oU (λt ht q hq=>?_) Gj VI Qy Mb rfl (λ_ _ _ _ k=>k) (λa' w' hs=>hK a' w' (by rw[hd];exact hs));have hm:(V t).1∈(watch o.op).map λt=>(V t).1:=List.mem_map_of_mem (f:=λt=>(V t).1) ht;generalize yo:wx ((watch o.op).map λt=>(V t).1)=r at ym;cases r with
      |none=>rw[vv yo _ hm]at hq;cases hq
      |some r=>have:=ym r rfl;subst this;exact Ai yo _ hm q hq
     |false=>
      rw[hf,aj]at Sg;unfold IG at Sg;obtain⟨h2,Xu⟩:=bK.1 Sg;cases Xu;simp only[af,Bool.not_eq_true',List.isEmpty_iff]at h2;obtain⟨⟨Mb,OO,Xd⟩,Xg⟩:=h2;have hms:∀k∈e0.x.2.dt,C.nt<=k/\(S k).2≠.no:=λk hk=>by{have:=aC.1 Xg k hk;simp only[Y5,af]at this;refine⟨Nat.le_of_ble_eq_true this.1,?_⟩;rcases hV k with e|e;{rw[<-e];intro e';rw[e']at this;cases this.2};{rw[e]at this;cases this.2}};rw[hw];cases c with
      |false=>simp only[bq,if_false];rw[hd];refine hK _ _ ?_;rw[hd];exact h.Tr hl (x:=.gd false e0.x.1) (v:=undef) rfl OO hms
      |true=>
       simp only[if_true];have O1:∀t∈watch o.op,∀q,(V t).1.Ll=some q->q=true:=by
        intro t ht q hq;have hm:(V t).1∈(watch o.op).map λt=>(V t).1:=List.mem_map_of_mem (f:=λt=>(V t).1) ht;generalize yo:wx ((watch o.op).map λt=>(V t).1)=r at hp;cases r with
        |none=>rw[vv yo _ hm]at hq;cases hq
        |some r=>
         have:r=true:=by
          cases Kw:e0.p with
          |none=>have:=hp _ (by simp only[Kw];rfl);simpa using this
          |some p=>have:=hp _ (by simp only[Kw];rfl);simp at this;exact this.1
         subst this;exact Ai yo _ hm q hq
       have Ks:∀p,e0.p=some p->p=true:=λp Kw=>by
        generalize wx ((watch o.op).map λt=>(V t).1)=r at hp;cases r with
        |none=>have:=hp _ (by simp only[Kw];rfl);simpa using this
        |some r=>have:=hp _ (by simp only[Kw];rfl);simp at this;exact this.2
       left;refine zl h hV hE hF hd hl oU O1 Gj VI Ks (by rw[Mb];simp) (x':=(.gd true e0.x.1,e0.x.2)) rfl (λ_ _ _ _ k=>(FI Xd).2 k) (λa' w' hs=>hK a' w' ?_);rw[hd];simp only[jJ,fU];rw[Mb]at hs;exact hs
    {cases he}
   {cases he}
  {cases he}
end
theorem Dw{X:Type}{p:Option Bool}{x:Option X}{r:X}(h:NM p x=some r):(∀q,p=some q->q=true)/\x=some r:=by
 unfold NM at h;split at h;{exact⟨by simp,h⟩}
 ·rename_i p;cases p with
  |true=>exact⟨by rintro q e;cases e;rfl,h⟩
  |false=>cases h
section
variable{L:Nat->Prop}{ops:List Oper}
theorem ur(C0:∀i o,ops[i]?=some o->L i->∀e∈vC o,L e):∀(rest pre:List Oper)(acc:List (List Nat)),ops=pre++rest->acc.length=pre.length->
  (∀i o,i<acc.length->ops[i]?=some o->(∀e∈vC o,L e)->∀j∈acc.getD i [],L j)->
  ∀i o,ops[i]?=some o->(∀e∈vC o,L e)->∀j∈(rest.foldl (λacc o=>acc++[(vC o).flatMap λe=>e::(acc.getD e [])]) acc).getD i [],L j
 |[],pre,acc,e,hl,inv=>by intro i o hi hb j hj;simp only[aK]at e;subst e;have:i<acc.length:=by{rw[hl];exact(aH.1 hi).1};exact inv i o this hi hb j hj
 |r::rest,pre,acc,e,hl,inv=>by simp only[List.foldl_cons];refine ur C0 rest (pre++[r]) _ (by simp[e]) (by simp[hl]) ?_;intro i o hi ho hb j hj;by_cases gr:i<acc.length;{rw[ai,List.getElem?_append_left gr,<-ai]at hj;exact inv i o gr ho hb j hj};{have wN:i=acc.length:=by{simp at hi;omega};subst wN;rw[ai,aY (Nat.le_refl _)]at hj;simp only[Nat.sub_self,List.getElem?_cons_zero,Option.getD_some,List.mem_flatMap,aP]at hj;have hr:o=r:=by{rw[e,hl,aY (Nat.le_refl _)]at ho;simpa using ho.symm};subst hr;obtain⟨x,hx,rfl|hj⟩:=hj;{exact hb _ hx};{by_cases Vs:x<acc.length;{have Ze:x<ops.length:=by{rw[e];simp;omega};exact inv x _ Vs (aw Ze) (C0 x _ (aw Ze) (hb x hx)) j hj};{simp[List.getD,List.getElem?_eq_none (Nat.le_of_not_lt Vs)]at hj}}}
theorem yK(C0:∀i o,ops[i]?=some o->L i->∀e∈vC o,L e){i:Nat}{o:Oper}(hi:ops[i]?=some o)(hb:∀e∈vC o,L e):∀j∈(pA ops).getD i [],L j:=ur C0 ops [] [] rfl rfl (λ_ _ h=>by simp at h) i o hi hb
theorem Fp(Sf:wR ops=true){i j:Nat}{o:Oper}(hi:ops[i]?=some o)(hj:j∈(pA ops).getD i []):j<i:=by have hb:∀k p,ops[k]?=some p->∀e∈vC p,e<k:=λk p hk e he=>by{have hm:(p,k)∈ops.zipIdx:=List.mem_zipIdx_iff_getElem?.2 (by simpa using hk);have:=aC.1 (aC.1 Sf _ hm) e he;simpa using this};exact yK (L:=λk=>k<i) (λk p hk hl e he=>Nat.lt_trans (hb k p hk e he) hl) hi (hb i o hi) j hj
end
theorem Mk{A:Type}{l:List A}{p:A×Nat->Bool}(h:l.zipIdx.all p=true){i:Nat}{x:A}(hi:l[i]?=some x):p (x,i)=true:=aC.1 h _ (List.mem_zipIdx_iff_getElem?.2 (by simpa using hi))
theorem C5(l:Array Bool)(i x:Nat)(d:Bool):(l.setIfInBounds i true).getD x d=if i=x then(if i<l.size then true else d)else l.getD x d:=by simp only[Array.getD_eq_getD_getElem?,Array.getElem?_setIfInBounds];split;{split<;>rfl};{rfl}
def gK(n:Nat)(listed:Array Bool):List Nat:=(List.range n).filter λi=>!listed.getD i true
theorem Cf{n i:Nat}{listed:Array Bool}(hs:listed.size=n)(hi:i<n):gK n (listed.setIfInBounds i true)=(gK n listed).filter (λj=>decide (j≠i)):=by simp only[gK,List.filter_filter];apply List.filter_congr;intro j hj;have hj:j<n:=by{simpa using hj};by_cases h:j=i;{subst h;simp[Array.getD,hs,hi]};{have:i≠j:=λe=>h e.symm;simp[Array.getD,hs,hj,Array.getElem_setIfInBounds,h,this]}
theorem xU{listed:Array Bool}{n i:Nat}(hs:listed.size=n)(hi:i<n):listed.getD i true=listed.getD i false:=by simp[Array.getD,hs,hi]
theorem vr(S:St)(d:Option Nat)(e:iu):jJ S d e=fU S (d.toList.map (λd=>(d,e.x))++e.ws):=by cases d<;>rfl
theorem CN(d:Option Nat)(e:iu):(d.toList.map (λd=>(d,e.x))++e.ws).map (·.1)=mD d e:=by unfold mD;cases d<;>simp
theorem nH{S:St}{d:Option Nat}{e:iu}{k:Nat}(h:k∉mD d e):jJ S d e k=S k:=by rw[vr];refine iU λp hp ep=>h ?_;rw[<-CN];exact bn.2 ⟨p,hp,ep⟩
theorem Gu{S S':St}{d:Option Nat}{e:iu}{k:Nat}(h:k∈mD d e):jJ S d e k=jJ S' d e k:=by rw[vr,vr];exact xG (by rw[CN];exact h)
theorem H7{S:St}{d d':Option Nat}{e e':iu}(h:∀k∈mD d e,k∉mD d' e'):jJ (jJ S d e) d' e'=jJ (jJ S d' e') d e:=by funext k;by_cases h1:k∈mD d e;{rw[nH (h k h1),Gu (S':=jJ S d' e') h1]};{by_cases h2:k∈mD d' e';{rw[nH (S:=jJ S d' e') h1,Gu (S':=S) h2]};{rw[nH h2,nH h1,nH h1,nH h2]}}
section
variable{C:Ctx}{Q:Exit->Act->World->Prop}
theorem fD.drew{S:St}{a:Act}{w:World}{R:Reach}{τ:Nat->Value}(h:fD C S a w R τ):fD C S a {w with drawn:=w.drawn+1} R τ:=by have dX:eZ R w R {w with drawn:=w.drawn+1}:=λb o hr=>⟨hr,rfl⟩;refine⟨h.size,h.defers,h.core.step (λ_=>False) dX (λ_ _=>⟨rfl,rfl⟩) (λ_ _ _ _=>⟨rfl,λ_=>id⟩) (λ_=>False.elim) (λ_=>False.elim) (λ_=>False.elim) (λ_=>False.elim) (λ_=>False.elim) (λ_ _=>False.elim) (λ_=>id) (λ_=>False.elim) h.core.ux (λ_=>False.elim),h.tmps,h.io,?_,h.gl.dX dX⟩;exact h.ext.trans (io':=C.io) ⟨rfl,rfl,rfl,Nat.le_refl _,λ_ _ _=>rfl,dX,λb o hr=>.inl hr⟩ λb hb=>.inl hb
theorem F5(hE:kB C.P C.E)(hF:∀f,gf C.P C.gl f (C.E.fs f)){X:Type}{ops:Array Oper}:∀{os:List Oper}{S:St}{a:Act}{w:World}{K:St->Option X}{r:X},wX C S a w->G9 C.P C.E C.nt ops os S K=some r->(∀S' a' w',wX C S' a' w'->K S'=some r->Q .normal a' w')->wpList C.P ops Q os a w
 |[],S,a,w,K,r,h,hr,hQ=>hQ _ _ _ h hr
 |o::os,S,a,w,K,r,⟨R,τ,h⟩,hr,hQ=>by rw[G8]at hr;split at hr;{rename_i e he;obtain⟨hp,hr⟩:=Dw hr;unfold wpList;exact step_ok h (Lt.refl S) hE hF hp he λa' w' h'=>F5 hE hF h' hr hQ};{cases hr}
structure RZ (C:Ctx) (ops:Array Oper) (l:List (St×iu)):Prop where
 step:∀(i:Nat)(o:Oper)(V:St)(e:iu),ops.toList[i]?=some o->l[i]?=some (V,e)->pL C.P C.E C.nt ops o V=some e/\∀p,e.p=some p->p=true
 off:∀(i j:Nat)(o o':Oper)(V V':St)(e e':iu),i≠j->ops.toList[i]?=some o->ops.toList[j]?=some o'->l[i]?=some (V,e)->l[j]?=some (V',e')->j∉(pA ops.toList).getD i []->i∉(pA ops.toList).getD j []->
  ∀k∈mD o'.dst e',(V k).2=.hid/\k∉mD o.dst e
def Rn(ops:Array Oper)(l:List (St×iu)):List Nat->St->St->Prop
 |[],S,S'=>S'=S
 |i::r,S,S'=>∃V e o,ops.toList[i]?=some o/\l[i]?=some (V,e)/\Lt V S/\Rn ops l r (jJ S o.dst e) S'
theorem Lt.O7{V S:St}{d:Option Nat}{e:iu}(h:∀k∈mD d e,(V k).2=.hid):Lt V S↔Lt V (jJ S d e):=by constructor;{intro hl k;by_cases hk:k∈mD d e;{exact .inr (h k hk)};{rw[nH hk];exact hl k}};{intro hl k;by_cases hk:k∈mD d e;{exact .inr (h k hk)};{have:=hl k;rwa[nH hk]at this}}
theorem Rn.front{ops:Array Oper}{l:List (St×iu)}(hp:RZ C ops l){i:Nat}{B:List Nat}:∀{A:List Nat}{S S':St},Rn ops l (A++i::B) S S'->(∀j∈A,j≠i/\j∉(pA ops.toList).getD i []/\i∉(pA ops.toList).getD j [])->Rn ops l (i::(A++B)) S S'
 |[],_,_,h,_=>h
 |j::A,S,S',⟨V,e,o,h1,h2,h3,h4⟩,hA=>by obtain⟨V',e',o',k1,k2,k3,k4⟩:=Rn.front hp h4 λx hx=>hA x (List.mem_cons_of_mem _ hx);obtain⟨mU,ha,hb⟩:=hA j (List.mem_cons_self ..);have o1:=hp.off j i o o' V V' e e' mU h1 k1 h2 k2 hb ha;have o2:=hp.off i j o' o V' V e' e (Ne.symm mU) k1 h1 k2 h2 ha hb;refine⟨V',e',o',k1,k2,(Lt.O7 λk hk=>(o2 k hk).1).2 k3,V,e,o,h1,h2,(Lt.O7 λk hk=>(o1 k hk).1).1 h3,?_⟩;rwa[H7 λk hk=>(o1 k hk).2]
def Ch:List Oper->List (St×iu)->St->St->Prop
 |[],[],S,S'=>S'=S
 |o::os,(V,e)::l,S,S'=>Lt V S/\Ch os l (jJ S o.dst e) S'
 |_,_,_,_=>False
theorem Ch.rn{ops:Array Oper}{l:List (St×iu)}:∀(n i:Nat){S S':St},ops.toList.length=i+n->Ch (ops.toList.drop i) (l.drop i) S S'->Rn ops l (List.range' i n) S S'
 |0,i,S,S',hn,h=>by
  rw[List.drop_eq_nil_of_le (by omega)]at h;cases hl:l.drop i with
  |nil=>rw[hl]at h;exact h
  |cons p r=>rw[hl]at h;cases h
 |n+1,i,S,S',hn,h=>by
  have hi:i<ops.toList.length:=by{omega};rw[List.drop_eq_getElem_cons hi]at h;cases hl:l.drop i with
  |nil=>rw[hl]at h;cases h
  |cons p r=>obtain⟨V,e⟩:=p;rw[hl]at h;obtain⟨h1,h2⟩:=h;have hg:l[i]?=some (V,e):=by{have:(l.drop i)[0]?=some (V,e):=by{rw[hl];rfl};rwa[List.getElem?_drop,Nat.add_zero]at this};have hr:l.drop (i+1)=r:=by{rw[<-List.drop_drop,hl];rfl};exact⟨V,e,_,aw hi,hg,h1,Ch.rn n (i+1) (by omega) (by rw[hr];exact h2)⟩
theorem JR(ds:List Nat)(S:St):Lt (sA ds S) S:=λk=>by
 unfold sA;cases ds.contains k with
 |true=>exact .inr rfl
 |false=>exact .inl rfl
theorem Hx{ds:List Nat}{S:St}{k:Nat}(h:k∈ds):(sA ds S k).2=.hid:=by unfold sA;have:ds.contains k=true:=by{simpa using h};rw[this];rfl
theorem FL{X:Type}{ops:Array Oper}{W B:List (List Nat)}{K:St->Option X}{r:X}:∀{os:List Oper}{i:Nat}{S:St},Hb C.P C.E C.nt ops W B i os S K=some r->
  ∃l S',l.length=os.length/\Ch os l S S'/\K S'=some r/\∀(n:Nat)(o:Oper)(V:St)(e:iu),os[n]?=some o->l[n]?=some (V,e)->(∃S0,V=sA (uZ W B (i+n)) S0)/\pL C.P C.E C.nt ops o V=some e/\(∀p,e.p=some p->p=true)/\mD o.dst e=W.getD (i+n) []/\∀k∈uZ W B (i+n),k∉W.getD (i+n) []
 |[],i,S,h=>⟨[],S,rfl,rfl,h,by simp⟩
 |o::os,i,S,h=>by
  rw[Ha]at h;split at h
  ·rename_i e he;obtain⟨h1,h2⟩:=bK.1 h;obtain⟨hp,h3⟩:=Dw h2;obtain⟨l,S',k1,k2,k3,k4⟩:=FL h3;simp only[af,aD]at h1;refine⟨(sA (uZ W B i) S,e)::l,S',by simp[k1],⟨JR _ _,k2⟩,k3,λn o' V e' hn hl=>?_⟩;cases n with
   |zero=>cases hn;cases hl;refine⟨⟨S,rfl⟩,he,hp,h1.1,λk hk=>?_⟩;have:=aC.1 h1.2 k hk;simpa using this
   |succ n=>have:=k4 n o' V e' (by simpa using hn) (by simpa using hl);rwa[show i+1+n=i+(n+1) by omega]at this
  {cases h}
theorem RP(hE:kB C.P C.E)(hF:∀f,gf C.P C.gl f (C.E.fs f)){ops:Array Oper}{l:List (St×iu)}(hlen:l.length=ops.size)(BA:RZ C ops l)(Sf:wR ops.toList=true){S':St}(hQ:∀a' w',wX C S' a' w'->Q .normal a' w'):∀(fuel:Nat){listed:Array Bool}{S:St}{a:Act}{w:World},wX C S a w->listed.size=ops.size->(∀i o,ops.toList[i]?=some o->listed.getD i false=true->∀e∈vC o,listed.getD e false=true)->(gK ops.size listed).length<=fuel->Rn ops l (gK ops.size listed) S S'->wpAny C.P .any ops Q fuel listed a w:=by
 have Xc:∀{listed:Array Bool},listed.size=ops.size->Region.ready .any ops listed=[]->gK ops.size listed=[]:=by
  intro listed hs hr;cases Kp:gK ops.size listed with
  |nil=>rfl
  |cons i rest=>
   exfalso;have vm:i∈gK ops.size listed:=by{rw[Kp];exact List.mem_cons_self ..};have OU:=vm;simp only[gK,List.mem_filter,List.mem_range,Bool.not_eq_true']at OU;obtain⟨hi,hl⟩:=OU;have CU:(gK ops.size listed).Pairwise (· <·):=List.Pairwise.filter _ List.pairwise_lt_range;have Nu:ops.toList[i]?=some ops[i]:=by{simp[hi]};have hb:=Mk Sf Nu;have:i∈Region.ready .any ops listed:=by
    simp only[Region.ready,List.mem_filter,List.mem_range];refine⟨hi,?_⟩;simp only[hl,aL,Bool.true_and,Array.getElem?_eq_getElem hi,Option.map_some,Option.getD_some,Array.all_eq_true_iff_forall_mem,Bool.or_eq_true,Bool.not_eq_true'];intro e he;cases Ue:Region.binds .any e with
    |false=>exact .inl rfl
    |true=>
     right;have gr:e.on<i:=by{have:e.on∈vC ops[i]:=bn.2 ⟨e,List.mem_filter.2 ⟨by simpa using he,Ue⟩,rfl⟩;have oa:=aC.1 hb _ this;simpa using oa};cases hle:listed.getD e.on false with
     |true=>rfl
     |false=>have Iw:e.on∈gK ops.size listed:=by{simp only[gK,List.mem_filter,List.mem_range,Bool.not_eq_true'];exact⟨by omega,by rw[xU hs (by omega)];exact hle⟩};rw[Kp]at Iw CU;rcases aP.1 Iw with h|h;{omega};{have:=(List.pairwise_cons.1 CU).1 _ h;omega}
   rw[hr]at this;cases this
 intro fuel;induction fuel with
 |zero=>
  intro listed S a w h hs A4 hf hr;have h0:gK ops.size listed=[]:=by{simpa using hf};rw[h0]at hr;cases hr;refine⟨?_,hQ _ _ h⟩;cases Kq:Region.ready .any ops listed with
  |nil=>rfl
  |cons i rest=>have:i∈Region.ready .any ops listed:=by{rw[Kq];exact List.mem_cons_self ..};simp only[Region.ready,List.mem_filter,List.mem_range,af]at this;have h1:i∈gK ops.size listed:=by{simp only[gK,List.mem_filter,List.mem_range];exact⟨this.1,this.2.1⟩};rw[h0]at h1;cases h1
 |succ fuel ih=>
  intro listed S a w h hs A4 hf hr;refine⟨λKq=>?_,λi hi=>?_⟩;{rw[Xc hs Kq]at hr;cases hr;exact hQ _ _ h}
  ·simp only[Region.ready,List.mem_filter,List.mem_range,af]at hi;obtain⟨Iw,Xp,Zz⟩:=hi;have T2:i∈gK ops.size listed:=by{simp only[gK,List.mem_filter,List.mem_range];exact⟨Iw,Xp⟩};have Nu:ops.toList[i]?=some ops[i]:=by{simp[Iw]};simp only[Array.getElem?_eq_getElem Iw,Option.map_some,Option.getD_some,Array.all_eq_true_iff_forall_mem,Bool.or_eq_true,Bool.not_eq_true']at Zz;have D1:∀e∈vC ops[i],listed.getD e false=true:=by{intro e he;simp only[vC,bn,List.mem_filter]at he;obtain⟨x,⟨hx,hb⟩,rfl⟩:=he;rcases Zz x (by simpa using hx)with h|h;{rw[hb]at h;cases h};{exact h}};obtain⟨A,B,QW⟩:=List.append_of_mem T2;have CU:(gK ops.size listed).Pairwise (· <·):=List.Pairwise.filter _ List.pairwise_lt_range;rw[QW,List.pairwise_append]at CU;obtain⟨-,hB,hA⟩:=CU;have ZY:∀j∈A,j<i:=λj hj=>hA j hj i (List.mem_cons_self ..);have hBi:∀j∈B,i<j:=λj hj=>(List.pairwise_cons.1 hB).1 j hj;rw[QW]at hr;have QN:=hr.front BA (λj hj=>by
    have Xo:=ZY j hj;have T1:j∈gK ops.size listed:=by{rw[QW];exact List.mem_append_left _ hj};simp only[gK,List.mem_filter,List.mem_range,Bool.not_eq_true']at T1;refine⟨by omega,λhb=>?_,λhb=>?_⟩;{have h3:=yK (L:=λe=>listed.getD e false=true) A4 Nu D1 j hb;rw[xU hs T1.1,h3]at T1;cases T1.2}
    ·have hjo:ops.toList[j]?=some ops[j]:=by{simp[T1.1]};have:=Fp Sf hjo hb;omega)
   obtain⟨V,e,o,k1,k2,k3,k4⟩:=QN;rw[Nu]at k1;cases k1;obtain⟨s1,s2⟩:=BA.step i _ V e Nu k2;obtain⟨R,τ,h⟩:=h;simp only[wpOp,Array.getElem?_eq_getElem Iw];refine step_ok h k3 hE hF s2 s1 λa' w' h'=>?_;have Zi:gK ops.size (listed.setIfInBounds i true)=A++B:=by{rw[Cf hs Iw,QW,List.filter_append,List.filter_cons];simp only[ne_eq,not_true_eq_false,decide_false,bq,if_false];rw[List.filter_eq_self.2 (λj hj=>by have:=ZY j hj;simp;omega),List.filter_eq_self.2 (λj hj=>by have:=hBi j hj;simp;omega)]};refine ih h' (by simp[hs]) ?_ ?_ ?_;{intro j o hj VE e he;have HN:∀x,listed.getD x false=true->(listed.setIfInBounds i true).getD x false=true:=by{intro x hx;rw[C5];split;{rename_i Se;subst Se;rw[ar (by rw[hs];exact Iw)]};{exact hx}};by_cases Xo:j=i;{subst Xo;rw[Nu]at hj;cases hj;exact HN _ (D1 e he)};{refine HN _ (A4 j o hj ?_ e he);have hij:i≠j:=λe=>Xo e.symm;rw[C5,ao hij]at VE;exact VE}};{rw[Zi];rw[QW]at hf;simp at hf⊢;omega};{rw[Zi];exact k4}
theorem Hh(hE:kB C.P C.E)(hF:∀f,gf C.P C.gl f (C.E.fs f)){X:Type}{id:Nat}{ops:Array Oper}{draw:Bool}{S:St}{a:Act}{w:World}{K:St->Option X}{r:X}(h:wX C S a w)(hr:AG C.P C.E C.nt ops draw S K=some r)(hQ:∀S' a' w',wX C S' a' w'->K S'=some r->Q .normal a' w'):(Code.region id ops draw).wp C.P Q a w:=by
 cases draw with
 |false=>exact wp_region_list (F5 hE hF h hr hQ)
 |true=>
  simp only[AG]at hr;obtain⟨Sf,hr⟩:=bK.1 hr;split at hr
  ·rename_i W _;obtain⟨l,S',k1,k2,k3,k4⟩:=FL hr;simp only[Nat.zero_add]at k4;have hlen:l.length=ops.size:=by{simpa using k1};have BA:RZ C ops l:=⟨λi o V e ho hl=>⟨(k4 i o V e ho hl).2.1,(k4 i o V e ho hl).2.2.1⟩,λi j o o' V V' e e' mU ho ho' hl TZ hj hi k hk=>by
    obtain⟨⟨S0,rfl⟩,_,_,a1,a2⟩:=k4 i o V e ho hl;obtain⟨_,_,_,b1,_⟩:=k4 j o' V' e' ho' TZ;rw[b1]at hk;have Iw:k∈uZ W (pA ops.toList) i:=by
     unfold uZ;rcases Nat.lt_or_ge j W.length with gr|Ku
     ·refine List.mem_flatMap.2 ⟨(W[j],j),List.mem_filter.2 ⟨List.mem_zipIdx_iff_getElem?.2 (by simp[aw gr]),?_⟩,?_⟩
      ·have e1:Nat.beq j i=false:=by
        cases hb:Nat.beq j i with
        |false=>rfl
        |true=>exact(mU (aB hb).symm).elim
       simp only[e1,aL,Bool.true_and,af,Bool.not_eq_true'];exact⟨by simpa using hj,by simpa using hi⟩
      {rwa[ai,aw gr]at hk}
     {rw[ai,List.getElem?_eq_none Ku]at hk;cases hk}
    exact⟨Hx Iw,by rw[a1];exact a2 k Iw⟩⟩
   have Kp:gK ops.size (Array.replicate ops.size false)=List.range ops.size:=by{simp only[gK];apply List.filter_eq_self.2;intro i hi;have hi:i<ops.size:=by{simpa using hi};simp[Array.getD,hi]};obtain⟨R,τ,h⟩:=h;refine wp_region_any hE.mixed (RP hE hF hlen BA Sf (λa' w' h'=>hQ S' a' w' h' k3) ops.size ⟨R,τ,h.drew⟩ (by simp) ?_ (by rw[Kp];simp) ?_);{intro i o _ hl;exfalso;by_cases hi:i<ops.size<;>simp[Array.getD,hi]at hl};{rw[Kp,List.range_eq_range'];exact Ch.rn ops.size 0 (by simp) (by simpa using k2)}
  {cases hr}
end
theorem Dn:∀{l:List Nat}{i j k:Nat},oZ l=true->l[i]?=some k->l[j]?=some k->i=j
 |x::l,0,0,k,_,_,_=>rfl
 |x::l,0,j+1,k,h,h1,h2=>by have e:x=k:=by{simpa using h1};subst e;simp only[oZ,af,aC]at h;have:=h.1 x (aO (by simpa using h2));simp at this
 |x::l,i+1,0,k,h,h1,h2=>by have e:x=k:=by{simpa using h2};subst e;simp only[oZ,af,aC]at h;have:=h.1 x (aO (by simpa using h1));simp at this
 |x::l,i+1,j+1,k,h,h1,h2=>by simp only[oZ,af]at h;exact congrArg (· +1) (Dn (k:=k) h.2 (by simpa using h1) (by simpa using h2))
theorem oy:∀{G:GL}{xs:List TV}(k:Nat),gN G xs k=(.dead,.no)\/∃(i:Nat)(g:Gh)(x:TV),G[i]?=some (k,g)/\xs[i]?=some x/\gN G xs k=(x,g)
 |[],_,_=>.inl rfl
 |_::_,[],_=>.inl rfl
 |(j,g)::G,x::xs,k=>by
  simp only[gN];cases hb:Nat.beq k j with
  |true=>exact .inr ⟨0,g,x,by rw[aB hb];rfl,rfl,rfl⟩
  |false=>rcases oy (G:=G) (xs:=xs) k with h|⟨i,g',x',h1,h2,h3⟩;{exact .inl h};{exact .inr ⟨i+1,g',x',by simpa using h1,by simpa using h2,h3⟩}
theorem tX:∀{G:GL}{xs:List TV}{i k:Nat}{g:Gh}{x:TV},oZ (G.map (·.1))=true->G[i]?=some (k,g)->xs[i]?=some x->gN G xs k=(x,g)
 |(j,g)::G,x::xs,0,k,_,_,_,h1,h2=>by simp_all[gN]
 |(j,g)::G,x::xs,i+1,k,_,_,hd,h1,h2=>by simp only[bc,oZ,af,aC]at hd;have hm:k∈G.map (·.1):=bn.2 ⟨_,aO (by simpa using h1),rfl⟩;have:=hd.1 k hm;simp at this;simp only[gN,this];exact tX hd.2 (by simpa using h1) (by simpa using h2)
theorem ud{ts us:List (Nat×Nat)}{p:Nat×Nat}(h:p∈us.filter λu=>(oY u.1 ts).isNone):p∈us:=(List.mem_filter.1 h).1
theorem dJ.Cj{R:Reach}{w:World}:∀{ts:List (Nat×Nat)}{xs:List TV}{ys:List Value},dJ R w xs ys->dJ R w (Cj ts xs) ys
 |[],_,_,h=>h
 |t::ts,xs,ys,h=>by exact dJ.Cj (ts:=ts) (h.set λy _=>.pt y)
section
variable{nt:Nat}{R R':Reach}{w:World}{dV:Nat->Prop}{τ:Nat->Value}{S S1:St}{G:GL}{ρ:List (Nat×Option Nat)}
def Fact(nt:Nat)(w:World)(τ:Nat->Value)(S:St)(ρ:List (Nat×Option Nat))(W:List (Nat×Cell))(R:Reach)(p:Nat×Gh)(x:TV):Prop:=
 match p.2 with
 |.no=>p.1<nt/\Rep R w x (τ p.1)
 |.fo _=>p.1<nt/\x=.pt/\((∃j,S p.1=(.pt,.fo j))\/∃t,S p.1=(.nl t,.no))
 |.ptr m o=>p.1<nt/\x=.pt/\S p.1=(.pt,.ptr m o)
 |.cl ts=>nt<=p.1/\∃cs us b ys e zs,S p.1=(.ag cs,.cl us)/\τ p.1=.pointer (some ⟨b,0,none⟩)/\w.heap[b]?=some (.cells ⟨ys⟩ e (0,0))/\x=.ag zs/\dJ R w zs ys/\dJ R w cs ys/\(∀t∈us,ys[t.1]?=some (τ t.2))/\∀t∈ts,(oY t.1 us).isSome=true\/∃y,cs[t.1]?=some (.nl y)
 |.pv=>nt<=p.1/\((∃j,lh ρ p.1=some j/\S j=(x,.pv))\/(lh ρ p.1=none/\∃t,x=.sl t []))
 |.lv=>nt<=p.1/\((∃j,lh ρ p.1=some j/\(S j=(x,.lv)\/(S j=(x,.pv)/\(j,(x,.lv))∈W)))\/(lh ρ p.1=none/\∃t,x=.sl t []))
 |_=>False
theorem Fact.mono{W W':List (Nat×Cell)}{p:Nat×Gh}{x:TV}(h:Fact nt w τ S ρ W R p x)(k:eZ R w R' w)(hw:∀q∈W,q∈W'):Fact nt w τ S ρ W' R' p x:=by unfold Fact at h⊢;split at h;{exact⟨h.1,h.2.mono k⟩};{exact h};{exact h};{obtain⟨h0,cs,us,b,ys,e,zs,h1,h2,h3,h4,h5,h6,h7,h8⟩:=h;exact⟨h0,cs,us,b,ys,e,zs,h1,h2,h3,h4,h5.mono k,h6.mono k,h7,h8⟩};{exact h};{grind};{exact h.elim}
def SB(nt:Nat)(ws:List (Nat×Cell)):Prop:=∀p∈ws,p.2.2=.lv
theorem E6{V:St}{c:Cell}{x:TV}{ws:List (Nat×Cell)}(h:Gp V c=some (x,ws)):SB nt ws:=by intro p hp;unfold Gp at h;split at h;{grind};{simp_all};{cases h}
theorem tZ{V:St}{o n:Nat}:∀{ts:List (Nat×Nat)}{cs ds:List TV}{ws:List (Nat×Cell)},pZ V o n ts cs=some (ds,ws)->SB nt ws
 |[],_,_,_,h=>by cases h;intro p hp;cases hp
 |(c,k)::ts,cs,ds,ws,h=>by
  simp only[pZ]at h;split at h
  ·rename_i Bl U7 h1;cases hb:(Nat.ble o c&&Nat.blt c (o+n))with
   |true=>rw[hb,au]at h;split at h;{rename_i h2;cases h;intro p hp;rcases List.mem_append.1 hp with hp|hp;{exact E6 (nt:=nt) h2 p hp};{exact tZ h1 p hp}};{cases h}
   |false=>rw[hb,aj]at h;cases h;exact tZ h1
  {cases h}
theorem Q8{V:St}{c:Cell}{x:TV}{ws:List (Nat×Cell)}(h:C8 V c=some (x,ws)):SB nt ws:=by unfold C8 at h;split at h;{split at h;{grind[tZ]};{cases h}};{exact E6 h}
theorem Mm(h:Core nt R w dV τ S1)(hV:Lq S S1)(hS:∀k,k<nt->eY R w τ (S k).1 (S k).2 (τ k)/\∀m∈(S k).2.dt,nt<=m)(hj:∀k j,lh ρ k=some j->nt<=k->nt<=j){p:Nat×Gh}{x:TV}{ws:List (Nat×Cell)}(he:Ea nt S G ρ p=some (x,ws)):∃R',Core nt R' w dV τ (fU S1 ws)/\Fz dV R w R'/\Fact nt w τ S ρ ws R' p x/\Lq S (fU S1 ws)/\SB nt ws:=by
 obtain⟨k,g⟩:=p;have P3:SB nt []:=λp hp=>by{cases hp};unfold Ea at he;(cases g<;>simp only at he⊢<;>try(cases he;done));case no=>
  obtain⟨h1,h2⟩:=bK.1 he
  have hk:k<nt:=Nat.le_of_ble_eq_true h1
  obtain⟨a,b⟩:=hS k hk
  obtain⟨R',k1,k2,k3,k4⟩:=Ba h hV a b h2
  exact⟨R',k1,k2,⟨hk,k3⟩,k4,Q8 h2⟩
 case fo i=>
  obtain⟨h1,h2⟩:=bK.1 he
  have hk:k<nt:=Nat.le_of_ble_eq_true h1
  split at h2<;>cases h2
  {exact⟨R,h,Fz.refl _ _ _,⟨hk,rfl,.inl ⟨_,by assumption⟩⟩,hV,P3⟩}
  {exact⟨R,h,Fz.refl _ _ _,⟨hk,rfl,.inr ⟨_,by assumption⟩⟩,hV,P3⟩}
 case ptr m o=>
  obtain⟨h1,h2⟩:=bK.1 he
  have hk:k<nt:=Nat.le_of_ble_eq_true h1
  split at h2
  {rename_i e;obtain⟨h3,h4⟩:=bK.1 h2;cases h4;simp only[af]at h3;rw[aB h3.1,aB h3.2]at e;exact⟨R,h,Fz.refl _ _ _,⟨hk,rfl,e⟩,hV,P3⟩}
  {cases h2}
 case cl ts=>
  obtain⟨h1,h2⟩:=bK.1 he
  have hk:nt<=k:=Nat.le_of_ble_eq_true h1
  split at h2
  {rename_i cs us e;obtain⟨h3,h4⟩:=bK.1 h2;split at h4;{rename_i Bl U7 hf;cases h4;have e1:S1 k=(.ag cs,.cl us):=by{rcases hV k with e'|e'|⟨e',_⟩;{rw[<-e',e]};{simp_all};{simp_all}};have hK:=h.key k;rw[e1]at hK;obtain⟨b,ys,el,xs,a1,a2,a3,a4,a5,a6⟩:=hK;cases a3;obtain⟨R',f1,f2,f3,f4,_⟩:=pY h hV a4 (λt ht=>⟨by have:=h.inv k t.2;rw[e1]at this;exact(this (List.mem_map_of_mem (f:=(·.2)) (ud ht))).1,a5 t (ud ht)⟩) hf;refine⟨R',f1,f2,⟨hk,cs,us,b,ys,el,_,e,a1,a2,rfl,dJ.Cj (q8 f3),a4.mono f2.1,a5,λt ht=>?_⟩,f4,tZ hf⟩;have:=aC.1 h3 t ht;rcases Bool.or_eq_true _ _▸this with h|h;{exact .inl h};{right;unfold TH at h;split at h;{simp_all};{cases h}}};{cases h4}}
  {cases h2}
 case pv=>
  obtain⟨h1,h2⟩:=bK.1 he
  have hk:nt<=k:=Nat.le_of_ble_eq_true h1
  split at h2
  {rename_i j vX;split at h2<;>cases h2;exact⟨R,h,Fz.refl _ _ _,⟨hk,.inl ⟨j,vX,by assumption⟩⟩,hV,P3⟩}
  {rename_i vX;rw[aW]at h2;obtain⟨t,_,h2⟩:=h2;cases h2;exact⟨R,h,Fz.refl _ _ _,⟨hk,.inr ⟨vX,t,rfl⟩⟩,hV,P3⟩}
 case lv=>
  obtain⟨h1,h2⟩:=bK.1 he
  have hk:nt<=k:=Nat.le_of_ble_eq_true h1
  split at h2
  {rename_i j vX;have hnj:=hj k j vX hk;split at h2<;>cases h2;{rename_i e;have hf:Gp S (.pt,.fo j)=some (x,[(j,(x,.lv))]):=by{simp_all[Gp]};obtain⟨R',k1,k2,_,k4,_,_⟩:=E5 h hV hnj hf;exact⟨R',k1,k2,⟨hk,.inl ⟨j,vX,.inr ⟨e,List.mem_singleton.2 rfl⟩⟩⟩,k4,E6 hf⟩};{exact⟨R,h,Fz.refl _ _ _,⟨hk,.inl ⟨j,vX,.inl (by assumption)⟩⟩,hV,P3⟩}}
  {rename_i vX;rw[aW]at h2;obtain⟨t,_,h2⟩:=h2;cases h2;exact⟨R,h,Fz.refl _ _ _,⟨hk,.inr ⟨vX,t,rfl⟩⟩,hV,P3⟩}
theorem BJ(Ui:Core nt R w dV τ S)(hj:∀k j,lh ρ k=some j->nt<=k->nt<=j):∀{l:GL}{xs:List TV}{ws:List (Nat×Cell)},vH nt S G ρ l=some (xs,ws)->
  ∃R',Core nt R' w dV τ (fU S ws)/\Fz dV R w R'/\xs.length=l.length/\(∀(i:Nat)(p:Nat×Gh)(x:TV),l[i]?=some p->xs[i]?=some x->Fact nt w τ S ρ ws R' p x)/\Lq S (fU S ws)/\SB nt ws
 |[],_,_,h=>by cases h;exact⟨R,Ui,Fz.refl _ _ _,rfl,by simp,(λk=>.inl rfl),λp hp=>by cases hp⟩
 |p::l,xs,ws,h=>by
  simp only[vH]at h;split at h
  ·rename_i x U7 h1;split at h
   ·rename_i L8 us h2;cases h;obtain⟨R1,k1,k2,k3,k4,k5,k6⟩:=BJ Ui hj h2;obtain⟨R2,m1,m2,m3,m4,m5⟩:=Mm k1 k5 (λk hk=>by have hs:=Ui.slt k hk;have hK:=Ui.key k;rw[kA.slot hs]at hK;exact⟨hK.dX k2.1 λ_ _=>rfl,λm hm=>(Ui.inv k m hm).1⟩) hj h1;rw[lg];refine⟨R2,m1,k2.trans m2,by simp[k3],λi p' x' hi hx=>?_,m4,λq hq=>?_⟩
    ·cases i with
     |zero=>cases hi;cases hx;exact m3.mono (eZ.refl _ _) λq hq=>List.mem_append_left _ hq
     |succ i=>exact(k4 i p' x' (by simpa using hi) (by simpa using hx)).mono m2.1 λq hq=>List.mem_append_right _ hq
    {rcases List.mem_append.1 hq with hq|hq;{exact m5 q hq};{exact k6 q hq}}
   {cases h}
  {cases h}
theorem zu:∀{ws:List (Nat×Cell)}{S:St}{k:Nat}{c:Cell},(k,c)∈ws->∃p∈ws,p.1=k/\fU S ws k=p.2
 |(j,x)::ws,S,k,c,h=>by simp only[fU];by_cases e:k=j;{simp_all[cG]};{rw[fq _ _ e];rcases aP.1 h with h|h;{simp_all};{obtain⟨p,h1,h2,h3⟩:=zu h (S:=S);exact⟨p,List.mem_cons_of_mem _ h1,h2,h3⟩}}
def ny(nt:Nat)(τ:Nat->Value)(ρ:List (Nat×Option Nat))(k:Nat):Value:=if k<nt then τ k else match lh ρ k with|some j=>τ j|none=>.slice none 0 0
end
theorem vi{k:Nat}{r:Option Nat}:∀{ρ:List (Nat×Option Nat)},rj k ρ=some r->(k,r)∈ρ
 |(i,j)::ρ,h=>by
  simp only[rj]at h;cases hb:Nat.beq i k with
  |true=>rw[hb]at h;cases h;rw[aB hb];exact List.mem_cons_self ..
  |false=>rw[hb]at h;exact List.mem_cons_of_mem _ (vi h)
theorem Ce{S:St}{k i:Nat}:∀{G:GL},(k,.fo i)∈G->(∀j,S k=(.pt,.fo j)->(i,some j)∈qW S G)/\∀t,S k=(.nl t,.no)->(i,none)∈qW S G
 |(k',g)::G,h=>by rcases aP.1 h with h|h;{grind[qW,List.mem_append_left,List.mem_singleton.2]};{obtain⟨h1,h2⟩:=Ce h (S:=S);cases g<;>first|exact⟨λj hj=>List.mem_append_right _ (h1 j hj),λt hj=>List.mem_append_right _ (h2 t hj)⟩|exact⟨h1,h2⟩}
theorem FN{S:St}{m:Nat}{ts us:List (Nat×Nat)}{cs:List TV}(hm:S m=(.ag cs,.cl us)):∀{G:GL},(m,.cl ts)∈G->∀t∈ts,(∀j,oY t.1 us=some j->(t.2,some j)∈qW S G)/\(oY t.1 us=none->∀y,cs[t.1]?=some (.nl y)->(t.2,none)∈qW S G)
 |(k',g)::G,h,t,ht=>by rcases aP.1 h with h|h;{grind[qW,List.mem_append_left,List.mem_filterMap.2]};{obtain⟨h1,h2⟩:=FN hm h t ht;cases g<;>first|exact⟨λj hj=>List.mem_append_right _ (h1 j hj),λa b c=>List.mem_append_right _ (h2 a b c)⟩|exact⟨h1,h2⟩}
theorem tE{S:St}{i j:Nat}:∀{G:GL},(i,some j)∈qW S G->∃q,j∈(S q).2.dt
 |(k',g)::G,h=>by(cases g<;>first|exact tE (G:=G) h|skip);{simp only[qW]at h;rcases List.mem_append.1 h with h|h;{refine⟨k',?_⟩;split at h;{rename_i e;simp only[List.mem_singleton,Prod.mk.injEq,aM]at h;rw[e,h.2];exact List.mem_singleton.2 rfl};{simp at h};{cases h}};{exact tE h}};{rename_i ts;simp only[qW]at h;rcases List.mem_append.1 h with h|h;{refine⟨k',?_⟩;split at h;{rename_i cs us e;obtain⟨t,_,ht⟩:=List.mem_filterMap.1 h;split at ht;{rename_i hf;simp only[aM,Prod.mk.injEq]at ht;rw[e,<-ht.2];exact bn.2 ⟨_,p9 hf,rfl⟩};{simp at ht};{cases ht}};{cases h}};{exact tE h}}
theorem Dp{A:Type}{f:A->Option Nat}:∀{l:List A}{i j k:Nat}{x y:A},oZ (l.filterMap f)=true->l[i]?=some x->f x=some k->l[j]?=some y->f y=some k->i=j
 |a::l,0,0,_,_,_,_,_,_,_,_=>rfl
 |a::l,0,j+1,k,x,y,hd,h1,h2,h3,h4=>by have e:a=x:=by{simpa using h1};subst e;rw[List.filterMap_cons,h2]at hd;simp only[oZ,af,aC]at hd;have:=hd.1 k (List.mem_filterMap.2 ⟨y,aO (by simpa using h3),h4⟩);simp at this
 |a::l,i+1,0,k,x,y,hd,h1,h2,h3,h4=>by have e:a=y:=by{simpa using h3};subst e;rw[List.filterMap_cons,h4]at hd;simp only[oZ,af,aC]at hd;have:=hd.1 k (List.mem_filterMap.2 ⟨x,aO (by simpa using h1),h2⟩);simp at this
 |a::l,i+1,j+1,k,x,y,hd,h1,h2,h3,h4=>by have Ix:oZ (l.filterMap f)=true:=by{rw[List.filterMap_cons]at hd;split at hd;{exact hd};{simp only[oZ,af]at hd;exact hd.2}};exact congrArg (· +1) (Dp Ix (by simpa using h1) h2 (by simpa using h3) h4)
 |[],_,_,_,_,_,_,h,_,_,_=>by simp at h
section
variable{C:Ctx}{S:St}{a:Act}{w:World}{R:Reach}{τ:Nat->Value}{G:GL}{xs:List TV}
theorem Hf(h:fD C S a w R τ)(he:xz C.nt G S=some xs):∃R',fD C (gN G xs) a w R' (ny C.nt τ (qW S G))/\eZ R w R' w:=by
 unfold xz at he;split at he
 ·rename_i L8 ws hv;obtain⟨BB,he⟩:=bK.1 he;cases he;generalize Qm:qW S G=ρ at*;simp only[Vk,af]at BB;obtain⟨⟨⟨⟨o1,o2⟩,o3⟩,o4⟩,o5⟩:=BB;have cons:∀i r,(i,r)∈ρ->rj i ρ=some r/\(i<1000000\/r=some i)/\C.nt<=i:=λi r hi=>by{have:=aC.1 o2 (i,r) hi;simp only[af,Bool.or_eq_true,aD]at this;exact⟨this.1.1,this.1.2.imp (λh=>Nat.le_of_ble_eq_true h) id,Nat.le_of_ble_eq_true this.2⟩};have W0:∀k j,lh ρ k=some j->C.nt<=k->C.nt<=j:=λk j hk hn=>by
   unfold lh at hk;cases hl:rj k ρ with
   |none=>rw[hl]at hk;cases hk;exact hn
   |some r=>rw[hl]at hk;simp only[Option.getD_some]at hk;subst hk;have hm:=vi hl;rw[<-Qm]at hm;obtain⟨q,hq⟩:=tE hm;exact(h.core.inv q j hq).1
  obtain⟨R',k1,k2,k3,k4,k5,k6⟩:=BJ h.core W0 hv;refine⟨R',⟨h.size,h.defers,?_,λt ht=>?_,⟨h.io.1,λk hk=>?_⟩,h.ext.reach k2.1 k2.2,h.gl.dX k2.1⟩,k2.1⟩
  ·have len:xs.length=G.length:=k3;have Ve:∀i r,(i,r)∈ρ->ny C.nt τ ρ i=match r with|some j=>τ j|none=>.slice none 0 0:=λi r hi=>by obtain⟨c1,_,c2⟩:=cons i r hi;unfold ny lh;rw[ao (by omega),c1];cases r<;>rfl
   have Ws:∀k,C.nt<=k->rj k ρ=none->ny C.nt τ ρ k=τ k:=λk hk hl=>by{unfold ny lh;rw[ao (by omega),hl];rfl};have Jn:∀k,k<C.nt->ny C.nt τ ρ k=τ k:=λk hk=>by{unfold ny;rw[ar hk]};have Vf:∀k j,C.nt<=k->lh ρ k=some j->ny C.nt τ ρ k=τ j:=λk j hk hj=>by{unfold ny;rw[ao (by omega),hj]};have MM:∀k,C.nt<=k->lh ρ k=none->ny C.nt τ ρ k=.slice none 0 0:=λk hk hj=>by{unfold ny;rw[ao (by omega),hj]};have Vl:∀p∈G,_:=aC.1 o5;have Vi:∀k j x,(k,.pv)∈G->lh ρ k=some j->S j=(x,.pv)->fU S ws j=(x,.pv):=λk j x hm hn hs=>by{have:=Vl _ hm;simp only[hn]at this;rw[iU (Bp this),hs]};have Vn:∀j x,(S j=(x,.lv)\/(S j=(x,.pv)/\(j,(x,.lv))∈ws))->fU S ws j=(x,.lv):=λj x hs=>by{rcases hs with hs|⟨hs,hm⟩;{rcases k5 j with e|e|⟨e,_⟩;{rw[<-e,hs]};{rw[hs]at e;cases e};{rw[hs]at e;cases e}};{obtain⟨p,hp,_,Iv⟩:=zu (S:=S) hm;rcases k5 j with e|e|⟨_,e⟩;{have:=k6 p hp;rw[<-Iv,<-e,hs]at this;cases this};{rw[hs]at e;cases e};{rw[e,hs]}}};have VW:∀k cs us,S k=(.ag cs,.cl us)->fU S ws k=(.ag cs,.cl us):=λk cs us hs=>by{rcases k5 k with e|e|⟨e,_⟩;{rw[<-e,hs]};{rw[hs]at e;cases e};{rw[hs]at e;cases e}};have key:∀k i g x,G[i]?=some (k,g)->xs[i]?=some x->kA R' w (ny C.nt τ ρ) x g (ny C.nt τ ρ k):=λk i g x hG hx=>by
    have hm:=aO hG;have hf:=k4 i (k,g) x hG hx;unfold Fact at hf;(cases g<;>simp only at hf<;>try(exact hf.elim));case no=>
     rw[Jn k hf.1];exact eY.no hf.2
    case fo i'=>
     obtain⟨hk,rfl,hf⟩:=hf
     have hK:=h.core.key k
     rw[Jn k hk]
     rw[kA.slot (h.core.slt k hk)]at hK
     obtain⟨n1,n2⟩:=Ce (S:=S) hm
     rw[Qm]at n1 n2
     rcases hf with⟨j,hj⟩|⟨t,hj⟩
     {rw[hj]at hK;exact⟨by rw[Ve _ _ (n1 j hj)];exact hK.1,hK.2⟩}
     ·rw[hj]at hK;have hv:τ k=.slice none 0 0:=by
       have:Rep R w (.nl t) (τ k):=kU.rep hK;generalize τ k=v at*;cases this with
       |sc h=>cases h
       |nl=>rfl
      exact⟨by rw[Ve _ _ (n2 t hj)];exact hv,by rw[hv];rfl⟩
    case ptr m o=>
     obtain⟨hk,rfl,hj⟩:=hf
     have hK:=h.core.key k
     rw[Jn k hk]
     rw[kA.slot (h.core.slt k hk),hj]at hK
     have hi:=h.core.inv k m (by rw[hj];exact List.mem_singleton.2 rfl)
     have hl:=Vl _ hm
     simp only[Option.isNone_iff_eq_none]at hl
     obtain⟨b,b1,b2⟩:∃b,τ m=.pointer (some ⟨b,0,none⟩)/\τ k=.pointer (some ⟨b,o,none⟩):=hK
     exact⟨b,by rw[Ws m hi.1 hl];exact b1,b2⟩
    case cl ts=>
     obtain⟨hk,cs,us,b,ys,e,zs,a1,a2,a3,rfl,a5,a6,a7,a8⟩:=hf
     have hl:=Vl _ hm
     simp only[Option.isNone_iff_eq_none]at hl
     have hK:=k1.key k
     rw[VW k cs us a1]at hK
     obtain⟨b',_,_,_,c1,_,_,_,_,c2⟩:=hK
     rw[a2]at c1;cases c1
     refine⟨b,ys,e,zs,by rw[Ws k hk hl];exact a2,a3,rfl,a5,λt ht=>?_,c2⟩
     obtain⟨n1,n2⟩:=FN a1 hm t ht
     rw[Qm]at n1 n2
     cases VG:oY t.1 us with
     |some j=>rw[Ve _ _ (n1 j VG)];exact a7 _ (p9 VG)
     |none=>
      obtain⟨y,hy⟩:=(a8 t ht).resolve_left (by rw[VG];simp);rw[Ve _ _ (n2 VG y hy)];obtain⟨v,hv,_,hr⟩:=a6.get _ _ hy;rw[hv];cases hr with
      |sc h=>cases h
      |nl=>rfl
    case pv=>
     obtain⟨hk,⟨j,hj,hs⟩|⟨hj,t,rfl⟩⟩:=hf
     {have hK:=k1.key j;rw[Vi k j x hm hj hs]at hK;rw[Vf k j hk hj];exact hK}
     {rw[MM k hk hj];exact⟨t,[],rfl,.inl ⟨rfl,rfl⟩⟩}
    case lv=>
     obtain⟨hk,⟨j,hj,hs⟩|⟨hj,t,rfl⟩⟩:=hf
     {have hK:=k1.key j;rw[Vn j x hs]at hK;rw[Vf k j hk hj];exact hK}
     {rw[MM k hk hj];exact⟨t,[],rfl,.inl ⟨rfl,rfl⟩⟩}
   have owner:∀k g,ij (ny C.nt τ ρ) (gN G xs) k=some g->∃(i:Nat)(g0:Gh)(j:Nat),G[i]?=some (k,g0)/\g0.own=true/\lh ρ k=some j/\ij τ (fU S ws) j=some g/\(fU S ws j).2.Ge=false:=λk g hb=>by
    obtain⟨ho,hb⟩:=gE hb;rcases oy (G:=G) (xs:=xs) k with e|⟨i,g0,x,hG,hx,e⟩;{rw[e]at ho;cases ho}
    ·rw[e]at ho;have hm:=aO hG;have hf:=k4 i (k,g0) x hG hx;unfold Fact at hf;(cases g0<;>simp only at hf<;>try(first|exact hf.elim|(cases ho;done)));case cl ts=>
      obtain⟨hk,cs,us,b,ys,e,zs,a1,a2,a3,rfl,a5,a6,a7,a8⟩:=hf
      have hl:=Vl _ hm
      simp only[Option.isNone_iff_eq_none]at hl
      have hn:lh ρ k=some k:=by unfold lh;rw[hl];rfl
      rw[Ws k hk hl]at hb
      exact⟨i,_,k,hG,rfl,hn,ig (by rw[VW k cs us a1];rfl) (by rw[VW k cs us a1];rfl) hb,by rw[VW k cs us a1];rfl⟩
     case pv=>
      obtain⟨hk,⟨j,hj,hs⟩|⟨hj,t,rfl⟩⟩:=hf
      {rw[Vf k j hk hj]at hb;exact⟨i,_,j,hG,rfl,hj,ig (by rw[Vi k j x hm hj hs];rfl) (by rw[Vi k j x hm hj hs];rfl) hb,by rw[Vi k j x hm hj hs];rfl⟩}
      {rw[MM k hk hj]at hb;cases hb}
     case lv=>
      obtain⟨hk,⟨j,hj,hs⟩|⟨hj,t,rfl⟩⟩:=hf
      {rw[Vf k j hk hj]at hb;exact⟨i,_,j,hG,rfl,hj,ig (by rw[Vn j x hs];rfl) (by rw[Vn j x hs];rfl) hb,by rw[Vn j x hs];rfl⟩}
      {rw[MM k hk hj]at hb;cases hb}
   refine⟨λk=>?_,λk k' g hb oa=>?_,λk g hb=>?_,λj k hk=>?_,k1.ux,λk hk=>?_,λk d hk=>?_⟩;{rcases oy (G:=G) (xs:=xs) k with e|⟨i,g,x,hG,hx,e⟩;{rw[e];exact eY.no (τ:=ny C.nt τ ρ) (.dead _)};{rw[e];exact key k i g x hG hx}};{obtain⟨i,g0,j,e1,e2,e3,e4,e5⟩:=owner k g hb;obtain⟨i',g0',j',f1,f2,f3,f4,f5⟩:=owner k' g oa;have:=k1.xq e4 f4;subst this;have:=Dp o3 e1 (by simp only[e2,au];exact e3) f1 (by simp only[f2,au];exact f3);subst this;rw[e1]at f1;cases f1;rfl};{obtain⟨i,g0,j,e1,e2,e3,e4,e5⟩:=owner k g hb;exact k1.dV j g e4};{rcases oy (G:=G) (xs:=xs) j with e|⟨i,g,x,hG,hx,e⟩;{rw[e]at hk;cases hk};{rw[e]at hk;have:=aC.1 (aC.1 o4 _ (aO hG)) k hk;obtain⟨q,hq,OQ⟩:=List.any_eq_true.1 this;simp only[af]at OQ;obtain⟨OQ,W4⟩:=OQ;obtain⟨i',wN⟩:=List.mem_iff_getElem?.1 hq;have gr:i'<xs.length:=by{rw[len];exact(aH.1 wN).1};have A0:xs[i']?=some xs[i']:=aw gr;have Zl:=aB OQ;obtain⟨q1,q2⟩:=q;simp only at Zl W4;subst Zl;have hf:=k4 i' _ _ wN A0;refine⟨?_,?_⟩;{unfold Fact at hf;cases q2<;>simp only at hf<;>first|exact hf.1|exact hf.elim|cases W4};{rw[tX o1 wN A0];intro e;simp only at e;subst e;cases W4}}};{rcases oy (G:=G) (xs:=xs) k with e|⟨i,g,x,hG,hx,e⟩;{rw[e];rfl};{rw[e];have hf:=k4 i (k,g) x hG hx;unfold Fact at hf;cases g<;>simp only at hf<;>first|rfl|exact hf.elim|(exfalso;have:=hf.1;omega)}};{rcases oy (G:=G) (xs:=xs) k with e|⟨i,g,x,hG,hx,e⟩;{rw[e]at hk;cases hk};{rw[e]at hk;simp only at hk;subst hk;have hf:=k4 i _ x hG hx;exact hf.elim}}
  {unfold ny;rw[ar ht];exact h.tmps t ht}
  ·unfold ny;have:=h.io.1;rw[ao (by omega)];unfold lh;cases hl:rj k ρ with
   |none=>simp only[Option.getD_none];exact h.io.2 k hk
   |some r=>have:=(cons k r (vi hl)).2.1.resolve_left (by omega);subst this;simp only[Option.getD_some];exact h.io.2 k hk
 {cases he}
theorem xE:∀{l:List Nat}{S:St},fD C S a w R τ->fD C (Cg l S) a w R τ
 |[],_,h=>h
 |k::r,S,h=>by unfold Cg;split;{rename_i x d hk;exact xE (h.recover hk)};{exact xE h}
theorem xx(h:fD C S a w R τ)(he:lf C.nt G S=some xs):∃R' qH,fD C (gN G xs) a w R' qH/\eZ R w R' w:=by obtain⟨R',h1,h2⟩:=Hf (xE h) he;exact⟨R',_,h1,h2⟩
end
def Mz:MX->Exit
 |.normal=>.normal
 |.exit id=>.exit id
 |.goto l=>.goto l
 |.ret=>.ret
section
variable{C:Ctx}{R:Type}
theorem wX.lf{S:St}{a:Act}{w:World}{G:GL}{xs:List TV}(h:wX C S a w)(he:lf C.nt G S=some xs):wX C (gN G xs) a w:=by obtain⟨R,τ,h⟩:=h;obtain⟨R',qH,h',_⟩:=xx h he;exact⟨R',_,h'⟩
theorem yX{P:Program}{a:Act}{w:World}{Q:Exit->Act->World->Prop}{c:Code}(I:Nat->Nat->Act->World->Prop)(first:c.wp P (λe a w=>match e with|.goto l=>∃n,I n l a w|e=>Q e a w) a w)(pass:∀n l a w,I n l a w->∃rest,findLabel c l=some rest/\rest.wp P (λe a' w'=>match e with|.goto l'=>∃m,m<n/\I m l' a' w'|e=>Q e a' w') a w):(Code.scope c).wp P Q a w:=by
 intro b k cs;have key:∀n l a w,I n l a w->∀rest,findLabel c l=some rest->∃e a' w',Q e a' w'/\Arrives P (lone (b.at a (.code rest::.inScope c::k)) cs w) b k cs e a' w':=by
  intro n;induction n using Nat.strongRecOn with
  |_ n ih=>
   intro l a w hI rest hf;obtain⟨Y1,QP,hp⟩:=pass n l a w hI;rw[hf]at QP;cases QP;obtain⟨e,s9,sH,hq,vn⟩:=hp b (.inScope c::k) cs;cases e with
   |normal=>exact⟨.normal,s9,sH,hq,Steps.trans vn (.one step_inScope)⟩
   |exit id=>exact⟨.exit id,s9,sH,hq,λk' hk=>vn k' (by simp[exitTo,hk])⟩
   |goto l'=>obtain⟨m,gr,hJ⟩:=hq;obtain⟨Cd,T7,_⟩:=pass m l' s9 sH hJ;have hg:gotoIn l' (.inScope c::k)=some (.code Cd::.inScope c::k):=by{simp[gotoIn,T7]};obtain⟨Rc,RJ,Pq,Kr,A5⟩:=ih m gr l' s9 sH hJ Cd T7;exact⟨Rc,RJ,Pq,Kr,.of_steps (vn _ hg) A5⟩
   |ret=>exact⟨_,s9,sH,hq,vn⟩
   |panic ch=>exact⟨_,s9,sH,hq,vn⟩
   |outgrown=>exact⟨_,s9,sH,hq,vn⟩
 obtain⟨e,s9,sH,hq,vn⟩:=first b (.inScope c::k) cs
 cases e with
 |normal=>exact⟨.normal,s9,sH,hq,.head step_scope (Steps.trans vn (.one step_inScope))⟩
 |exit id=>exact⟨.exit id,s9,sH,hq,λk' hk=>.head step_scope (vn k' (by simp[exitTo,hk]))⟩
 |goto l'=>obtain⟨m,hJ⟩:=hq;obtain⟨Cd,T7,_⟩:=pass m l' s9 sH hJ;have hg:gotoIn l' (.inScope c::k)=some (.code Cd::.inScope c::k):=by{simp[gotoIn,T7]};obtain⟨Rc,RJ,Pq,Kr,A5⟩:=key m l' s9 sH hJ Cd T7;exact⟨Rc,RJ,Pq,Kr,.of_steps (.head step_scope (vn _ hg)) A5⟩
 |ret=>exact⟨_,s9,sH,hq,.of_steps (.one step_scope) vn⟩
 |panic ch=>exact⟨_,s9,sH,hq,.of_steps (.one step_scope) vn⟩
 |outgrown=>exact⟨_,s9,sH,hq,.of_steps (.one step_scope) vn⟩
def DU(C:Ctx)(R:Type)(c:Code)(g:Ev R):Prop:=∀{h:Hint}{S:St}{a:Act}{w:World}{K:fQ R}{r:R}{Q:Exit->Act->World->Prop},wX C S a w->g h S K=some r->(∀e S' a' w',wX C S' a' w'->K e S'=some r->Q (Mz e) a' w')->c.wp C.P Q a w
theorem DU.seq{x y:Code}{g:Ev R}{o:Ev R}(hx:DU C R x g)(hy:DU C R y o):DU C R (.seq x y) (Jh C.nt g o o):=by
 intro h S a w K r Q hs he hQ;have plain:∀{h1 h2:Hint},g h1 S (G5 (o h2) K)=some r->(Code.seq x y).wp C.P Q a w:=λhe=>by
  refine wp_seq (hx hs he λe S' a' w' h' hk=>?_);cases e with
  |normal=>exact hy h' hk hQ
  |exit id=>exact hQ (.exit id) S' a' w' h' hk
  |goto l=>exact hQ (.goto l) S' a' w' h' hk
  |ret=>exact hQ .ret S' a' w' h' hk
 (cases h<;>first|exact plain he|skip);rename_i G h1 h2;have he:g h1 S (vW C.nt (o h2) G K)=some r:=he;refine wp_seq (hx hs he λe S' a' w' h' hk=>?_);cases e with
 |normal=>simp only[vW]at hk;split at hk;{rename_i xs hr;exact hy (h'.lf hr) hk hQ};{cases hk}
 |exit id=>exact hQ (.exit id) S' a' w' h' hk
 |goto l=>exact hQ (.goto l) S' a' w' h' hk
 |ret=>exact hQ .ret S' a' w' h' hk
theorem Re(hE:kB C.P C.E)(hF:∀f,gf C.P C.gl f (C.E.fs f))(c:Code):DU C R c (o8 C.P C.E C.nt c)/\(∀l g,wv (R:=R) C.P C.E C.nt c l=some g->∃rest,findLabel c l=some rest/\DU C R rest g)/\∀l,wv (R:=R) C.P C.E C.nt c l=none->findLabel c l=none:=by
 have wG:∀{f:Ev R}{c:Code},∀l g,(fR f).2 l=some g->∃rest,findLabel c l=some rest/\DU C R rest g:=λl g e=>by{cases e};induction c with
 |skip=>exact⟨λhs he hQ=>wp_skip (hQ .normal _ _ _ hs he),wG,λ_ _=>rfl⟩
 |label l=>
  refine⟨λhs he hQ=>wp_label (hQ .normal _ _ _ hs he),λl' g e=>?_,λl' e=>?_⟩
  ·have e:pG l l'=some g:=e;unfold pG at e;cases hb:Nat.beq l l' with
   |true=>rw[hb]at e;cases e;exact⟨.skip,by rw[aB hb];simp[findLabel],λhs he hQ=>wp_skip (hQ .normal _ _ _ hs he)⟩
   |false=>rw[hb]at e;cases e
  ·have e:pG (R:=R) l l'=none:=e;unfold pG at e;cases hb:Nat.beq l l' with
   |true=>rw[hb]at e;cases e
   |false=>have:¬l=l':=λe=>by{rw[e]at hb;simp at hb};simp[findLabel,this]
 |exit id=>exact⟨λhs he hQ=>wp_exit (hQ (.exit id) _ _ _ hs he),wG,λ_ _=>rfl⟩
 |goto l=>exact⟨λhs he hQ=>wp_goto (hQ (.goto l) _ _ _ hs he),wG,λ_ _=>rfl⟩
 |ret=>exact⟨λhs he hQ=>wp_ret (hQ .ret _ _ _ hs he),wG,λ_ _=>rfl⟩
 |region id ops draw=>exact⟨λhs he hQ=>Hh hE hF hs he λS' a' w' h' hk=>hQ .normal S' a' w' h' hk,wG,λ_ _=>rfl⟩
 |seq x y Qk OH=>refine⟨DU.seq Qk.1 OH.1,λl g e=>?_,λl e=>?_⟩;{have e:y5 C.nt (wv C.P C.E C.nt x) (wv C.P C.E C.nt y) (o8 C.P C.E C.nt y) (o8 C.P C.E C.nt y) l=some g:=e;unfold y5 at e;split at e;{rename_i gx ex;cases e;obtain⟨rest,hr,hd⟩:=Qk.2.1 l gx ex;exact⟨.seq rest y,by simp[findLabel,hr],hd.seq OH.1⟩};{rename_i ex;split at e;{rename_i gy ey;cases e;obtain⟨rest,hr,hd⟩:=OH.2.1 l gy ey;exact⟨rest,by simp[findLabel,Qk.2.2 l ex,hr],λhs he hQ=>hd hs he hQ⟩};{cases e}}};{have e:y5 C.nt (wv C.P C.E C.nt x) (wv C.P C.E C.nt y) (o8 C.P C.E C.nt y) (o8 C.P C.E C.nt y) l=none:=e;unfold y5 at e;split at e;{cases e};{rename_i ex;split at e;{cases e};{rename_i ey;simp[findLabel,Qk.2.2 l ex,OH.2.2 l ey]}}}
 |cond o x y Qk OH=>
  refine⟨?_,wG,λ_ _=>rfl⟩;intro h S a w K r Q hs he hQ;have he:(match gR C.E C.nt S 0 o with|some (.b t,.no)=>cond t (o8 C.P C.E C.nt x h.s1 S K) (o8 C.P C.E C.nt y h.s2 S K)|some (.ub e,.no)=>cond e (both (o8 C.P C.E C.nt x h.s1 S K) (o8 C.P C.E C.nt y h.s2 S K)) (o8 C.P C.E C.nt y h.s2 S K)|_=>none)=some r:=he;split at he;{rename_i t ho;have WY:=hs;obtain⟨R0,τ,h0⟩:=WY;have hv:=(fu h0 (Lt.refl S) ho).dN rfl;refine wp_cond_split hv (λe=>?_) (λe=>?_);{subst e;exact Qk.1 hs he hQ};{subst e;exact OH.1 hs he hQ}}
  ·rename_i e ho;have WY:=hs;obtain⟨R0,τ,h0⟩:=WY;obtain⟨b,hv,hb⟩:∃b,a.eval o=.bool b/\(b=true->e=true):=by
    have hv:=fu h0 (Lt.refl S) ho;generalize a.eval o=v at hv;cases hv with
    |sc h=>cases h
    |ub h=>exact⟨_,rfl,h⟩
   refine wp_cond_split hv (λe1=>?_) (λe1=>?_);{rw[hb e1]at he;exact Qk.1 hs (vB.1 he).1 hQ}
   ·cases e with
    |false=>exact OH.1 hs he hQ
    |true=>exact OH.1 hs (vB.1 he).2 hQ
  {cases he}
 |block id x ih=>
  refine⟨?_,wG,λ_ _=>rfl⟩;intro h S a w K r Q hs he hQ;have he:o8 C.P C.E C.nt x h.s1 S (nT id K)=some r:=he;refine wp_block (ih.1 hs he λe S' a' w' h' hk=>?_);cases e with
  |normal=>exact hQ .normal S' a' w' h' hk
  |exit j=>
   simp only[nT]at hk;cases hb:Nat.beq j id with
   |true=>rw[hb]at hk;have:=aB hb;simp only[Mz,Exit.inBlock,this,if_true];exact hQ .normal S' a' w' h' hk
   |false=>rw[hb]at hk;have:j≠id:=λe=>by{rw[e]at hb;simp at hb};simp only[Mz,Exit.inBlock,this,if_false];exact hQ (.exit j) S' a' w' h' hk
  |goto l=>exact hQ (.goto l) S' a' w' h' hk
  |ret=>exact hQ .ret S' a' w' h' hk
 |loop x ih=>
  refine⟨?_,wG,λ_ _=>rfl⟩;intro h S a w K r Q hs he hQ;(cases h<;>try(cases he;done));rename_i G h1;have he:xS C.nt (o8 C.P C.E C.nt x h1) G S K=some r:=he;unfold xS at he;split at he
  ·rename_i xs hr;obtain⟨n,hn⟩:=(xV (λn r=>pX (wW ((r8 C.P C.E x).1 h1) G) (tr:=PD C.nt G) n xs r)).1 he;refine wp_loop_ghost (λn a w=>∃xs,wX C (gN G xs) a w/\oW (RM (o8 C.P C.E C.nt x h1) G) (PD C.nt G) n xs K=some r) n ⟨xs,hs.lf hr,hn⟩ ?_;rintro n a w ⟨xs,hs,hn⟩;cases n with
   |zero=>cases hn
   |succ n=>
    rw[oW]at hn;refine ih.1 hs hn λe S' a' w' h' hk=>?_;cases e with
    |normal=>
     simp only[PD]at hk;split at hk;{rename_i e;cases e};{cases hk}
     ·rename_i ys hr;cases Iu:lf C.nt G S' with
      |none=>rw[Iu]at hr;cases hr
      |some zs=>rw[Iu]at hr;cases hr;exact⟨n,Nat.lt_succ_self n,_,h'.lf Iu,hk⟩
    |exit id=>exact hQ (.exit id) S' a' w' h' hk
    |goto l=>exact hQ (.goto l) S' a' w' h' hk
    |ret=>exact hQ .ret S' a' w' h' hk
  {cases he}
 |rangeFunc _ _ _ _ _ _=>exact⟨λ_ he=>(by cases he),wG,λ_ _=>rfl⟩
 |scope x ih=>
  refine⟨?_,wG,λ_ _=>rfl⟩;intro h S a w K r Q hs he hQ;(cases h<;>try(cases he;done));rename_i ls h1;have he:o8 C.P C.E C.nt x h1 S (mO C.nt (wv C.P C.E C.nt x) ls h1 K)=some r:=he;let F:=wv (R:=R) C.P C.E C.nt x;have hm:=λi=>λn r=>pX (wV (f:=F) (r8 C.P C.E x).2 ls h1) (tr:=GV C.nt ls) (K:=K) n i r;have go:∀{S' a' w'}l,wX C S' a' w'->∀j,GV C.nt ls (.goto l) S'=some (some j)->j.1=l/\∃G,xT l ls=some G/\wX C (gN G j.2) a' w':=by
   intro S' a' w' l h' j hj;simp only[GV]at hj;split at hj
   ·rename_i G hl;cases hr:lf C.nt G S' with
    |none=>rw[hr]at hj;cases hj
    |some ys=>rw[hr]at hj;cases hj;exact⟨rfl,G,hl,h'.lf hr⟩
   {cases hj}
  refine yX (λn l a w=>∃xs G,xT l ls=some G/\wX C (gN G xs) a w/\oW (Il F ls h1) (GV C.nt ls) n (l,xs) K=some r) ?_ ?_
  ·refine ih.1 hs he λe S' a' w' h' hk=>?_;cases e with
   |goto l=>simp only[mO,yu]at hk;split at hk;{rename_i e;simp[GV]at e};{cases hk};{rename_i j hj;obtain⟨e1,G,hG,hS⟩:=go l h' j hj;obtain⟨n,hn⟩:=(xV (hm j)).1 hk;exact⟨n,j.2,G,hG,hS,by rw[<-e1];exact hn⟩}
   |normal=>exact hQ .normal S' a' w' h' hk
   |exit id=>exact hQ (.exit id) S' a' w' h' hk
   |ret=>exact hQ .ret S' a' w' h' hk
  ·rintro n l a w ⟨xs,G,hG,hS,hn⟩;cases n with
   |zero=>cases hn
   |succ n=>
    rw[oW]at hn;simp only[Il,hG]at hn;cases hF:F l with
    |none=>rw[hF]at hn;cases hn
    |some g=>
     rw[hF]at hn;obtain⟨rest,hr,hd⟩:=ih.2.1 l g hF;refine⟨rest,hr,hd hS hn λe S' a' w' h' hk=>?_⟩;cases e with
     |goto l'=>split at hk;{rename_i e;simp[GV]at e};{cases hk};{rename_i j hj;obtain⟨e1,G',hG',Sm⟩:=go l' h' j hj;exact⟨n,Nat.lt_succ_self n,j.2,G',hG',Sm,by rw[<-e1];exact hk⟩}
     |normal=>exact hQ .normal S' a' w' h' hk
     |exit id=>exact hQ (.exit id) S' a' w' h' hk
     |ret=>exact hQ .ret S' a' w' h' hk
 |refuse _=>exact⟨λ_ he=>(by cases he),wG,λ_ _=>rfl⟩
theorem Rf(hE:kB C.P C.E)(hF:∀f,gf C.P C.gl f (C.E.fs f))(c:Code):∀{h:Hint}{S:St}{a:Act}{w:World}{K:fQ R}{r:R}{Q:Exit->Act->World->Prop},wX C S a w->o8 C.P C.E C.nt c h S K=some r->(∀e S' a' w',wX C S' a' w'->K e S'=some r->Q (Mz e) a' w')->c.wp C.P Q a w:=λhs he hQ=>(Re hE hF c).1 hs he hQ
end
def mL(xs:List Value)(k:Nat):Value:=if k<1000000 then xs.getD k undef else xs.getD (k -1000000) undef
theorem yi{n:Nat}{ms:List Md}{wk:List TV}{k:Nat}(h:k<n):Kk n ms wk k=match ms.getD k .pl with|.pl=>(wk.getD k .dead,.no)|.rf=>(.pt,.ptr (1000000+k) 0)|_=>(.pt,.fo (1000000+k)):=by have:Nat.blt k n=true:=Nat.ble_eq_true_of_le h;unfold Kk;simp only[this,au];rfl
theorem yj{n:Nat}{ms:List Md}{wk:List TV}{k:Nat}(hn:n<=1000000)(h:k<n):Kk n ms wk (1000000+k)=match ms.getD k .pl with|.pl=>(.dead,.no)|.rf=>(wk.getD k .dead,.cl [])|_=>(wk.getD k .dead,.pv):=by
 have h1:Nat.blt (1000000+k) n=false:=by
  cases hb:Nat.blt (1000000+k) n with
  |false=>rfl
  |true=>exact absurd (Nat.le_of_ble_eq_true hb:1000000+k+1<=n) (by omega)
 have h2:Nat.ble 1000000 (1000000+k)=true:=Nat.ble_eq_true_of_le (by omega);have h3:Nat.blt (1000000+k) (1000000+n)=true:=Nat.ble_eq_true_of_le (by omega);unfold Kk;simp only[h1,h2,h3,au,aj,aX,Nat.add_sub_cancel_left];rfl
theorem tV{n:Nat}{ms:List Md}{wk:List TV}{k:Nat}(h1:n<=k)(h2:k<1000000\/1000000+n<=k):Kk n ms wk k=(.dead,.no):=by
 have e1:Nat.blt k n=false:=by
  cases hb:Nat.blt k n with
  |false=>rfl
  |true=>exact absurd (Nat.le_of_ble_eq_true hb:k+1<=n) (by omega)
 have e2:(Nat.ble 1000000 k&&Nat.blt k (1000000+n))=false:=by
  cases hb:(Nat.ble 1000000 k&&Nat.blt k (1000000+n))with
  |false=>rfl
  |true=>simp only[af]at hb;have a:=Nat.le_of_ble_eq_true hb.1;have b:k+1<=1000000+n:=Nat.le_of_ble_eq_true hb.2;omega
 unfold Kk;simp only[e1,e2,aj]
theorem rz{n:Nat}(hn:n<=1000000)(k:Nat):k<n\/(∃j,j<n/\k=1000000+j)\/(n<=k/\(k<1000000\/1000000+n<=k)):=by by_cases h1:k<n;{exact .inl h1};{by_cases h2:k<1000000\/1000000+n<=k;{exact .inr (.inr ⟨by omega,h2⟩)};{exact .inr (.inl ⟨k -1000000,by omega,by omega⟩)}}
theorem LL{P:Program}{E:cH}{gl:Nat->Option (List Value)}{nt:Nat}{w:World}{R:Reach}{ins:List TV}{xs:List Value}{ms:List Md}(hn:xs.length<=nt)(Xb:nt<=1000000)(hR:∀b o,R b o->b<w.heap.size)(Mg:GlOK gl R w)(ha:Bt R w ms ins xs)(hs:RW (· ≠.pl) ms xs):fD ⟨P,E,nt,w,R,Bx ms xs,mL xs,gl⟩ (Kk xs.length ms ins) {tmps:=(⟨xs⟩:Array Value)++Array.replicate (nt -xs.length) undef,defers:=[]} w R (mL xs):=by
 have hx:xs.length<=1000000:=Nat.le_trans hn Xb;have arg:∀k,k<xs.length->GO R w (ms.getD k .pl) (ins.getD k .dead) (xs.getD k undef):=λk hk=>by
  have h1:xs[k]?=some xs[k]:=aw hk;have h2:ins[k]?=some (ins[k]'(by rw[ha.1];exact hk)):=aw _
  have:=ha.2 k _ _ h2 h1;rw[ai,ai,ai,h1,h2]at*;simpa using this
 have t1:∀k,k<xs.length->mL xs k=xs.getD k undef:=λk hk=>by{unfold mL;rw[ar (by omega)]};have t2:∀k,mL xs (1000000+k)=xs.getD k undef:=λk=>by{unfold mL;rw[ao (by omega),Nat.add_sub_cancel_left]};have own:∀k,(Kk xs.length ms ins k).2.own=true->∃j,j<xs.length/\k=1000000+j/\ms.getD j .pl≠.pl:=λk ho=>by{rcases rz hx k with h|⟨j,hj,rfl⟩|⟨h1,h2⟩;{rw[yi h]at ho;cases hm:ms.getD k .pl<;>rw[hm]at ho<;>cases ho};{refine⟨j,hj,rfl,λhm=>?_⟩;rw[yj hx hj,hm]at ho;cases ho};{rw[tV h1 h2]at ho;cases ho}};have val:∀k,k<xs.length->xs[k]?=some (xs.getD k undef):=λk hk=>by{rw[ai,aw hk];rfl};refine⟨by simp;omega,rfl,⟨λk=>?_,λk k' g hb oa=>?_,λk g hb=>?_,λj k hk=>?_,hR,λk hk=>?_,λk d hk=>?_⟩,λt ht=>?_,⟨Xb,λk _=>rfl⟩,Ext.refl _ _ _,Mg⟩;{rcases rz hx k with h|⟨j,hj,rfl⟩|⟨h1,h2⟩;{have hA:=arg k h;rw[yi h,t1 k h];cases hm:ms.getD k .pl<;>rw[hm]at hA;{exact eY.no (τ:=mL xs) hA};{obtain⟨b,cs,e,zs,e1,_⟩:=hA;exact⟨b,by rw[t2,e1],e1⟩};all_goals exact⟨(t2 k).symm,fX.one hA⟩};{have hA:=arg j hj;rw[yj hx hj,t2];cases hm:ms.getD j .pl<;>rw[hm]at hA;{exact eY.no (τ:=mL xs) (.dead _)};{obtain⟨b,cs,e,zs,e1,e2,e3,e4,e5,e6⟩:=hA;exact⟨b,cs,e,zs,e1,e2,e3,e4,by simp,e6⟩};all_goals exact hA};{rw[tV h1 h2];exact eY.no (τ:=mL xs) (.dead _)}};{obtain⟨o1,b1⟩:=gE hb;obtain⟨o2,b2⟩:=gE oa;obtain⟨j,hj,rfl,m1⟩:=own k o1;obtain⟨j',vX,rfl,m2⟩:=own k' o2;rw[t2]at b1 b2;rw[hs j j' _ _ g m1 m2 (val j hj) (val j' vX) b1 b2]};{obtain⟨o1,b1⟩:=gE hb;obtain⟨j,hj,rfl,m1⟩:=own k o1;rw[t2]at b1;exact .inl ⟨j,_,m1,val j hj,b1⟩};{rcases rz hx j with h|⟨i,hi,rfl⟩|⟨h1,h2⟩;{rw[yi h]at hk;have key:ms.getD j .pl≠.pl->k=1000000+j->nt<=k/\(Kk xs.length ms ins k).2≠.no:=λhm e=>by{subst e;refine⟨by omega,?_⟩;rw[yj hx h];cases HP:ms.getD j .pl<;>first|exact(hm HP).elim|simp};cases hm:ms.getD j .pl<;>rw[hm]at hk key<;>simp only[Gh.dt,List.mem_singleton,List.not_mem_nil]at hk;all_goals exact key (by simp) hk};{rw[yj hx hi]at hk;cases hm:ms.getD i .pl<;>rw[hm]at hk<;>simp[Gh.dt]at hk};{rw[tV h1 h2]at hk;cases hk}};{rcases rz hx k with h|⟨j,hj,rfl⟩|⟨h1,h2⟩;{rw[yi h];cases ms.getD k .pl<;>rfl};{have:1000000+j<nt:=hk;omega};{rw[tV h1 h2];rfl}};{rcases rz hx k with h|⟨j,hj,rfl⟩|⟨h1,h2⟩;{rw[yi h]at hk;cases hm:ms.getD k .pl<;>rw[hm]at hk<;>cases hk};{rw[yj hx hj]at hk;cases hm:ms.getD j .pl<;>rw[hm]at hk<;>cases hk};{rw[tV h1 h2]at hk;cases hk}};{have ht:t<nt:=ht;unfold mL;rw[ar (by omega)];simp only[Array.getD_eq_getD_getElem?,Array.getElem?_append,List.size_toArray];by_cases h:t<xs.length;{simp[h,ai]};{have Vv:t -xs.length<nt -xs.length:=by{omega};rw[ao h,ai,List.getElem?_eq_none (by omega)];simp[Vv]}}
def Ez(tmps:Array Value):ResultVar->Sem Value
 |.tmp t=>pure (tmps.getD t undef)
 |.cell a t=>do loadVar t (<-asAddr (tmps.getD a undef))
theorem vQ{P:Program}{w:World}{fn:Func}{tmps:Array Value}{vs:List Value}(h:(fn.results.toList.mapM (Ez tmps)).run P w=.ok vs w):(results fn tmps).run P w=.ok (if vs.length=1 then vs.headD undef else .tuple ⟨vs⟩) w:=by
 have e:results fn tmps=(do
   let vs<-fn.results.mapM (Ez tmps)
   pure (if h:vs.size=1 then vs[0]else .tuple vs)):=by
  congr 2
 rw[e,Array.mapM_eq_mapM_toList];simp only[Sem.run_bind,Sem.run_map,h];match vs with
 |[]=>simp
 |[x]=>simp
 |_::_::_=>simp
section
variable{C:Ctx}{a:Act}{w:World}{τ:Nat->Value}
theorem vz{own:List Nat}:∀{rs:List ResultVar}{i:Nat}{S S':St}{xs:List TV}{R:Reach},fD C S a w R τ->yD C.P C.nt own i rs S=some (xs,S')->
  ∃R' vs,fD C S' a w R' τ/\eZ R w R' w/\(rs.mapM (Ez a.tmps)).run C.P w=.ok vs w/\xs.length=rs.length/\vs.length=rs.length/\∀(q:Nat)(r:ResultVar)(x:TV)(v:Value),rs[q]?=some r->xs[q]?=some x->vs[q]?=some v->match r with|.tmp t=>v=a.tmps.getD t undef|.cell _ _=>Rep R' w x v/\(i+q)∉own
 |[],i,S,S',xs,R,h,he=>by cases he;exact⟨R,[],h,eZ.refl _ _,rfl,rfl,rfl,by simp⟩
 |.tmp t::rs,i,S,S',xs,R,h,he=>by simp only[yD]at he;split at he;{rename_i L8 S'' h1;cases he;obtain⟨R',vs,k1,k2,k3,k4,k5,k6⟩:=vz h h1;refine⟨R',a.tmps.getD t undef::vs,k1,k2,?_,by simp[k4],by simp[k5],λq r x v hr hx hv=>?_⟩;{simp_all[Ez]};{grind}};{cases he}
 |.cell b t::rs,i,S,S',xs,R,h,he=>by
  obtain⟨h0,he⟩:=bK.1 he;simp only[af]at h0;have hb:b<C.nt:=Nat.le_of_ble_eq_true h0.1;split at he
  ·rename_i m o n agg hS hs;obtain⟨h1,he⟩:=bK.1 he;have h1:agg=true\/n=1:=by{simp_all};split at he
   ·rename_i cs ts hm;split at he
    ·rename_i Bl ws hf;split at he
     ·rename_i x hp;split at he
      ·rename_i L8 S'' W1;cases he;obtain⟨bb,ys,e,c1,c2,c3,c4,c5,c6,_⟩:=qN h (Lt.refl S) hm;obtain⟨R1,f1,f2,f3,f4,_⟩:=pY h.core (Lt.refl S).q c3 (λt ht=>⟨(c6 t ht).1,c4 t ht⟩) hf;have OO:=wA h hb;rw[hS]at OO;obtain⟨b',p1,hv⟩:∃b',τ m=.pointer (some ⟨b',0,none⟩)/\a.tmps.getD b undef=.pointer (some ⟨b',o,none⟩):=OO;rw[c1]at p1;cases p1;obtain⟨inf,hi,rfl,ha⟩:=gS hs;obtain⟨hlen,lU⟩:=qZ f3 hp h1;have hc:∀j y,((ys.drop o).take inf.size)[j]?=some y->w.cell? ⟨bb,o+j,none⟩=some y:=λj y hj=>by{rw[aZ]at hj;split at hj;{rw[List.getElem?_drop]at hj;simp only[World.cell?,c2];simpa using hj};{cases hj}};obtain⟨R2,vs,k1,k2,k3,k4,k5,k6⟩:=vz (h.fz f1 f2) W1;refine⟨R2,(if agg then .agg ⟨(ys.drop o).take inf.size⟩else((ys.drop o).take inf.size).headD undef)::vs,k1,f2.1.trans k2,?_,by simp[k4],by simp[k5],λq r x' v hr hx zR=>?_⟩;{simp only[List.mapM_cons,Ez,hv,asAddr,Sem.run_bind,Sem.run_pure,Result.andThen_ok,kj hi ha h1 hlen hc,k3]}
       ·cases q with
        |zero=>cases hr;cases hx;cases zR;exact⟨(AM lU).mono k2,by simpa using h0.2⟩
        |succ q=>have:=k6 q r x' v (by simpa using hr) (by simpa using hx) (by simpa using zR);rwa[show i+1+q=i+(q+1) by omega]at this
      {cases he}
     {cases he}
    {cases he}
   {cases he}
  {cases he}
end
theorem jf.of{R:Reach}{w:World}:∀{xs:List TV}{ys:List Value},xs.length=ys.length->(∀(i:Nat)(x:TV)(y:Value),xs[i]?=some x->ys[i]?=some y->Rep R w x y)->jf R w xs ys
 |[],[],_,_=>.nil
 |x::xs,y::ys,h,k=>.cons (k 0 x y rfl rfl) (jf.of (by simpa using h) λi a b ha hb=>k (i+1) a b (by simpa using ha) (by simpa using hb))
 |[],_::_,h,_=>by simp at h
 |_::_,[],h,_=>by simp at h
theorem xC{own:List Nat}:∀{rs:List ResultVar}{i q t:Nat},rs[q]?=some (.tmp t)->(own.contains (i+q)=false->(t,.no)∈EA own i rs)/\(own.contains (i+q)=true->(t,.fo (900000+(i+q)))∈EA own i rs/\(900000+(i+q),.pv)∈EA own i rs)
 |r::rs,i,0,t,h=>by cases h;refine⟨λh=>?_,λh=>?_⟩<;>simp only[Nat.add_zero]at h⊢<;>simp only[EA,h,au,aj];{exact List.mem_append_left _ (List.mem_singleton.2 rfl)};{exact⟨List.mem_append_left _ (List.mem_cons_self ..),List.mem_append_left _ (List.mem_cons_of_mem _ (List.mem_singleton.2 rfl))⟩}
 |r::rs,i,q+1,t,h=>by
  obtain⟨h1,h2⟩:=xC (own:=own) (rs:=rs) (i:=i+1) (q:=q) (t:=t) (by simpa using h);rw[show i+1+q=i+(q+1) by omega]at h1 h2;cases r with
  |tmp u=>exact⟨λh=>List.mem_append_right _ (h1 h),λh=>⟨List.mem_append_right _ (h2 h).1,List.mem_append_right _ (h2 h).2⟩⟩
  |cell u v=>exact⟨h1,h2⟩
theorem Ap:∀{ms:List Md}{k q:Nat},(ms[q]?=some .rf->(1000000+(k+q),.cl [])∈qF k ms)/\((ms[q]?=some .sl\/ms[q]?=some .sm)->(1000000+(k+q),.pv)∈qF k ms)
 |[],k,q=>by simp
 |m::ms,k,0=>by refine⟨λh=>?_,λh=>?_⟩;{cases h;exact List.mem_cons_self ..};{rcases h with h|h<;>cases h<;>exact List.mem_cons_self ..}
 |m::ms,k,q+1=>by obtain⟨h1,h2⟩:=Ap (ms:=ms) (k:=k+1) (q:=q);rw[show k+1+q=k+(q+1) by omega]at h1 h2;refine⟨λh=>?_,λh=>?_⟩;{have:=h1 (by simpa using h);cases m<;>first|exact List.mem_cons_of_mem _ this|exact this};{have:=h2 (by simpa using h);cases m<;>first|exact List.mem_cons_of_mem _ this|exact this}
theorem xA{own:List Nat}{H:St}:∀{rs:List ResultVar}{i:Nat}{xs:List TV},xs.length=rs.length->(uT own H i rs xs).length=rs.length
 |[],_,_,_=>by simp[uT]
 |.tmp _::rs,i,x::xs,h=>by simp[uT,xA (rs:=rs) (i:=i+1) (xs:=xs) (by simpa using h)]
 |.cell _ _::rs,i,x::xs,h=>by simp[uT,xA (rs:=rs) (i:=i+1) (xs:=xs) (by simpa using h)]
 |_::_,_,[],h=>by simp at h
theorem xB{own:List Nat}{H:St}:∀{rs:List ResultVar}{i q:Nat}{xs:List TV}{r:ResultVar}{x:TV},rs[q]?=some r->xs[q]?=some x->(uT own H i rs xs)[q]?=some (match r with|.tmp t=>cond (own.contains (i+q)) (H (900000+(i+q))).1 (H t).1|.cell _ _=>x)
 |r::rs,i,0,x::xs,_,_,h1,h2=>by cases h1;cases h2;cases r<;>simp[uT]
 |r::rs,i,q+1,x::xs,r',x',h1,h2=>by have:=xB (own:=own) (H:=H) (rs:=rs) (i:=i+1) (q:=q) (xs:=xs) (r:=r') (x:=x') (by simpa using h1) (by simpa using h2);rw[show i+1+q=i+(q+1) by omega]at this;cases r<;>simp only[uT,List.getElem?_cons_succ]<;>exact this
 |[],_,_,_,_,_,h,_=>by simp at h
 |_::_,_,_,[],_,_,_,h=>by simp at h
def o7(H:St):Nat->List Md->List TV->List TV
 |k,.rf::ms,_::ins=>(H (1000000+k)).1::o7 H (k+1) ms ins
 |k,.sl::ms,_::ins=>(H (1000000+k)).1::o7 H (k+1) ms ins
 |k,_::ms,y::ins=>y::o7 H (k+1) ms ins
 |_,_,_=>[]
theorem yM{H:St}:∀{ms:List Md}{k:Nat}{ins:List TV},ms.length<=ins.length->nJ ms ins (uu H k ms)=some (o7 H k ms ins)
 |[],k,ins,_=>by cases ins<;>simp[nJ,uu,o7,fV]
 |m::ms,k,y::ins,h=>by have:=yM (H:=H) (ms:=ms) (k:=k+1) (ins:=ins) (by simpa using h);cases m<;>simp[nJ,uu,o7,this]
 |_::_,_,[],h=>by simp at h
theorem An{H:St}:∀{ms:List Md}{k q:Nat}{ins:List TV}{y:TV},(o7 H k ms ins)[q]?=some y->(ms.getD q .pl=.rf\/ms.getD q .pl=.sl->y=(H (1000000+(k+q))).1)/\(ms.getD q .pl=.sm->ins[q]?=some y)/\q<ms.length
 |m::ms,k,0,x::ins,y,h=>by cases m<;>simp only[o7,List.getElem?_cons_zero,aM]at h<;>subst h<;>simp
 |m::ms,k,q+1,x::ins,y,h=>by have h':(o7 H (k+1) ms ins)[q]?=some y:=by{cases m<;>simpa[o7]using h};obtain⟨h1,h2,h3⟩:=An h';rw[show k+1+q=k+(q+1) by omega]at h1;exact⟨h1,h2,by simp;omega⟩
 |[],k,q,ins,y,h=>by cases ins<;>simp[o7]at h
 |m::_,_,_,[],_,h=>by cases m<;>simp[o7]at h
theorem zK{H:St}:∀{ms:List Md}{k q:Nat}{ins:List TV}{y:TV},rp H k ms=nV ms ins->ms.length<=ins.length->ms[q]?=some .sm->ins[q]?=some y->y=(H (1000000+(k+q))).1
 |m::ms,k,0,x::ins,y,h,_,h1,h2=>by cases h1;cases h2;simp only[rp,nV,bt]at h;exact h.1.symm
 |m::ms,k,q+1,x::ins,y,h,hl,h1,h2=>by have h':rp H (k+1) ms=nV ms ins:=by{cases m<;>simp only[rp,nV,bt]at h<;>first|exact h|exact h.2};have:=zK h' (by simpa using hl) (by simpa using h1) (by simpa using h2);rwa[show k+1+q=k+(q+1) by omega]at this
 |[],_,_,_,_,_,_,h,_=>by simp at h
 |_::_,_,_,[],_,_,h,_,_=>by simp at h
theorem xY{H:St}:∀{ms:List Md}{k:Nat}{ins:List TV},ms.length<=ins.length->(rp H k ms).length=(nV ms ins).length
 |[],_,ins,_=>by cases ins<;>rfl
 |m::ms,k,x::ins,h=>by have:=xY (H:=H) (ms:=ms) (k:=k+1) (ins:=ins) (by simpa using h);cases m<;>simp[rp,nV,this]
 |_::_,_,[],h=>by simp at h
theorem uB{nt:Nat}{S:St}{G:GL}{ρ:List (Nat×Option Nat)}:∀{l:GL}{xs:List TV}{ws:List (Nat×Cell)},vH nt S G ρ l=some (xs,ws)->xs.length=l.length
 |[],_,_,h=>by cases h;rfl
 |p::l,xs,ws,h=>by simp only[vH]at h;split at h;{split at h;{rename_i h2;cases h;simp[uB h2]};{cases h}};{cases h}
theorem uC{nt:Nat}{S:St}{G:GL}{ρ:List (Nat×Option Nat)}:∀{l:GL}{xs:List TV}{ws:List (Nat×Cell)}{i:Nat}{p:Nat×Gh}{x:TV},vH nt S G ρ l=some (xs,ws)->l[i]?=some p->xs[i]?=some x->∃us,Ea nt S G ρ p=some (x,us)
 |p::l,xs,ws,i,p',x',h,h1,h2=>by
  simp only[vH]at h;split at h
  ·rename_i hv;split at h
   ·rename_i h3;cases h;cases i with
    |zero=>cases h1;cases h2;exact⟨_,hv⟩
    |succ i=>exact uC h3 (by simpa using h1) (by simpa using h2)
   {cases h}
  {cases h}
 |[],_,_,_,_,_,_,h,_=>by simp at h
theorem xy{nt:Nat}{G:GL}{S:St}{xs:List TV}(h:lf nt G S=some xs){k:Nat}{g:Gh}(hm:(k,g)∈G):∃x,gN G xs k=(x,g)/\(g=.no->k<nt)/\∀i,g=.fo i->k<nt/\x=.pt:=by unfold lf xz at h;split at h;{rename_i hv;obtain⟨BB,he⟩:=bK.1 h;cases he;simp only[Vk,af]at BB;obtain⟨i,hi⟩:=List.mem_iff_getElem?.1 hm;have gr:i<xs.length:=by{rw[uB hv];exact(aH.1 hi).1};have hx:xs[i]?=some xs[i]:=aw gr;obtain⟨us,hu⟩:=uC hv hi hx;refine⟨_,tX BB.1.1.1.1 hi hx,λe=>?_,λj e=>?_⟩;{subst e;simp only[Ea]at hu;exact Nat.le_of_ble_eq_true (bK.1 hu).1};{subst e;simp only[Ea]at hu;obtain⟨h1,h2⟩:=bK.1 hu;refine⟨Nat.le_of_ble_eq_true h1,?_⟩;split at h2;{simp only[aM,Prod.mk.injEq]at h2;exact h2.1.symm};{simp only[aM,Prod.mk.injEq]at h2;exact h2.1.symm};{cases h2}}};{cases h}
section
variable{P:Program}{E:cH}{gl:Nat->Option (List Value)}{nt:Nat}{ms:List Md}{w w0:World}{R0 R2:Reach}{ins outs:List TV}{xs:List Value}{H:St}{a:Act}{DV:Nat->Value}
theorem xZ(hs:fD ⟨P,E,nt,w0,R0,Bx ms xs,mL xs,gl⟩ H a w R2 DV)(hG:∀p∈qF 0 ms,∃x,H p.1=(x,p.2)){q:Nat}{v:Value}(hm:(ms.getD q .pl).HB)(hv:xs[q]?=some v):∃x g,H (1000000+q)=(x,g)/\(ms.getD q .pl=.rf->g=.cl [])/\(ms.getD q .pl≠.rf->g=.pv)/\v=DV (1000000+q):=by
 have QF:ms[q]?=some (ms.getD q .pl):=by
  cases e:ms[q]? with
  |none=>rw[ai,e]at hm;exact(hm.1 rfl).elim
  |some m=>rw[ai,e];rfl
 have zR:v=DV (1000000+q):=by{have:DV (1000000+q)=mL xs (1000000+q):=hs.io.2 _ (Nat.le_add_right _ _);rw[this];unfold mL;rw[ao (by omega),Nat.add_sub_cancel_left,ai,hv];rfl};obtain⟨g1,g2⟩:=Ap (ms:=ms) (k:=0) (q:=q);rw[Nat.zero_add]at g1 g2;cases e:ms.getD q .pl<;>rw[e]at hm QF;{exact(hm.1 rfl).elim};{obtain⟨x,c1⟩:=hG _ (g1 QF);exact⟨x,_,c1,λ_=>rfl,λh=>(h rfl).elim,zR⟩};{obtain⟨x,c1⟩:=hG _ (g2 (.inl QF));exact⟨x,_,c1,λh=>by(try cases h),λ_=>rfl,zR⟩};{obtain⟨x,c1⟩:=hG _ (g2 (.inr QF));exact⟨x,_,c1,λh=>by(try cases h),λ_=>rfl,zR⟩};{exact(hm.2 rfl).elim}
theorem DH(hs:fD ⟨P,E,nt,w0,R0,Bx ms xs,mL xs,gl⟩ H a w R2 DV)(hG:∀p∈qF 0 ms,∃x,H p.1=(x,p.2))(EZ:ms.length<=ins.length)(e2:rp H 0 ms=nV ms ins){q:Nat}{y:TV}{v:Value}(hy:(o7 H 0 ms ins)[q]?=some y)(hv:xs[q]?=some v):L7 R2 w (ms.getD q .pl) y v:=by obtain⟨y1,y2,y3⟩:=An hy;rw[Nat.zero_add]at y1;by_cases hm:(ms.getD q .pl).HB;{obtain⟨x,g,c1,c2,c3,c4⟩:=xZ hs hG hm hv;have hK:=hs.core.key (1000000+q);rw[c1]at hK;cases e:ms.getD q .pl<;>rw[e]at hm;{exact(hm.1 rfl).elim};{have DX:=y1 (.inl e);rw[c1]at DX;have:=c2 e;subst this;obtain⟨b,cs,el,zs,p1,p2,p3,p4,p5,p6⟩:=hK;exact⟨b,cs,el,zs,by rw[c4];exact p1,p2,by rw[DX];exact p3,p4,by simp,p6⟩};{have DX:=y1 (.inr e);rw[c1]at DX;have:=c3 (by rw[e];simp);subst this;rw[DX,c4];exact hK};{have QF:ms[q]?=some .sm:=by{rw[ai,aw y3]at e;rw[aw y3];exact congrArg some e};have DX:=zK e2 EZ QF (y2 e);rw[Nat.zero_add,c1]at DX;have:=c3 (by rw[e];simp);subst this;rw[DX,c4];exact hK};{exact(hm.2 rfl).elim}};{cases e:ms.getD q .pl<;>rw[e]at hm<;>first|trivial|exact(hm ⟨by simp,by simp⟩).elim}
theorem CC{q:Nat}{g:Gh}(c2:ms.getD q .pl=.rf->g=.cl [])(c3:ms.getD q .pl≠.rf->g=.pv):g.own=true/\g.Gd=false:=by by_cases e:ms.getD q .pl=.rf;{rw[c2 e];exact⟨rfl,rfl⟩};{rw[c3 e];exact⟨rfl,rfl⟩}
end
theorem He{nt:Nat}{G:GL}{S:St}{xs:List TV}(h:lf nt G S=some xs){k m o:Nat}(hm:(k,.ptr m o)∈G):(gN G xs k).1=.pt:=by unfold lf xz at h;split at h;{rename_i hv;obtain⟨BB,he⟩:=bK.1 h;cases he;simp only[Vk,af]at BB;obtain⟨i,hi⟩:=List.mem_iff_getElem?.1 hm;have gr:i<xs.length:=by{rw[uB hv];exact(aH.1 hi).1};have hx:xs[i]?=some xs[i]:=aw gr;obtain⟨us,hu⟩:=uC hv hi hx;rw[tX BB.1.1.1.1 hi hx];simp only[Ea]at hu;obtain⟨_,h2⟩:=bK.1 hu;split at h2;{obtain⟨_,h3⟩:=bK.1 h2;simp only[aM,Prod.mk.injEq]at h3;exact h3.1.symm};{cases h2}};{cases h}
theorem Ri{P:Program}{E:cH}{gl:Nat->Option (List Value)}{fn:Func}{sg:ib}{w w0:World}{R0:Reach}{ins outs:List TV}{xs:List Value}{S:St}{a:Act}(hlen:ins.length=xs.length)(hp:xs.length=fn.params.size)(oh:Dd fn sg=true)(h:wX ⟨P,E,fn.ntmps,w0,R0,Bx sg.md xs,mL xs,gl⟩ S a w)(ho:Hl fn sg=none)(he:Fa P fn.ntmps fn sg S=some (outs++nV sg.md ins)):a.defers=[]/\∃x R' pd ys,(results fn a.tmps).run P w=.ok x w/\Ext w0 R0 (Bx sg.md xs) w R'/\(∀b o,R' b o->b<w.heap.size)/\Bs sg R' w (λb=>Bx sg.md xs b\/w0.heap.size<=b) ins xs outs x pd ys:=by
 simp only[Dd,af]at oh;obtain⟨⟨⟨⟨⟨⟨⟨b1,b2⟩,b3⟩,b4⟩,b5⟩,b6⟩,b7⟩,b8⟩:=oh;have b1:fn.ntmps<900000:=Nat.le_of_ble_eq_true b1;have b2:=Nat.le_of_ble_eq_true b2;have b3:=Nat.le_of_ble_eq_true b3;have b4:=aB b4;have b5:fn.results.size<1000:=Nat.le_of_ble_eq_true b5;have EZ:sg.md.length<=ins.length:=by{omega};rw[ho,Option.isSome_none,Bool.false_or]at b6;have blt:∀q∈sg.own,q<sg.jd:=λq hq=>Nat.le_of_ble_eq_true (aC.1 b6 q hq);have bs:∀q∈sg.own,Nat.blt q 1000=true:=λq hq=>Nat.ble_eq_true_of_le (show q+1<=1000 by have:=blt q hq;omega);have bsm:mN sg.own=true:=aC.2 bs;have oV:∀q∈sg.own,∀l,qp l q=l[q]?:=λq hq l=>by{unfold qp;rw[bs q hq,au]};have oT:∀q∈sg.own,∀l,sf l q=l[q]?:=λq hq l=>by{unfold sf;rw[bs q hq,au]};obtain⟨R,τ,h⟩:=h;simp only[Fa,ho]at he;split at he
 ·rename_i cx S1 hc;split at he
  ·rename_i ys hr;obtain⟨R1,vs,k1,k2,k3,k4,k5,k6⟩:=vz h hc;obtain⟨R2,DV,hs,Kb⟩:=xx k1 hr;have he:=Option.some.inj he;have tW:=λ{k g}=>xy hr (k:=k) (g:=g);generalize hH:gN (KZ fn sg) ys=H at*;have hl:=xY (H:=H) (ms:=sg.md) (k:=0) EZ;obtain⟨e1,e2⟩:=List.append_inj' he hl;have Sc:(uT sg.own H 0 fn.results.toList cx).length=sg.jd:=by{rw[xA k4,b4,Array.length_toList]};have TK:vs.length=sg.jd:=by{rw[k5,b4,Array.length_toList]};have OL:outs.take sg.jd=uT sg.own H 0 fn.results.toList cx:=by{rw[<-e1,<-Sc,List.take_left]};have T8:outs.drop sg.jd=uu H 0 sg.md:=by{rw[<-e1,<-Sc,List.drop_left]};have O0:∀q,sg.own.contains q=true↔q∈sg.own:=λq=>by{simp};have res:∀q v,vs[q]?=some v->∃(r:ResultVar)(x:TV),fn.results.toList[q]?=some r/\cx[q]?=some x/\(match r with|ResultVar.tmp t=>v=a.tmps.getD t undef|ResultVar.cell _ _=>Rep R1 w x v/\q∉sg.own):=λq v hv=>by
    have gr:=(aH.1 hv).1;have h1:fn.results.toList[q]?=some (fn.results.toList[q]'(by omega)):=aw _
    have h2:cx[q]?=some (cx[q]'(by omega)):=aw _
    have:=k6 q _ _ v h1 h2 hv;rw[Nat.zero_add]at this;exact⟨_,_,h1,h2,this⟩
   have I6:∀k x g,H k=(x,g)->k<fn.ntmps->eY R2 w DV x g (a.tmps.getD k undef):=λk x g hk gr=>by{have:=wA hs (t:=k) gr;rw[hk]at this;exact this};have Wu:∀q,q<sg.jd->outs[q]?=(uT sg.own H 0 fn.results.toList cx)[q]?:=λq hq=>by{rw[<-OL,aZ,ar hq]};have own:∀q∈sg.own,∀v,vs[q]?=some v->∃y,outs[q]?=some y/\v=DV (900000+q)/\H (900000+q)=(y,.pv)/\fX R2 w false v y:=λq hq v hv=>by
    obtain⟨r,x,r1,r2,r3⟩:=res q v hv;have gr:=(aH.1 hv).1;cases r with
    |cell=>exact(r3.2 hq).elim
    |tmp t=>obtain⟨m1,m2⟩:=(xC (own:=sg.own) (i:=0) r1).2 (by rw[Nat.zero_add];exact(O0 q).2 hq);rw[Nat.zero_add]at m1 m2;obtain⟨x1,c1,_,c2⟩:=tW (List.mem_append_left _ m1);obtain⟨x2,d1,_⟩:=tW (List.mem_append_left _ m2);obtain⟨c3,rfl⟩:=c2 _ rfl;have OO:=I6 t _ _ c1 c3;have hK:=hs.core.key (900000+q);rw[d1]at hK;have zR:v=DV (900000+q):=r3.trans OO.1;refine⟨x2,?_,zR,d1,by rw[zR];exact hK⟩;rw[Wu q (by omega),xB r1 r2,Nat.zero_add];simp only[(O0 q).2 hq,au,d1]
   have Uj:∀p∈qF 0 sg.md,∃x,H p.1=(x,p.2):=λp hp=>by{obtain⟨x,c,_⟩:=tW (List.mem_append_right _ hp);exact⟨x,c⟩};refine⟨hs.defers,_,R2,vs,o7 H 0 sg.md ins,vQ k3,hs.ext,hs.core.ux,⟨TK,?_,by rw[TK],?_,λq hq v y hv hy=>?_,by rw[T8];exact yM EZ,λq y v hy hv=>?_,λq hq v b hv hb=>?_,λj j' i i' v v' b hj vX hv zR hb oa=>?_,λi hi v b hv hb q u hm hu Ud=>?_⟩⟩;{rw[<-e1];simp only[ae,Sc];omega}
   ·refine jf.of (by simp only[uU,bsm,au,List.length_mapIdx,aF];rw[TK,<-e1,ae,Sc];omega) λq x v hx hv=>?_;simp only[uU,bsm,au,List.getElem?_mapIdx,aW]at hx;obtain⟨y,hy,rfl⟩:=hx;cases ZD:sg.own.contains q with
    |true=>exact .pt _
    |false=>
     rw[aj];obtain⟨r,x,r1,r2,r3⟩:=res q v hv;rw[OL,xB r1 r2,Nat.zero_add]at hy;cases r with
     |cell=>cases hy;exact r3.1.mono Kb
     |tmp t=>simp only[ZD,aj,aM]at hy;subst hy;have m1:=(xC (own:=sg.own) (i:=0) r1).1 (by rw[Nat.zero_add];exact ZD);obtain⟨x1,c1,c2,_⟩:=tW (List.mem_append_left _ m1);rw[c1,r3];exact kU.rep (I6 t _ _ c1 (c2 rfl))
   {rw[oV q hq]at hv;rw[oT q hq]at hy;obtain⟨y',o1,_,_,o2⟩:=own q hq v hv;rw[o1]at hy;cases hy;exact o2};{exact DH hs Uj EZ e2 hy hv};{rw[oV q hq]at hv;obtain⟨y,_,o1,o2,_⟩:=own q hq v hv;rw[o1]at hb;exact hs.core.dV (900000+q) b (ig (by rw[o2];rfl) (by rw[o2];rfl) hb)};{rw[oV i (aO hj)]at hv;rw[oV i' (aO vX)]at zR;obtain⟨y,_,o1,o2,_⟩:=own i (aO hj) v hv;obtain⟨y',_,o1',Y6,_⟩:=own i' (aO vX) v' zR;rw[o1]at hb;rw[o1']at oa;have:=hs.core.xq (ig (by rw[o2];rfl) (by rw[o2];rfl) hb) (ig (by rw[Y6];rfl) (by rw[Y6];rfl) oa);have:i=i':=by{omega};subst this;exact Dn b7 hj vX};{rw[oV i hi]at hv;obtain⟨y,_,o1,o2,_⟩:=own i hi v hv;obtain⟨x,g,c1,c2,c3,c4⟩:=xZ hs Uj hm hu;rw[o1]at hb;rw[c4]at Ud;have TU:=CC c2 c3;have:=hs.core.xq (ig (by rw[o2];rfl) (by rw[o2];rfl) hb) (ig (by rw[c1];exact TU.1) (by rw[c1];exact TU.2) Ud);have gr:=(aH.1 hv).1;have:fn.results.size=sg.jd:=b4.symm;omega}
  {cases he}
 {cases he}
theorem Rh{P:Program}{E:cH}{gl:Nat->Option (List Value)}{fn:Func}{sg:ib}{w w0:World}{R0:Reach}{ins outs:List TV}{xs:List Value}{S:St}{a:Act}{r c:Nat}{t:TypeId}(hlen:ins.length=xs.length)(hp:xs.length=fn.params.size)(oh:Dd fn sg=true)(h:wX ⟨P,E,fn.ntmps,w0,R0,Bx sg.md xs,mL xs,gl⟩ S a w)(ho:Hl fn sg=some ((r,t),c))(he:Fa P fn.ntmps fn sg S=some (outs++nV sg.md ins)):a.defers=[]/\∃x R' pd ys,(results fn a.tmps).run P w=.ok x w/\Ext w0 R0 (Bx sg.md xs) w R'/\(∀b o,R' b o->b<w.heap.size)/\Bs sg R' w (λb=>Bx sg.md xs b\/w0.heap.size<=b) ins xs outs x pd ys:=by
 simp only[Dd,af]at oh;obtain⟨⟨⟨⟨⟨⟨⟨b1,b2⟩,b3⟩,b4⟩,b5⟩,b6⟩,b7⟩,b8⟩:=oh;have b1:fn.ntmps<900000:=Nat.le_of_ble_eq_true b1;have b3:=Nat.le_of_ble_eq_true b3;have b4:=aB b4;have EZ:sg.md.length<=ins.length:=by{omega};obtain⟨R,τ,h⟩:=h;simp only[Fa,ho]at he;obtain⟨TR,Nq⟩:fn.results.toList=[.cell r t]/\sg.own=[1000+c]:=by
  unfold Hl at ho;split at ho
  ·rename_i a' t' j h1 h2;cases hb:Nat.blt j 1000 with
   |true=>rw[hb]at ho;cases ho
   |false=>rw[hb]at ho;cases ho;have:1000<=j:=Nat.le_of_not_lt λgr=>by{rw[show Nat.blt j 1000=true from Nat.ble_eq_true_of_le gr]at hb;cases hb};rw[h1,h2,show 1000+(j -1000)=j by omega];exact⟨rfl,rfl⟩
  {cases ho}
 have Ns:sg.jd=1:=by{rw[b4,<-Array.length_toList,TR];rfl};unfold Up at he;split at he
 ·rename_i m n hSa Qs;split at he
  ·rename_i ys hr;obtain⟨R2,DV,hs,Kb⟩:=xx h hr;have tW:=λ{k g}=>xy hr (k:=k) (g:=g);generalize hH:gN (H6 r m c sg) ys=H at*;obtain⟨x1,c1,_,_⟩:=tW (k:=r) (g:=.ptr m 0) (List.mem_cons_self ..);obtain⟨x2,c2,_,_⟩:=tW (k:=m) (g:=.cl [(c,900000)]) (List.mem_cons_of_mem _ (List.mem_cons_self ..));obtain⟨y,c3,_,_⟩:=tW (k:=900000) (g:=.pv) (List.mem_cons_of_mem _ (List.mem_cons_of_mem _ (List.mem_cons_self ..)));have Uj:∀p∈qF 0 sg.md,∃x,H p.1=(x,p.2):=λp hp=>by{obtain⟨x,c,_⟩:=tW (List.mem_cons_of_mem _ (List.mem_cons_of_mem _ (List.mem_cons_of_mem _ hp)));exact⟨x,c⟩};rw[c2]at he;split at he
   ·rename_i cs g e;cases e;obtain⟨hh,he⟩:=bK.1 he;simp only[af]at hh;have hn:=aB hh.1;have Sc:r<fn.ntmps:=Nat.le_of_ble_eq_true hh.2;have he:=Option.some.inj he;have hl:=xY (H:=H) (ms:=sg.md) (k:=0) EZ;rw[<-List.cons_append]at he;obtain⟨e1,e2⟩:=List.append_inj' he hl;rw[c3]at e1;have zS:=wA hs (t:=r) Sc;rw[c1]at zS;have hV:=hs.core.key m;rw[c2]at hV;obtain⟨b,zs,el,L8,p1,p2,p3,p4,p5,p6⟩:=hV;cases p3;have hv:a.tmps.getD r undef=.pointer (some ⟨b,0,none⟩):=by{have TI:=He hr (List.mem_cons_self ..);rw[hH,c1]at TI;simp only at TI;subst TI;obtain⟨b',q1,q2⟩:∃b',DV m=.pointer (some ⟨b',0,none⟩)/\a.tmps.getD r undef=.pointer (some ⟨b',0,none⟩):=zS;rw[p1]at q1;cases q1;exact q2};have hy:=p5 (c,900000) (List.mem_singleton.2 rfl);simp only at hy;have hK:=hs.core.key 900000;rw[c3]at hK;obtain⟨inf,hi,wM,ha⟩:=gS Qs;have HJ:=p4.length;have C0:c<zs.length:=(aH.1 hy).1;have mi:(fn.results.toList.mapM (Ez a.tmps)).run P w=.ok [.agg ⟨zs⟩] w:=by{rw[TR];simp only[List.mapM_cons,List.mapM_nil,Ez,hv,asAddr,Sem.run_bind,Sem.run_pure,Result.andThen_ok,kj hi ha (.inl rfl) (w:=w) (b:=b) (off:=0) (ys:=zs) (by omega) (λj y hj=>by simp only[World.cell?,p2];simpa using hj),if_true]};have QB:Nat.blt (1000+c) 1000=false:=by
     cases hb:Nat.blt (1000+c) 1000 with
     |false=>rfl
     |true=>have:1000+c+1<=1000:=Nat.le_of_ble_eq_true hb;omega
    have oV:∀q∈sg.own,∀v,qp [.agg ⟨zs⟩] q=some v->v=DV 900000:=λq hq v hv=>by{rw[Nq,List.mem_singleton]at hq;subst hq;unfold qp at hv;simp only[QB,aj,List.getElem?_cons_zero,Nat.add_sub_cancel_left]at hv;rw[hy]at hv;cases hv;rfl};have Zm:∀{v b},v=DV 900000->Value.ij v=some b->ij DV H 900000=some b:=λe hb=>by{subst e;exact ig (by rw[c3];rfl) (by rw[c3];rfl) hb};refine⟨hs.defers,_,R2,[.agg ⟨zs⟩],o7 H 0 sg.md ins,vQ mi,hs.ext,hs.core.ux,⟨Ns.symm,?_,by rw[Ns];rfl,?_,λq hq v y' hv DX=>?_,by rw[Ns,<-e1];exact yM EZ,λq y v hy hv=>?_,λq hq v b hv hb=>?_,λj j' i i' v v' b hj vX hv zR hb oa=>?_,λi hi v b hv hb q u hm hu Ud=>?_⟩⟩;{rw[Ns,<-e1];simp};{have TQ:mN [1000+c]=false:=by{unfold mN;rw[List.all_cons,QB];rfl};rw[Ns,<-e1,Nq];simp only[List.take_succ_cons,List.take_zero,uU,TQ,aj,bc,bw,Vj];refine .cons (.ag ?_) .nil;have:((cs.set c y).mapIdx λk z=>cond ([1000+c].contains (1000+k)) TV.pt z)=cs.set c .pt:=by{apply List.ext_getElem?;intro k;rw[List.getElem?_mapIdx,List.getElem?_set,List.getElem?_set];by_cases e:c=k;{subst e;simp[show c<cs.length by omega]};{have e':¬k=c:=λh=>e h.symm;simp[e,e']}};rw[this];exact p4.set λ_ _=>.pt _};{rw[oV q hq v hv];rw[Nq,List.mem_singleton]at hq;subst hq;unfold sf at DX;rw[<-e1]at DX;simp only[QB,aj,List.getElem?_cons_zero,Nat.add_sub_cancel_left,List.getElem?_set,if_true,show c<cs.length by omega]at DX;cases DX;exact hK};{exact DH hs Uj EZ e2 hy hv};{exact hs.core.dV 900000 b (Zm (oV q hq v hv) hb)};{rw[Nq]at hj vX;have:=(aH.1 hj).1;have:=(aH.1 vX).1;simp at*;omega};{obtain⟨x,g,d1,d2,d3,d4⟩:=xZ hs Uj hm hu;rw[d4]at Ud;have TU:=CC d2 d3;have:=hs.core.xq (Zm (oV i hi v hv) hb) (ig (by rw[d1];exact TU.1) (by rw[d1];exact TU.2) Ud);omega}
   {cases he}
  {cases he}
 {cases he}
theorem KY{P:Program}{E:cH}{gl:Nat->Option (List Value)}{fn:Func}{sg:ib}{w w0:World}{R0:Reach}{ins outs:List TV}{xs:List Value}{S:St}{a:Act}(hlen:ins.length=xs.length)(hp:xs.length=fn.params.size)(oh:Dd fn sg=true)(h:wX ⟨P,E,fn.ntmps,w0,R0,Bx sg.md xs,mL xs,gl⟩ S a w)(he:Fa P fn.ntmps fn sg S=some (outs++nV sg.md ins)):a.defers=[]/\∃x R' pd ys,(results fn a.tmps).run P w=.ok x w/\Ext w0 R0 (Bx sg.md xs) w R'/\(∀b o,R' b o->b<w.heap.size)/\Bs sg R' w (λb=>Bx sg.md xs b\/w0.heap.size<=b) ins xs outs x pd ys:=by
 cases ho:Hl fn sg with
 |none=>exact Ri hlen hp oh h ho he
 |some p=>obtain⟨⟨r,t⟩,c⟩:=p;exact Rh hlen hp oh h ho he
theorem FG{P:Program}{E:cH}{gl:Nat->Option (List Value)}(hE:kB P E)(hF:∀f,gf P gl f (E.fs f)){f:Nat}{c:dD}{sg:ib}(hint:Hint)(hG:∀ins outs,(c ins).holds outs->cq P E f sg hint ins=some (outs++nV sg.md ins)):gf P gl f (c,sg):=by
 intro ins outs hc;have hr:=hG ins outs hc;unfold cq at hr;split at hr
 ·rename_i fn hf;split at hr
  ·rename_i body hb;obtain⟨h1,hr⟩:=bK.1 hr;simp only[af]at h1;obtain⟨oh,hl⟩:=h1;have hl:=aB hl;have OW:=oh;simp only[Dd,af]at OW;obtain⟨⟨⟨⟨⟨⟨⟨b1,b2⟩,b3⟩,b4⟩,b5⟩,b6⟩,b7⟩,b8⟩:=OW;have b1:fn.ntmps<900000:=Nat.le_of_ble_eq_true b1;have b2:=Nat.le_of_ble_eq_true b2;refine⟨?_,λw R xs hR Mg ha hs=>?_⟩;{unfold tF;rw[hf];simp only[Option.any_some,hb,Option.isSome_some,Bool.true_and];exact b8}
   ·have hx:xs.length=fn.params.size:=by{rw[<-ha.1,hl]};refine calls_of_wp hf hb ?_;have wM:(⟨xs⟩:Array Value).size=xs.length:=rfl;rw[wM];have X2:=LL (P:=P) (E:=E) (nt:=fn.ntmps) (by omega) (by omega) hR Mg ha hs;rw[<-hx,<-Gr]at hr;refine Rf (C:=⟨P,E,fn.ntmps,w,R,Bx sg.md xs,mL xs,gl⟩) hE hF body ⟨R,_,X2⟩ hr λe S' a' w' h' hk=>?_;cases e with
    |ret=>obtain⟨d,x,R',pd,ys,k1,k2,k3,k4⟩:=KY ha.1 hx oh h' hk;exact⟨d,x,k1,x,R',pd,ys,rfl,k2,k3,k4⟩
    |normal=>obtain⟨d,x,R',pd,ys,k1,k2,k3,k4⟩:=KY ha.1 hx oh h' hk;exact⟨d,x,k1,x,R',pd,ys,rfl,k2,k3,k4⟩
    |_=>cases hk
  {cases hr}
 {cases hr}
def F0:dD×ib:=(λ_=>.err,{})
theorem G2{P:Program}{gl:Nat->Option (List Value)}{f:Nat}:gf P gl f F0:=λ_ _ h=>h.elim
def look{A:Type}(z:A):List (Nat×A)->Nat->A
 |[],_=>z
 |(k,c)::r,n=>cond (Nat.beq n k) c (look z r n)
abbrev N7:=List (Nat×(fF×Nat))
abbrev Zs:=List (Nat×List TV)
def tQ{A:Type}:List (Nat×A)->Nat->Option A
 |[],_=>none
 |(k,c)::r,n=>cond (Nat.beq n k) (some c) (tQ r n)
def dc(ty:N7)(z:Zs)(l:List (Nat×(dD×ib)))(ld:List Nat:=[]):cH:=⟨look F0 l,tQ ty,tQ z,ld⟩
theorem Ff{P:Program}{gl:Nat->Option (List Value)}{l:List (Nat×(dD×ib))}(h:∀p∈l,gf P gl p.1 p.2):∀f,gf P gl f (look F0 l f):=by
 intro f;induction l with
 |nil=>exact G2
 |cons p r ih=>
  obtain⟨k,c⟩:=p;simp only[look];cases hb:Nat.beq f k with
  |true=>rw[aB hb];exact h (k,c) (List.mem_cons_self ..)
  |false=>exact ih λq hq=>h q (List.mem_cons_of_mem _ hq)
theorem rX{A:Type}{n:Nat}{x:A}:∀{l:List (Nat×A)},tQ l n=some x->(n,x)∈l
 |(k,c)::r,h=>by
  simp only[tQ]at h;cases hb:Nat.beq n k with
  |true=>rw[hb]at h;cases h;rw[aB hb];exact List.mem_cons_self ..
  |false=>rw[hb]at h;exact List.mem_cons_of_mem _ (rX h)
def Pb:Value->TV->Bool
 |.slice none 0 0,.sl _ []=>true
 |v,x=>Fy v x
def vu:List Value->List TV->Bool
 |[],[]=>true
 |x::xs,y::ys=>Pb x y&&vu xs ys
 |_,_=>false
theorem Af{R:Reach}{w:World}:∀{vs:List Value}{xs:List TV},vu vs xs=true->dJ R w xs vs
 |[],[],_=>.nil
 |v::vs,x::xs,h=>by simp only[vu,af]at h;have h1:Rep R w x v/\v.oneCell'=true:=by{have:=h.1;unfold Pb at this;split at this;{exact⟨.sn _,rfl⟩};{exact wY this}};exact .cons h1.2 h1.1 (Af h.2)
 |[],_::_,h=>by simp[vu]at h
 |_::_,[],h=>by simp[vu]at h
def zh(P:Program)(ty:N7):Bool:=ty.all λp=>match P.underlying p.1 with
 |some (.slice e)=>match P.info? e with
  |some i=>Nat.beq i.size p.2.1.size&&Nat.beq i.bytes p.2.2&&(match i.zero with
   |some z=>vu z.cells.toList (p.2.1.tv p.2.1.fS).cells
   |none=>false)
  |none=>false
 |_=>false
def GQ(P:Program)(z:Zs):Bool:=z.all λp=>rC P p.1&&match(P.info? p.1).bind (·.zero)with|some v=>qL v.cells.toList p.2|none=>false
theorem Fe{P:Program}{ty:N7}{z:Zs}{l:List (Nat×(dD×ib))}{ld:List Nat}(hm:P.follows .mixedOrders=true)(h1:zh P ty=true)(h2:GQ P z=true):kB P (dc ty z l ld):=by refine⟨hm,λt st b he=>?_,λt c he=>?_⟩;{have:=aC.1 h1 _ (rX (l:=ty) he);simp only at this;split at this;{rename_i e hu;split at this;{rename_i i hi;simp only[af]at this;obtain⟨⟨k1,k2⟩,k3⟩:=this;split at k3;{rename_i zv hz;have hL:∀R w,dJ R w (st.tv st.fS).cells zv.cells.toList:=λR w=>Af k3;refine⟨e,i,zv,hu,hi,aB k1,aB k2,hz,?_,hL⟩;have:=(hL (λ_ _=>False) default).length;rw[fF.nc]at this;simpa using this.symm};{cases k3}};{cases this}};{cases this}};{have:=aC.1 h2 _ (rX (l:=z) he);simp only[af]at this;refine⟨this.1,?_⟩;have h:=this.2;split at h;{rename_i v hv;exact⟨v,hv,h⟩};{cases h}}
theorem meets{P:Program}{gl:Nat->Option (List Value)}{ty:N7}{z:Zs}{l:List (Nat×(dD×ib))}{ld:List Nat}(hm:P.follows .mixedOrders=true/\zh P ty=true/\GQ P z=true)(hE:∀p∈l,gf P gl p.1 p.2){f:Nat}(hint:Hint){c:dD}{sg:ib}
  (hG:∀ins outs,(c ins).holds outs->cq P (dc ty z l ld) f sg hint ins=some (outs++nV sg.md ins)):gf P gl f (c,sg):=
 FG (Fe hm.1 hm.2.1 hm.2.2) (Ff hE) hint hG
def Fit(F:List TV->OT)(l:List TV->List TV)(ins:List TV):qK->Prop
 |.ok outs=>F ins=some (outs++l ins)
 |.eI p outs=>p=true->F ins=some (outs++l ins)
 |.err=>True
theorem fits{c:dD}{F:List TV->OT}{l:List TV->List TV}(h:∀ins,Fit F l ins (c ins)):∀ins outs,(c ins).holds outs->F ins=some (outs++l ins):=λins outs hc=>by
 have h:=h ins;cases e:c ins with
 |ok ws=>rw[e]at h hc;obtain rfl:outs=ws:=hc;exact h
 |eI p ws=>rw[e]at h hc;obtain⟨hp,rfl⟩:p=true/\outs=ws:=hc;exact h hp
 |err=>rw[e]at hc;exact hc.elim
theorem jo{P:Program}{gl:Nat->Option (List Value)}{f:Nat}{sg:ib}{c':dD}(h:∀ti np,(c' ti).holds np->∃c:dD,gf P gl f (c,sg)/\(c ti).holds np):gf P gl f (c',sg):=λins outs hc=>by obtain⟨c,hs,hc⟩:=h ins outs hc;exact hs ins outs hc
theorem jh{P:Program}{gl:Nat->Option (List Value)}{f:Nat}{sg:ib}{c:dD}(h:∀ti np,¬(c ti).holds np):gf P gl f (c,sg):=λins outs hc=>(h ins outs hc).elim
theorem all_nil{A:Type}{p:A->Prop}:∀x∈([]:List A),p x:=λ_ h=>by cases h
theorem all_cons{A:Type}{p:A->Prop}{a:A}{l:List A}(h:p a)(t:∀x∈l,p x):∀x∈a::l,p x:=λx hx=>by rcases aP.1 hx with rfl|hx;{exact h};{exact t x hx}
def Old(w:World):Reach:=λb _=>b<w.heap.size
theorem calls_of_spec{P:Program}{gl:Nat->Option (List Value)}{f:Nat}{c:dD}(h:gf P gl f (c,{})){ti:List TV}{xs:List Value}{w:World}(Mg:GlOK gl (Old w) w)(hc:(c ti).holds [.b true])(ha:jf (Old w) w ti xs):Calls P f ⟨xs⟩ w λe w'=>e=.returned (.bool true)/\Below w.heap.size w w':=by
 refine((h ti [.b true] hc).2 w (Old w) xs (λb o hb=>hb) Mg ⟨ha.length,λi x v hx hv=>?_⟩ λi j v v' b hi=>(hi (by simp)).elim).mono ?_;{obtain⟨y,h1,h2⟩:=ha.get i x hx;rw[hv]at h1;cases h1;exact h2}
 ·rintro e w' ⟨x,R',pd,ys,rfl,hx,hr,ho⟩;refine⟨?_,hx.os,hx.tape,hx.output,hx.size,λk hk=>hx.heap k hk ?_⟩
  ·congr 1;have hl:pd.length=1:=ho.len;have lU:=ho.rep;rw[ho.val];match pd,hl with
   |[y],_=>
    simp only[if_true,List.headD_cons];have lU:jf R' w' [.b true] [y]:=lU;cases lU with
    |cons a _=>exact a.dN rfl
  {rintro⟨i,v,hm,_⟩;exact hm (by simp)}
theorem rY{n:Int}{l:Nat}:bF n l=true↔0<=n/\n<l:=by simp[bF]
theorem Ic{a b:Int}{l:Nat}:eM a b l=true↔0<=a/\a<=b/\b<=l:=by simp[eM,and_assoc]
theorem LR{n b:Nat}:dY n b=true↔n<=maxLen/\n*b<=140737488355328:=by simp[dY]
theorem nC{l c:Int}{b:Nat}:sP l c b=true↔0<=l/\l<=c/\c*b<=140737488355328/\c<=maxLen:=by simp[sP,and_assoc]
theorem zL{n:Nat}:pU n=true↔n<=maxLen:=by simp[pU]
end Go.Eng
namespace Go.Eng
open Go.RowKit Go.Sort
theorem Am{w w':World}{R:Reach}{io:Nat->Prop}(hR:∀b o,R b o->b<w.heap.size)(h:Below w.heap.size w w'):Ext w R io w' R:=⟨h.os,h.tape,h.output,h.size,λb hb _=>h.block b hb,λb o hr=>⟨hr,by simp only[World.cell?,h.block b (hR b o hr)]⟩,λb o hr=>.inl hr⟩
theorem NY{R:Reach}{w:World}{ti:List TV}{xs:List Value}(h:Bt R w [] ti xs):jf R w ti xs:=jf.of h.1 λi x y hx hy=>h.2 i x y hx hy
theorem jG{P:Program}{gl:Nat->Option (List Value)}{f:Nat}{c:dD}(hb:tF P f=true)(h:∀(ti np:List TV)(w:World)(R:Reach)(xs:List Value),(c ti).holds np->jf R w ti xs->(∀b o,R b o->b<w.heap.size)->GlOK gl R w->Calls P f ⟨xs⟩ w λe w'=>∃x,e=.returned x/\Below w.heap.size w w'/\∀R w',jf R w' np [x]):gf P gl f (c,{}):=by
 refine λti np hc=>⟨hb,λw R xs hR Mg ha _=>(h ti np w R xs hc (NY ha) hR Mg).mono ?_⟩;rintro e w' ⟨x,rfl,D1,hx⟩;have hl:np.length=1:=by{simpa using(hx R w').length};match np,hl with
 |[y],_=>refine⟨x,R,[x],[],rfl,Am hR D1,λb o hr=>Nat.lt_of_lt_of_le (hR b o hr) D1.size,?_⟩;exact⟨rfl,Nat.le_refl _,rfl,hx R w',λi hi=>(by cases hi),rfl,λi y v hy=>(by simp at hy),λi hi=>(by cases hi),λj j' i i' v v' b hj=>(by simp at hj),λi hi=>(by cases hi)⟩
theorem lM{R:Reach}{w:World}:∀{ti:List TV}{xs ys:List Value},jf R w ti xs->ti.mapM TV.val=some ys->xs=ys
 |[],_,_,.nil,h=>by simpa using h
 |x::r,_,_,.cons a b,h=>by rw[List.mapM_cons]at h;obtain⟨v,hv,h⟩:=aV.1 h;obtain⟨vs,Km,h⟩:=aV.1 h;cases h;rw[a.dN hv,lM b Km]
theorem tD{R:Reach}{w:World}{l:bD}:Rep R w (.s l) (.string ⟨⟨l⟩⟩):=.sc rfl
theorem To{R:Reach}{w:World}{n:Int}:Rep R w (.i .i64 n) (.int .i64 n):=.sc rfl
theorem qU{R:Reach}{w:World}{x:TV}{v:Value}(h:Rep R w x v):jf R w [x] [v]:=.cons h .nil
def Sp:List (Nat×List Value)->Nat->Option (List Value)
 |[],_=>none
 |(k,v)::r,n=>cond (Nat.beq n k) (some v) (Sp r n)
def y0(k:IntKind)(zs:List Int):List Value:=zs.map λz=>Value.int k z
theorem Q4{P:Program}{w:World}{name:String}{k:IntKind}{zs:List Int}{g:Nat}(h:Lib.TabIs P w name k zs)(hg:P.globalNamed name=some g)(o:Nat):Old w g o/\w.cell? ⟨g,o,none⟩=(y0 k zs)[o]?:=by
 have hs:g<w.heap.size:=by
  unfold Lib.TabIs World.var? at h;rw[hg]at h;simp only[Option.bind_some]at h;cases hh:w.heap[g]? with
  |none=>rw[hh]at h;cases h
  |some x=>exact(Array.getElem?_eq_some_iff.1 hh).1
 exact⟨hs,by have:=World.var?_cell hg h o;simpa[y0]using this⟩
theorem PL{P:Program}{gl:Nat->Option (List Value)}{R:Reach}{w:World}{name:String}{k:IntKind}{z:Int}{zs:List Int}{g:Nat}(h:GlOK gl R w)(e:gl g=some (y0 k (z::zs)))(hg:P.globalNamed name=some g):Lib.TabIs P w name k (z::zs):=by
 have h2:=λo=>(h g _ e o).2;have h0:=h2 0;unfold Lib.TabIs World.var?;rw[hg];simp only[Option.bind_some];simp only[World.cell?]at h0 h2;cases hh:w.heap[g]? with
 |none=>rw[hh]at h0;cases h0
 |some x=>
  rw[hh]at h0 h2;cases x with
  |cells cs e f=>simp only at h2⊢;congr 1;apply Array.ext_getElem?;intro i;have:=h2 i;simp only[Option.isSome_none,bq,if_false]at this;rw[this];simp[y0]
  |_=>cases h0
theorem gl_nil{R:Reach}{w:World}:GlOK (Sp []) R w:=λ_ _ h=>by cases h
theorem gl_cons{P:Program}{w:World}{name:String}{k:IntKind}{zs:List Int}{g:Nat}{r:List (Nat×List Value)}(h:Lib.TabIs P w name k zs)(hg:P.globalNamed name=some g)(t:GlOK (Sp r) (Old w) w):GlOK (Sp ((g,y0 k zs)::r)) (Old w) w:=λn vs hn o=>by
 unfold Sp at hn;cases hb:Nat.beq n g with
 |true=>rw[hb]at hn;cases hn;rw[aB hb];exact Q4 h hg o
 |false=>rw[hb]at hn;exact t n vs hn o
theorem s0(w:World)(k:Nat)(os:Array Obj):Below w.heap.size w (grow (w.drewN k) os):=⟨rfl,rfl,rfl,by show w.heap.size<=(w.heap++os).size;simp,λi hi=>heap_grow_old (w.drewN k) os hi⟩
def jI(n:Nat):bD:=if h:n<10 then[UInt8.ofNat (48+n)]else jI (n/10)++[UInt8.ofNat (48+n%10)]
termination_by n
decreasing_by omega
theorem Dq(n:Nat):Lib.decDigits n=jI n:=by
 induction n using Nat.strongRecOn with
 |_ n ih=>rw[Lib.decDigits,jI];by_cases h:n<10;{rw[dif_pos h,dif_pos h]};{rw[dif_neg h,dif_neg h,ih (n/10) (by omega)]}
theorem Kg(n:Nat):Lib.itoa (n:Int)=jI n:=by rw[Lib.itoa,ao (by omega),ah,Dq]
end Go.Eng
namespace Go.Eng
open Go.RowKit
def qg(P:Program)(n:Nat)(t:TypeId)(A:Type)(g:A->List TV):Prop:=∀(H:Type)(enc:TypeId×Value->H)(w:World)(base:Nat)(spare:Nat->Bool)(held:Bool)(cs:List Value)(x:DataW H×List MemPlace),DataW.trod enc P w base spare held n t cs=some x->∃a:A,dJ (Old w) w (g a) cs
theorem SJ{n:Int}(h:(Lit.int .u8 n).wf=true):((UInt8.ofInt n).toNat:Int)=n:=by have hx:0<=n/\n<=255:=by{simpa[Lit.wf,IntKind.min,IntKind.max,IntKind.signed,IntKind.bits]using h};rw[xd,wrap_u8'];omega
section
variable{P:Program}{n:Nat}{t:TypeId}
theorem zC(ht:P.underlying t=some (.int .i64)):qg P n t Int λm=>[.i .i64 m]:=by intro H enc w base spare held cs x h;obtain⟨m,rfl,_,_⟩:=DataW.trod_int ht h;exact⟨m,.cons rfl (.sc rfl) .nil⟩
theorem Px{n:Int}(h:(Lit.int .u64 n).wf=true):((UInt64.ofInt n).toNat:Int)=n:=by have hx:0<=n/\n<=18446744073709551615:=by{simpa[Lit.wf,IntKind.min,IntKind.max,IntKind.signed,IntKind.bits]using h};have e:IntKind.u64.wrap n=n%(18446744073709551616:Nat):=by{simp[IntKind.wrap,IntKind.bits,IntKind.signed]};rw[uJ,e];omega
theorem MN{R:Reach}{w:World}{n:Int}(h:(Lit.int .u64 n).wf=true):Rep R w (.u64 (UInt64.ofInt n)) (.int .u64 n):=.sc (by show some _=some _;rw[Px h])
theorem uX(ht:P.underlying t=some (.int .u64)):qg P n t UInt64 λm=>[.u64 m]:=by intro H enc w base spare held cs x h;obtain⟨m,rfl,_,hw⟩:=DataW.trod_int ht h;exact⟨UInt64.ofInt m,.cons rfl (MN hw) .nil⟩
theorem JC(ht:P.underlying t=some (.int .u8)):qg P n t UInt8 λm=>[.u8 m]:=by intro H enc w base spare held cs x h;obtain⟨m,rfl,_,hw⟩:=DataW.trod_int ht h;exact⟨UInt8.ofInt m,.cons rfl (.sc (by show some _=some _;rw[SJ hw])) .nil⟩
theorem uY(ht:P.underlying t=some .string):qg P n t bD λm=>[.s m]:=by intro H enc w base spare held cs x h;obtain⟨m,rfl,_,_⟩:=DataW.trod_string ht h;exact⟨m.data.toList,.cons rfl (.sc rfl) .nil⟩
theorem vT{e:TypeId}{st:fF}(ht:P.underlying t=some (.slice e))(hs:P.cellsOf e=st.size)(pH:0<st.size)(he:∀m,m<n->qg P m e st.El λa=>(st.tv a).cells):qg P n t (List st.El) λl=>[.sl st l]:=by
 intro H enc w base spare held cs x h;rcases DataW.trod_slice ht h with⟨rfl,_⟩|⟨a,len,cap,elems,rest,m,rfl,rfl,_,_,h2,h3,h4,h5,_,_⟩;{exact⟨[],.cons rfl (.sn _) .nil⟩}
 ·by_cases h0:len=0;{subst h0;exact⟨[],.cons rfl (.em _ h3) .nil⟩}
  ·have get:∀i,i<len->∃ys,w.cells? base (a.add (i*st.size)) st.size=some ys/\∃y:st.El,dJ (Old w) w (st.tv y).cells ys:=λi hi=>by{have:=h5 i hi;rw[hs]at this;have gr:i<elems.length:=by{omega};rw[aw gr]at this;obtain⟨ys,h6,h7⟩:=aV.1 this;exact⟨ys,h6,he m (Nat.lt_succ_self m) H enc w base spare held ys _ h7⟩};have OM:a.spot=none:=by
    obtain⟨ys,h6,_⟩:=get 0 (by omega);obtain⟨_,h7,h8⟩:=World.cells?_some h6;have h9:=h8 0 pH;cases hy:ys[0]? with
    |none=>rw[List.getElem?_eq_none_iff]at hy;omega
    |some y=>rw[hy]at h9;simpa[Addr.add]using World.cell?_spot h9
   obtain⟨b,off,spot⟩:=a;simp only at OM;subst OM;have key:∀k i,i+k=len->∃l:List st.El,l.length=k/\lX (Old w) w st.size (l.map st.tv) b (off+i*st.size):=by
    intro k;induction k with
    |zero=>exact λi _=>⟨[],rfl,.nil _ _ _⟩
    |succ k ih=>intro i hi;obtain⟨l,hl,hE⟩:=ih (i+1) (by omega);obtain⟨ys,h6,y,h7⟩:=get i (by omega);obtain⟨_,h8,h9⟩:=World.cells?_some h6;refine⟨y::l,by simp[hl],.cons (od.write (fF.nc st y) h7 (λj hj=>?_) (λj z hz=>?_)) ?_⟩;{have iZ:=h9 j hj;have hjy:j<ys.length:=by{omega};rw[aw hjy]at iZ;by_cases gr:b<w.heap.size;{exact gr};{have:w.heap[b]?=none:=Array.getElem?_eq_none (by omega);rw[addr_add,addr_add]at iZ;simp only[World.cell?,this]at iZ;cases iZ}};{have hj:j<st.size:=by{have:=(aH.1 hz).1;omega};have iZ:=h9 j hj;rw[hz,addr_add,addr_add]at iZ;exact iZ};{rw[show off+i*st.size+st.size=off+(i+1)*st.size by rw[Nat.succ_mul];omega];exact hE}
   obtain⟨l,hl,hE⟩:=key len 0 (by omega);refine⟨l,.cons rfl (.sl hl.symm h2 h3 ?_) .nil⟩;simpa using hE
def qf(P:Program)(n:Nat)(fs:List (TypeId×Nat))(off:Nat)(A:Type)(g:A->List TV):Prop:=∀(H:Type)(enc:TypeId×Value->H)(w:World)(base:Nat)(spare:Nat->Bool)(held:Bool)(cs:List Value),(∀f∈fs,∃x:DataW H×List MemPlace,DataW.trod enc P w base spare held n f.1 ((cs.drop f.2).take (P.cellsOf f.1))=some x)->cs.length=off+(fs.map λf=>P.cellsOf f.1).sum->∃a:A,dJ (Old w) w (g a) (cs.drop off)
theorem FM{off:Nat}:qf P n [] off Unit λ_=>[]:=by intro H enc w base spare held cs _ hl;refine⟨(),?_⟩;rw[aA (by simp at hl;omega)];exact .nil
theorem kZ{t:TypeId}{fs:List (TypeId×Nat)}{off c:Nat}{A B:Type}{g:A->List TV}{g':B->List TV}(hc:P.cellsOf t=c)(h:qg P n t A g)(hr:qf P n fs (off+c) B g'):qf P n ((t,off)::fs) off (A×B) λp=>g p.1++g' p.2:=by subst hc;intro H enc w base spare held cs hx hl;obtain⟨x,h1⟩:=hx (t,off) (List.mem_cons_self ..);obtain⟨a,ha⟩:=h H enc w base spare held _ x h1;obtain⟨b,hb⟩:=hr H enc w base spare held cs (λf' QP=>hx f' (List.mem_cons_of_mem _ QP)) (by simp only[bc,List.sum_cons]at hl;omega);refine⟨(a,b),?_⟩;have e:cs.drop off=(cs.drop off).take (P.cellsOf t)++cs.drop (off+P.cellsOf t):=by{rw[<-List.drop_drop];exact(List.take_append_drop _ _).symm};rw[e];exact ha.append hb
theorem tH{fs:Array Field}{l:List (TypeId×Nat)}{A B:Type}{g:A->List TV}{g':B->List TV}(ht:P.underlying t=some (.struct fs))(hl:(fs.toList.map λf=>(f.type,f.offset))=l)(hc:P.cellsOf t=(l.map λf=>P.cellsOf f.1).sum)(hr:∀m,m<n->qf P m l 0 A g)(f:A->B)(hf:∀a,g a=g' (f a)):qg P n t B g':=by intro H enc w base spare held cs x h;obtain⟨xs,m,rfl,_,h1,h2,h3⟩:=DataW.trod_struct ht h;obtain⟨a,ha⟩:=hr m (Nat.lt_succ_self m) H enc w base spare held cs (λp hp=>by rw[<-hl]at hp;obtain⟨f,hf,rfl⟩:=bn.1 hp;obtain⟨i,hi⟩:=List.getElem?_of_mem hf;have gr:=(aH.1 hi).1;have:=h3 i f (by simpa using hi);have QG:i<xs.length:=by{rw[h2];simpa using gr};rw[aw QG]at this;exact⟨_,this⟩) (by rw[h1,hc];simp);exact⟨f a,by rw[<-hf];simpa using ha⟩
def fieldsOf(P:Program)(t:TypeId):Option (List (TypeId×Nat)):=match P.underlying t with
 |some (.struct fs)=>some (fs.toList.map λf=>(f.type,f.offset))
 |_=>none
theorem sG{l:List (TypeId×Nat)}(h:fieldsOf P t=some l):∃fs,P.underlying t=some (.struct fs)/\(fs.toList.map λf=>(f.type,f.offset))=l:=by unfold fieldsOf at h;split at h;{rename_i fs e;cases h;exact⟨fs,e,rfl⟩};{cases h}
structure ValTys (P:Program) (tv tf tk ti tu ts tb ty:TypeId):Prop where
 v:fieldsOf P tv=some [(ti,0),(tu,1),(tu,2),(tu,3),(ts,4),(ts,5),(ti,6),(tb,7),(tk,8)]
 f:fieldsOf P tf=some [(ts,0),(tv,1)]
 k:P.underlying tk=some (.slice tf)
 i:P.underlying ti=some (.int .i64)
 u:P.underlying tu=some (.int .u64)
 s:P.underlying ts=some .string
 b:P.underlying tb=some (.slice ty)
 y:P.underlying ty=some (.int .u8)
 cv:P.cellsOf tv=9
 cf:P.cellsOf tf=10
 ck:P.cellsOf tk=1
 ci:P.cellsOf ti=1
 cu:P.cellsOf tu=1
 cs:P.cellsOf ts=1
 cb:P.cellsOf tb=1
 cy:P.cellsOf ty=1
theorem Cr{y:TypeId}(ht:P.underlying t=some (.slice y))(hy:P.underlying y=some (.int .u8))(hc:P.cellsOf y=1):qg P n t bD λl=>[.sl .bs l]:=vT (st:=.bs) ht hc (by decide) λ_ _=>JC hy
theorem ValTys.val{tv tf tk ti tu ts tb ty:TypeId}(T:ValTys P tv tf tk ti tu ts tb ty):∀n,qg P n tv Val Val.cells/\qg P n tf bJ bJ.cells:=by
 intro n;induction n using Nat.strongRecOn with
 |_ n ih=>have hv:∀m,m<=n->(∀k,k<m->qg P k tf bJ bJ.cells)->qg P m tv Val Val.cells:=λm hm ihf=>by{obtain⟨fs,h1,h2⟩:=sG T.v;have R:=λ(k:Nat)(hk:k<m)=>(kZ (off:=0) T.ci (zC T.i) (kZ T.cu (uX T.u) (kZ T.cu (uX T.u) (kZ T.cu (uX T.u) (kZ T.cs (uY T.s) (kZ T.cs (uY T.s) (kZ T.ci (zC T.i) (kZ T.cb (Cr T.b T.y T.cy) (kZ T.ck (vT (st:=.fl) T.k T.cf (by decide) λj hj=>ihf j (by omega)) FM)))))))):qf P k _ 0 _ _);exact tH h1 h2 (by simp[T.cv,T.ci,T.cu,T.cs,T.cb,T.ck]) R (λa=>(⟨a.1,a.2.1,a.2.2.1,a.2.2.2.1,a.2.2.2.2.1,a.2.2.2.2.2.1,a.2.2.2.2.2.2.1,a.2.2.2.2.2.2.2.1,a.2.2.2.2.2.2.2.2.1⟩:Val)) (λa=>rfl)};refine⟨hv n (Nat.le_refl n) λk hk=>(ih k hk).2,?_⟩;obtain⟨fs,h1,h2⟩:=sG T.f;have R:=λ(k:Nat)(hk:k<n)=>(kZ (off:=0) T.cs (uY T.s) (kZ T.cv (hv k (by omega) λj hj=>(ih j (by omega)).2) FM):qf P k _ 0 _ _);exact tH h1 h2 (by simp[T.cf,T.cv,T.cs]) R (λa=>bJ.of a.1 a.2.1) (λa=>by simp[bJ.of,bJ.cells,Val.cells,bJ.name,bJ.kind,bJ.bits,bJ.high,bJ.low,bJ.text,bJ.more,bJ.sub,bJ.bytes,bJ.kids])
theorem ValTys.rep{tv tf tk ti tu ts tb ty:TypeId}(T:ValTys P tv tf tk ti tu ts tb ty){H:Type}{enc:TypeId×Value->H}{w:World}{base:Nat}{spare:Nat->Bool}{held:Bool}{cs:Array Value}{d:DataW H}{p:List MemPlace}(h:DataW.Trod enc P w base spare held tv (.agg cs) d p):∃v:Val,Rep (Old w) w (.ag (Val.cells v)) (.agg cs):=by obtain⟨n,h⟩:=h;obtain⟨v,hv⟩:=(T.val n).1 H enc w base spare held _ _ h;exact⟨v,.ag (by simpa[Value.cells]using hv)⟩
end
end Go.Eng
namespace Go.Eng
open Ieee
namespace Fl
def Val(m:Nat)(p:Int)(N:Nat):Prop:=m*2^p.toNat=N*2^(-p).toNat
def W(b:Nat)(n:Int):Prop:=∃s m p,double.read b=.number s m p/\Val m p n.natAbs/\(n<0->s=true)/\(0<n->s=false)
theorem Ag(s:Bool)(k d:Nat)(h:d<=(k*2^d).log2+2):Toward.even.cut s (k*2^d) d=k:=by unfold Toward.cut;rw[Nat.min_eq_left h,Nat.one_shiftLeft];have hp:0<2^d:=Nat.two_pow_pos d;have h1:k*2^d/2^d=k:=Nat.mul_div_cancel k hp;have h2:k*2^d%2^d=0:=Nat.mul_mod_left k (2^d);simp only[h1,h2];have h3:¬(2^d<2*0):=by{omega};have h4:(2^d==2*0)=false:=by{rw[beq_eq_false_iff_ne];omega};simp[h3,h4]
theorem Ys(s:Bool)(n:Nat):Toward.even.cut s n 0=n:=by have:=Ag s n 0 (Nat.zero_le _);rwa[Nat.pow_zero,Nat.mul_one]at this
theorem qv(N k:Nat)(h:N≠0):(N*2^k).log2=N.log2+k:=by have hp:0<2^k:=Nat.two_pow_pos k;have hn:N*2^k≠0:=Nat.mul_ne_zero h (by omega);refine(Nat.log2_eq_iff hn).2 ⟨?_,?_⟩;{rw[Nat.pow_add];exact ay _ (Nat.log2_self_le h)};{rw[show N.log2+k+1=N.log2+1+k by omega,Nat.pow_add];exact Nat.mul_lt_mul_of_pos_right Nat.lt_log2_self hp}
set_option maxRecDepth 10000 in
theorem BH(s:Bool)(m:Nat)(p:Int)(N:Nat)(hN:N<=9007199254740992)(hv:Val m p N):∃K q,double.read (double.write (.number s m p))=.number s K q/\Val K q N:=by have hw:double.signWeight=2^63:=rfl;have hB:double.binade=4503599627370496:=rfl;have hI:double.infRung=2047*4503599627370496:=rfl;have ZT:double.leastPlace=-1074:=by{decide};have OP:∀qS,qS<2^63->double.read (double.word s qS)=(if qS<4503599627370496 then .number s qS (-1074)else if qS<2047*4503599627370496 then .number s (4503599627370496+qS%4503599627370496) (-1074+(qS/4503599627370496 -1:Nat))else if qS=2047*4503599627370496 then .infinity s else .nan s (qS -2047*4503599627370496)):=by{intro qS hr;unfold Format.read Format.word;simp only[hw,hB,hI,ZT];have e1:(if s=true then 2^63+qS else qS)%2^63=qS:=by{cases s<;>simp<;>omega};have e2:((if s=true then 2^63+qS else qS)/2^63%2==1)=s:=by{cases s;{have:qS/2^63=0:=Nat.div_eq_of_lt hr;simp only[bq,if_false];rw[this];rfl};{have:(2^63+qS)/2^63=1:=by{rw[Nat.add_div_left _ (by decide),Nat.div_eq_of_lt hr]};simp only[if_true];rw[this];rfl}};rw[e1,e2]};by_cases hm:m=0;{subst hm;refine⟨0,-1074,?_,?_⟩;{unfold Format.write Format.nearest;simp only[if_true];rw[OP 0 (by decide),ar (by decide)]};{unfold Val at hv⊢;have O3:N=0:=by{rw[Nat.zero_mul]at hv;rcases Nat.mul_eq_zero.1 hv.symm with h|h;{exact h};{exact absurd h (Nat.pos_iff_ne_zero.1 (Nat.two_pow_pos _))}};rw[O3,Nat.zero_mul,Nat.zero_mul]}};{have O3:N≠0:=λh=>by{unfold Val at hv;rw[h,Nat.zero_mul]at hv;rcases Nat.mul_eq_zero.1 hv with h|h;{exact hm h};{exact absurd h (Nat.pos_iff_ne_zero.1 (Nat.two_pow_pos _))}};have hlog:p+m.log2=N.log2:=by{unfold Val at hv;have h1:=qv m p.toNat hm;have h2:=qv N (-p).toNat O3;rw[hv]at h1;omega};have hl:N.log2<=53:=by{have:=Nat.log2_self_le O3;have h3:2^N.log2<2^54:=by{omega};have:=(Nat.pow_lt_pow_iff_right (show 1<2 by decide)).1 h3;omega};have Qy:=Nat.log2_self_le O3;have Iv:N<2^(N.log2+1):=Nat.lt_log2_self;obtain⟨L,hL⟩:∃L:Int,L=(N.log2:Int) -52:=⟨_,rfl⟩;obtain⟨K,k1,k2,k3,k4,k5⟩:∃K:Nat,Val K L N/\4503599627370496<=K/\K<9007199254740992/\(L<=p->m*2^(p -L).toNat=K)/\(p<L->m=K*2^(L -p).toNat):=by{unfold Val at hv;by_cases hc:N.log2<=52;{have eL:L.toNat=0:=by{omega};have eL2:(-L).toNat=52 -N.log2:=by{omega};refine⟨N*2^(52 -N.log2),?_,?_,?_,λh=>?_,λh=>?_⟩;{unfold Val;rw[eL,eL2,Nat.pow_zero,Nat.mul_one]};{have:=ay (2^(52 -N.log2)) Qy;rw[<-Nat.pow_add,show N.log2+(52 -N.log2)=52 by omega]at this;exact this};{have:=Nat.mul_lt_mul_of_pos_right Iv (Nat.two_pow_pos (52 -N.log2));rw[<-Nat.pow_add,show N.log2+1+(52 -N.log2)=53 by omega]at this;exact this};{by_cases h0:0<=p;{rw[show(-p).toNat=0 by omega,Nat.pow_zero,Nat.mul_one]at hv;rw[show(p -L).toNat=p.toNat+(52 -N.log2) by omega,Nat.pow_add,<-Nat.mul_assoc,hv]};{rw[show p.toNat=0 by omega,Nat.pow_zero,Nat.mul_one]at hv;rw[hv,Nat.mul_assoc,<-Nat.pow_add,show(-p).toNat+(p -L).toNat=52 -N.log2 by omega]}};{rw[show p.toNat=0 by omega,Nat.pow_zero,Nat.mul_one]at hv;rw[hv,Nat.mul_assoc,<-Nat.pow_add,show 52 -N.log2+(L -p).toNat=(-p).toNat by omega]}};{have e53:N.log2=53:=by{omega};have eN:N=9007199254740992:=by{rw[e53]at Qy;omega};have eL:L=1:=by{omega};subst eL;refine⟨4503599627370496,?_,by decide,by decide,λh=>?_,λh=>?_⟩;{unfold Val;rw[eN];rfl};{rw[show(-p).toNat=0 by omega,Nat.pow_zero,Nat.mul_one,show p.toNat=(p -1).toNat+1 by omega,Nat.pow_succ,eN,<-Nat.mul_assoc]at hv;omega};{rw[show p.toNat=0 by omega,Nat.pow_zero,Nat.mul_one,eN]at hv;rw[hv,show(1 -p).toNat=(-p).toNat+1 by omega,Nat.pow_succ];omega}}};have T0:Toward.even.cut s (m<<<(p -L).toNat) (L -p).toNat=K:=by{rw[Nat.shiftLeft_eq];by_cases h:L<=p;{rw[k4 h,show(L -p).toNat=0 by omega];exact Ys s K};{have e:=k5 (by omega);rw[show(p -L).toNat=0 by omega,Nat.pow_zero,Nat.mul_one,e];refine Ag s K _ ?_;rw[<-e];omega}};have hrg:(L+1074).toNat*4503599627370496+K<2047*4503599627370496:=by{omega};refine⟨K,L,?_,k1⟩;unfold Format.write Format.nearest;simp only[ao hm,hB,hI,ZT,show double.fractionBits=52 from rfl];rw[show max (p+(m.log2:Int) -((52:Nat):Int)) (-1074)=L by omega,T0,show L - -1074=L+1074 by omega,Nat.min_eq_left (by omega),OP _ (by omega),ao (by omega),ar (by omega)];have r1:((L+1074).toNat*4503599627370496+K)%4503599627370496=K -4503599627370496:=by{omega};have r2:((L+1074).toNat*4503599627370496+K)/4503599627370496=(L+1074).toNat+1:=by{omega};have r3:4503599627370496+(K -4503599627370496)=K:=by{omega};have r4:-1074+(((L+1074).toNat+1 -1:Nat):Int)=L:=by{omega};rw[r1,r2,r3,r4]}
def WD(d:Datum)(n:Int):Prop:=∃s m p,d=.number s m p/\Val m p n.natAbs/\(n<0->s=true)/\(0<n->s=false)
theorem WD.write{d:Datum}{n:Int}(h:WD d n)(hn:n.natAbs<=9007199254740992):W (double.write d) n:=by obtain⟨s,m,p,rfl,hv,h1,h2⟩:=h;obtain⟨K,q,hr,hk⟩:=BH s m p n.natAbs hn hv;exact⟨s,K,q,hr,hk,h1,h2⟩
theorem W.map{d:Datum}{n:Int}{o:Option Datum}(ho:o=some d)(h:WD d n)(hn:n.natAbs<=9007199254740992):∃r,o.map double.write=some r/\W r n:=⟨_,by rw[ho];rfl,h.write hn⟩
theorem WD.product{d e:Datum}{x y:Int}(hx:WD d x)(hy:WD e y):∃r,d.product e=some r/\WD r (x*y):=by
 obtain⟨s,m,i,rfl,hv,h1,h2⟩:=hx;obtain⟨t,n,j,rfl,hw,g1,g2⟩:=hy;refine⟨_,rfl,_,_,_,rfl,?_,?_,?_⟩
 ·unfold Val at*;rw[Int.natAbs_mul];obtain⟨c,Mh,E1⟩:∃c:Nat,i.toNat+j.toNat=(i+j).toNat+c/\(-i).toNat+(-j).toNat=(-(i+j)).toNat+c:=by{refine⟨i.toNat+j.toNat -(i+j).toNat,?_,?_⟩<;>omega};have h:m*n*2^(i.toNat+j.toNat)=x.natAbs*y.natAbs*2^((-i).toNat+(-j).toNat):=by
   rw[Nat.pow_add,Nat.pow_add];calc m*n*(2^i.toNat*2^j.toNat)=(m*2^i.toNat)*(n*2^j.toNat):=by ac_rfl
    _=(x.natAbs*2^(-i).toNat)*(y.natAbs*2^(-j).toNat):=by rw[hv,hw]
    _=x.natAbs*y.natAbs*(2^(-i).toNat*2^(-j).toNat):=by ac_rfl
  rw[Mh,E1,Nat.pow_add,Nat.pow_add,<-Nat.mul_assoc,<-Nat.mul_assoc]at h;exact Nat.eq_of_mul_eq_mul_right (Nat.two_pow_pos c) h
 {intro h;rcases Int.lt_or_lt_of_ne (show x≠0 from λe=>by rw[e,Int.zero_mul]at h;omega)with a|a;{have:0<y:=by{rcases Int.lt_or_lt_of_ne (show y≠0 from λe=>by rw[e,Int.mul_zero]at h;omega)with b|b;{have:=Int.mul_pos_of_neg_of_neg a b;omega};{exact b}};rw[h1 a,g2 this];rfl};{have:y<0:=by{rcases Int.lt_or_lt_of_ne (show y≠0 from λe=>by rw[e,Int.mul_zero]at h;omega)with b|b;{exact b};{have:=Int.mul_pos a b;omega}};rw[h2 a,g1 this];rfl}};{intro h;rcases Int.lt_or_lt_of_ne (show x≠0 from λe=>by rw[e,Int.zero_mul]at h;omega)with a|a;{have:y<0:=by{rcases Int.lt_or_lt_of_ne (show y≠0 from λe=>by rw[e,Int.mul_zero]at h;omega)with b|b;{exact b};{have:=Int.mul_neg_of_neg_of_pos a b;omega}};rw[h1 a,g1 this];rfl};{have:0<y:=by{rcases Int.lt_or_lt_of_ne (show y≠0 from λe=>by rw[e,Int.mul_zero]at h;omega)with b|b;{have:=Int.mul_neg_of_pos_of_neg a b;omega};{exact b}};rw[h2 a,g2 this];rfl}}
theorem oF{s:Bool}{m:Nat}{i base:Int}{x:Int}(hv:Val m i x.natAbs)(h1:x<0->s=true)(h2:0<x->s=false)(hb:base<=i):Ieee.signed s m (i -base).toNat*(2:Int)^base.toNat=x*(2:Int)^(-base).toNat:=by
 unfold Val at hv;have hN:m*2^(i -base).toNat*2^base.toNat=x.natAbs*2^(-base).toNat:=by
  obtain⟨c,Mh,E1⟩:∃c:Nat,(i -base).toNat+base.toNat+c=i.toNat+((i -base).toNat+base.toNat+c -i.toNat)/\c=(-i).toNat:=⟨_,by omega,rfl⟩;have e1:(i -base).toNat+base.toNat+(-i).toNat=i.toNat+(-base).toNat:=by{omega};have h:m*2^(i -base).toNat*2^base.toNat*2^(-i).toNat=x.natAbs*2^(-base).toNat*2^(-i).toNat:=by
   calc m*2^(i -base).toNat*2^base.toNat*2^(-i).toNat=m*2^((i -base).toNat+base.toNat+(-i).toNat):=by rw[Nat.pow_add,Nat.pow_add];ac_rfl
    _=m*2^i.toNat*2^(-base).toNat:=by rw[e1,Nat.pow_add];ac_rfl
    _=x.natAbs*2^(-base).toNat*2^(-i).toNat:=by rw[hv];ac_rfl
  exact Nat.eq_of_mul_eq_mul_right (Nat.two_pow_pos _) h
 have hZ:((m*2^(i -base).toNat:Nat):Int)*(2:Int)^base.toNat=(x.natAbs:Int)*(2:Int)^(-base).toNat:=by{have:=congrArg (Nat.cast (R:=Int)) hN;simpa using this};unfold Ieee.signed;rw[Nat.shiftLeft_eq];rcases Int.lt_trichotomy x 0 with a|a|a;{rw[h1 a,ar rfl,Int.neg_mul,hZ,show(x.natAbs:Int)=-x by omega,Int.neg_mul,Int.neg_neg]};{subst a;have h0:((m*2^(i -base).toNat:Nat):Int)*(2:Int)^base.toNat=0:=by{rw[hZ];simp};cases s;{rw[ao (by decide),h0];simp};{rw[ar rfl,Int.neg_mul,h0];simp}};{rw[h2 a,ao (by decide),hZ,show(x.natAbs:Int)=x by omega]}
theorem WD.sum{d e:Datum}{x y:Int}(hx:WD d x)(hy:WD e y):∃r,d.sum e=some r/\WD r (x+y):=by
 obtain⟨s,m,i,rfl,hv,h1,h2⟩:=hx;obtain⟨t,n,j,rfl,hw,g1,g2⟩:=hy;have e1:=oF hv h1 h2 (show min i j<=i by omega);have e2:=oF hw g1 g2 (show min i j<=j by omega);refine⟨_,rfl,_,_,_,rfl,?_,?_,?_⟩;(all_goals generalize min i j=base at e1 e2⊢);all_goals
  have e3:(Ieee.signed s m (i -base).toNat+Ieee.signed t n (j -base).toNat)*(2:Int)^base.toNat=(x+y)*(2:Int)^(-base).toNat:=by rw[Int.add_mul,Int.add_mul,e1,e2]
  generalize Ieee.signed s m (i -base).toNat+Ieee.signed t n (j -base).toNat=T at e3⊢
  have p1:(0:Int)<(2:Int)^base.toNat:=by exact_mod_cast Nat.two_pow_pos base.toNat
  have p2:(0:Int)<(2:Int)^(-base).toNat:=by exact_mod_cast Nat.two_pow_pos (-base).toNat
 {unfold Val;have:=congrArg Int.natAbs e3;rw[Int.natAbs_mul,Int.natAbs_mul,Int.natAbs_pow,Int.natAbs_pow]at this;exact this};{intro h;have hT:T<0:=by{have h3:=Int.mul_neg_of_neg_of_pos h p2;rw[<-e3]at h3;exact Int.not_le.1 λKu=>by have:=Int.mul_nonneg Ku (Int.le_of_lt p1);omega};rw[ao (by omega)];exact aa hT};{intro h;have hT:0<T:=by{have h3:=Int.mul_pos h p2;rw[<-e3]at h3;exact Int.not_le.1 λKu=>by have:=Int.mul_nonneg (show 0<=-T by omega) (Int.le_of_lt p1);rw[Int.neg_mul]at this;omega};rw[ao (by omega)];exact ab (by omega)}
theorem WD.opposite{d:Datum}{x:Int}(hx:WD d x):WD d.opposite (-x):=by obtain⟨s,m,i,rfl,hv,h1,h2⟩:=hx;exact⟨!s,m,i,rfl,by rw[Int.natAbs_neg];exact hv,λh=>by rw[h2 (by omega)];rfl,λh=>by rw[h1 (by omega)];rfl⟩
theorem Ip{a b:Nat}{x y:Int}(ha:W a x)(hb:W b y)(h:(x+y).natAbs<=9007199254740992):∃r,double.add a b=some r/\W r (x+y):=by obtain⟨d,e,hd⟩:=WD.sum ha hb;exact W.map e hd h
theorem G0{a b:Nat}{x y:Int}(ha:W a x)(hb:W b y)(h:(x -y).natAbs<=9007199254740992):∃r,double.sub a b=some r/\W r (x -y):=by obtain⟨d,e,hd⟩:=WD.sum ha (WD.opposite hb);exact W.map e hd h
theorem Hu{a b:Nat}{x y:Int}(ha:W a x)(hb:W b y)(h:(x*y).natAbs<=9007199254740992):∃r,double.mul a b=some r/\W r (x*y):=by obtain⟨d,e,hd⟩:=WD.product ha hb;exact W.map e hd h
theorem Cs(n:Int)(h:n.natAbs<=9007199254740992):W (double.write (.number (n<0) n.natAbs 0)) n:=WD.write ⟨_,_,_,rfl,by unfold Val;simp,λh=>aa h,λh=>ab (by omega)⟩ h
theorem me{a b:Nat}{x y:Int}(ha:W a x)(hb:W b y):double.order a b=some (compare x y):=by obtain⟨s,m,i,hr,hv,h1,h2⟩:=ha;obtain⟨t,n,j,hq,hw,g1,g2⟩:=hb;have e1:=oF hv h1 h2 (show min i j<=i by omega);have e2:=oF hw g1 g2 (show min i j<=j by omega);unfold Format.order;rw[hr,hq];show some (compare (Ieee.signed s m (i -min i j).toNat) (Ieee.signed t n (j -min i j).toNat))=_;generalize min i j=base at e1 e2⊢;have p1:(0:Int)<(2:Int)^base.toNat:=by{exact_mod_cast Nat.two_pow_pos base.toNat};have p2:(0:Int)<(2:Int)^(-base).toNat:=by{exact_mod_cast Nat.two_pow_pos (-base).toNat};generalize Ieee.signed s m (i -base).toNat=A at e1⊢;generalize Ieee.signed t n (j -base).toNat=B at e2⊢;congr 1;rcases Int.lt_trichotomy x y with c|c|c;{have h3:=Int.mul_lt_mul_of_pos_right c p2;rw[<-e1,<-e2]at h3;have h4:A<B:=Int.lt_of_mul_lt_mul_right h3 (Int.le_of_lt p1);rw[Int.compare_eq_lt.2 h4,Int.compare_eq_lt.2 c]};{subst c;rw[<-e2]at e1;have h4:A=B:=Int.eq_of_mul_eq_mul_right (by omega) e1;rw[h4];simp};{have h3:=Int.mul_lt_mul_of_pos_right c p2;rw[<-e1,<-e2]at h3;have h4:B<A:=Int.lt_of_mul_lt_mul_right h3 (Int.le_of_lt p1);rw[Int.compare_eq_gt.2 h4,Int.compare_eq_gt.2 c]}
end Fl
end Go.Eng
namespace Go.Eng
open Go.IntWalk
theorem bB{R:Type}{p:Bool}{x:Option R}(h:p=true):ck p x=x:=by rw[h];rfl
theorem ck4(a b:Bool):(!a||(a&&(b||(a&&!b))))=true:=by cases a<;>cases b<;>rfl
theorem ck5(a b:Bool):(!a||(a&&(!b||(a&&b))))=true:=by cases a<;>cases b<;>rfl
theorem kC:maxLen=9223372036854775807:=by decide
theorem uq{n:Nat}(h:n<=1099511627776):pU n=true:=zL.2 (by rw[kC];omega)
theorem dO{n b:Nat}(h:n*b<=140737488355328)(h2:n<=140737488355328):dY n b=true:=LR.2 ⟨by rw[kC];omega,h⟩
theorem dC{n:Int}{l:Nat}(h0:0<=n)(h1:n<l):bF n l=true:=rY.2 ⟨h0,h1⟩
theorem nS{a b:Int}{l:Nat}(h0:0<=a)(h1:a<=b)(h2:b<=l):eM a b l=true:=Ic.2 ⟨h0,h1,h2⟩
theorem iy{p:Prop}[Decidable p]{R:Type}{x:Option R}(h:p:=by omega):ck (decide p) x=x:=bB (aa h)
theorem ki{n:Int}{l:Nat}{R:Type}{x:Option R}(h0:0<=n:=by omega)(h1:n<l:=by omega):ck (bF n l) x=x:=bB (dC h0 h1)
theorem yG{a b:Int}{l:Nat}{R:Type}{x:Option R}(h0:0<=a:=by omega)(h1:a<=b:=by omega)(h2:b<=l:=by omega):ck (eM a b l) x=x:=bB (nS h0 h1 h2)
theorem Pe{n b:Nat}{R:Type}{x:Option R}(h:n*b<=140737488355328:=by omega)(h2:n<=140737488355328:=by omega):ck (dY n b) x=x:=bB (dO h h2)
theorem ie{a:Bool}{R:Type}{x:Option R}:ck (!a||a) x=x:=by cases a<;>rfl
theorem BD{a:Bool}{R:Type}{x:Option R}:ck (a||!a) x=x:=by cases a<;>rfl
theorem iw{x:Int}(h:-9223372036854775808<=x/\x<=9223372036854775807:=by omega):IntKind.i64.wrap x=x:=i64_in x h
theorem cT{p:Prop}[Decidable p]{α:Type}{a b:α}(h:p:=by omega):cond (decide p) a b=a:=by rw[aa h];rfl
theorem cF{p:Prop}[Decidable p]{α:Type}{a b:α}(h:¬p:=by omega):cond (decide p) a b=b:=by rw[ab h];rfl
theorem nO{c:Prop}[Decidable c]{α:Type}{a b:α}(h:¬c:=by omega):(if c then a else b)=b:=ao h
theorem pO{c:Prop}[Decidable c]{α:Type}{a b:α}(h:c:=by omega):(if c then a else b)=a:=ar h
theorem dT{p:Prop}[Decidable p](h:p:=by omega):decide p=true:=aa h
theorem dF{p:Prop}[Decidable p](h:¬p:=by omega):decide p=false:=ab h
theorem pj(n:Nat):(BitVec.ofInt 64 (n:Int))=BitVec.ofNat 64 n:=by apply BitVec.eq_of_toNat_eq;rw[BitVec.toNat_ofInt,BitVec.toNat_ofNat];omega
theorem N5(a b:Nat)(ha:a<9223372036854775808)(hb:b<9223372036854775808):db .and .i64 a b=((a&&&b:Nat):Int):=by have h1:a&&&b<=a:=Nat.and_le_left;have e:db .and .i64 a b=IntKind.i64.wrap (((BitVec.ofInt 64 (a:Int)&&&BitVec.ofInt 64 (b:Int)).toNat:Nat):Int):=rfl;rw[e,pj,pj,BitVec.toNat_and,BitVec.toNat_ofNat,BitVec.toNat_ofNat,Nat.mod_eq_of_lt (by omega),Nat.mod_eq_of_lt (by omega)];exact iw
theorem Ts{a b k:Nat}(ha:a<2^k)(hb:b<2^k):a|||b<2^k:=Nat.or_lt_two_pow ha hb
theorem PY(a b:Nat)(ha:a<9223372036854775808)(hb:b<9223372036854775808):db .or .i64 a b=((a|||b:Nat):Int):=by have h1:a|||b<9223372036854775808:=Ts (k:=63) (by simpa using ha) (by simpa using hb);have e:db .or .i64 a b=IntKind.i64.wrap (((BitVec.ofInt 64 (a:Int)|||BitVec.ofInt 64 (b:Int)).toNat:Nat):Int):=rfl;rw[e,pj,pj,BitVec.toNat_or,BitVec.toNat_ofNat,BitVec.toNat_ofNat,Nat.mod_eq_of_lt (by omega),Nat.mod_eq_of_lt (by omega)];exact iw
theorem pD{a b k:Nat}(hb:b<2^k):(a*2^k)|||b=a*2^k+b:=by rw[<-Nat.shiftLeft_eq,Nat.shiftLeft_add_eq_or_of_lt hb]
theorem drop_cons{α:Type}{l:List α}{i:Nat}(hi:i<l.length)(d:α):l.drop i=l.getD i d::l.drop (i+1):=by rw[List.drop_eq_getElem_cons hi,ai,aw hi];rfl
theorem qj(n:Nat):(UInt64.ofInt (n:Int)).toNat=n%18446744073709551616:=by have h:=uJ (n:Int);rw[lY]at h;omega
theorem sJ(n:Nat):(UInt8.ofInt (n:Int)).toNat=n%256:=by have h:=xd (n:Int);rw[wrap_u8']at h;omega
end Go.Eng
namespace Go.Eng
namespace Nt
def val:List UInt16->Nat
 |[]=>0
 |d::r=>d.toNat+65536*val r
def fix:Nat->Nat->List UInt16
 |0,_=>[]
 |k+1,n=>UInt16.ofNat n::fix k (n/65536)
def of(n:Nat):List UInt16:=if n=0 then[]else UInt16.ofNat n::of (n/65536)
termination_by n
decreasing_by exact Nat.div_lt_self (by omega) (by omega)
def norm(a:List UInt16):Bool:=decide (a.getLast?≠some 0)
def is(a:List UInt16):Bool:=decide (a.length<=256)&&norm a
def bits(n:Nat):Nat:=if n=0 then 0 else n.log2+1
def cmp(a b:Nat):Int:=if a<b then -1 else if a=b then 0 else 1
end Nt
namespace Gz
def SI:List Cx:=[(4607182418800017408,0),(0,4607182418800017408),(13830554455654793216,0),(0,13830554455654793216)]
def mul(z w:Cx):Cx:=(Fl.vw z.1 z.2 w.1 w.2,Fl.vx z.1 z.2 w.1 w.2)
def add(z w:Cx):Cx:=(Fl.add z.1 w.1,Fl.add z.2 w.2)
def unit(k:Int):Cx:=SI.getD (k%4).toNat (0,0)
def qQ(z:Cx)(k:Int):Cx:=mul z (unit k)
def part(l:Qd)(way:Int)(k:Nat):Nat->Cx
 |0=>(0,0)
 |j+1=>add (part l way k j) (qQ (l.get j) (j*k*way))
def qn(l:Qd)(way:Int):Qd:=⟨part l way 0 4,part l way 1 4,part l way 2 4,part l way 3 4⟩
def quarter(z:Cx):Cx:=(Fl.ofInt ((Fl.toInt z.1).tdiv 4),Fl.ofInt ((Fl.toInt z.2).tdiv 4))
def back(l:Qd):Qd:=⟨quarter (part l (-1) 0 4),quarter (part l (-1) 1 4),quarter (part l (-1) 2 4),quarter (part l (-1) 3 4)⟩
def Bw(n:Int):Cx:=(Fl.ofInt n,Fl.ofInt 0)
def jy:List Int->List Qd
 |[]=>[]
 |[a]=>[qn ⟨Bw a,(0,0),(0,0),(0,0)⟩ 1]
 |a::b::r=>qn ⟨Bw a,Bw b,(0,0),(0,0)⟩ 1::jy r
def Is(z:Cx)(x y:Int):Prop:=Fl.W z.1 x/\Fl.W z.2 y
def In(z:Cx)(M:Nat):Prop:=∃x y:Int,Is z x y/\x.natAbs<=M/\y.natAbs<=M
def Pp(l:Qd)(M:Nat):Prop:=In l.c0 M/\In l.c1 M/\In l.c2 M/\In l.c3 M
def In4(z:Cx):Prop:=∃x y:Int,Is z (4*x) (4*y)/\x.natAbs<=562949953421312/\y.natAbs<=562949953421312
open Classical in
def y9(z:Cx)(M:Nat):Bool:=decide (In z M)
open Classical in
def By(l:Qd)(M:Nat):Bool:=decide (Pp l M)
open Classical in
def Qj(l:Qd):Bool:=decide (∀k,k<4->In4 (part l (-1) k 4))
open Classical in
def Qi(z:Cx)(b:Nat):Bool:=decide (∃x y m:Int,Is z x y/\Fl.W b m/\(x.natAbs:Int)<=m/\(y.natAbs:Int)<=m/\m<=9007199254740992)
open Classical in
def OG(b:Nat):Bool:=decide (∃n:Int,Fl.W b n/\n.natAbs<=1125899906842624)
def Ih(a b:List Int)(m:Nat):Int:=(List.range (m+1)).foldl (λs i=>s+a.getD i 0*b.getD (m -i) 0) 0
def conv (a b:List Int):List Int:=if a=[]\/b=[]then[]else(List.range (a.length+b.length -1)).map (Ih a b)
def jI(a:List Int):Bool:=a.all λx=>decide (0<=x/\x<=65535)
end Gz
namespace Nr
def dA(c:UInt8):Bool:=decide (48<=c/\c<=57)
def num(d:bD):Nat:=d.foldl (λn c=>10*n+(c.toNat -48)) 0
def dec(n:Nat):bD:=if n<10 then[UInt8.ofNat (48+n)]else dec (n/10)++[UInt8.ofNat (48+n%10)]
termination_by n
decreasing_by exact Nat.div_lt_self (by omega) (by omega)
def OE:{f:Int->bD//∀v,f v=if v<0 then 45::dec v.natAbs else dec v.natAbs}:=Classical.choice ⟨⟨λv=>if v<0 then 45::dec v.natAbs else dec v.natAbs,λ_=>rfl⟩⟩
def itoa(v:Int):bD:=OE.1 v
theorem kt(v:Int):itoa v=if v<0 then 45::dec v.natAbs else dec v.natAbs:=OE.2 v
def cU(d:bD):bD:=(d.reverse.dropWhile (· ==48)).reverse
def xQ(d:bD):bD:=d.dropWhile (· ==48)
def ll(p:Nat):Nat:=if p<4503599627370496 then p else p%4503599627370496+4503599627370496
def sh(p:Nat):Nat:=p/4503599627370496 -1
def pS(p:Nat):Nat:=(2*ll p+1)*2^sh p
def jK:Nat:=2*2^1074
def iz(a b p:Nat):Prop:=pS p*b<a*jK\/(pS p*b=a*jK/\p%2=1)
def top:Nat:=9218868437227405311
open Classical in
def jW(a b:Nat):Option Nat:=if h:∃p,p<=top/\¬iz a b p/\∀q,q<p->iz a b q then some h.choose else none
def valid(d:bD):Bool:=decide (1<=d.length/\d.length<=300)&&d.all dA
def rd(n:Nat)(k:Int):Option Nat:=jW (n*10^k.toNat) (10^(-k).toNat)
def read(d:bD)(x:Int):Option Nat:=if valid d then rd (num d) (x -d.length)else none
def pat(r:Option Nat):UInt64:=UInt64.ofNat (r.getD 0)
def split(b:UInt64):Int×Bool×UInt64×Int:=
 let x:=b.toNat/4503599627370496%2048
 let f:=b.toNat%4503599627370496
 let neg:=decide (9223372036854775808<=b.toNat)
 if x=2047 then(if f=0 then(3,neg,0,0)else(4,neg,0,0))
 else if x=0 then(if f=0 then(1,neg,0,0)else(2,neg,UInt64.ofNat f,-1074))
 else(2,neg,UInt64.ofNat (4503599627370496+f),x -1075)
def H5(m:Nat)(e:Int):Nat:=m*2^e.toNat*5^(-e).toNat
def z6(m:Nat)(e:Int):bD:=cU (dec (H5 m e))
def BC(m:Nat)(e:Int):Int:=(dec (H5 m e)).length+min e 0
def times:List UInt64->UInt64->UInt64->List UInt64
 |[],_,c=>if c>0 then[c]else[]
 |a::r,b,c=>(c+a*b)%100000000::times r b ((c+a*b)/100000000)
def iV(a:bD)(x:Int)(b:bD)(y:Int):Int:=if decide (x<y)||(decide (x=y)&&Op.bytesLess a b)then -1 else if decide (x=y)&&decide (a=b)then 0 else 1
def yU(a b:Nat):Nat:=if b<2*(a% b)\/(b=2*(a% b)/\a/b%2=1)then a/b+1 else a/b
def pg(a b:Nat):Bool:=decide (yU a b=a/b+1/\yU a b=9007199254740992)
def lL(a:Nat)(e:Int):Nat:=a*2^(-e).toNat
def lu(b:Nat)(e:Int):Nat:=b*2^e.toNat
def run(s:bD):Nat:=(s.takeWhile dA).length
def qw(s:bD)(k:Int):Int:=
 match s with
 |[]=>k
 |c::r=>if c=101\/c=69 then
   let r:=match r with|d::q=>if d=43\/d=45 then q else r|[]=>r
   if run r=0\/run r<r.length then 0 else 2
  else 0
def nh(s:bD):Int:=
 match s with
 |46::r=>if run r=0 then 0 else qw (r.drop (run r)) 2
 |s=>qw s 1
def fC(s:bD):Int:=
 let t:=match s with|45::r=>r|s=>s
 if run t=0\/(t.getD 0 0=48/\1<run t)then 0 else nh (t.drop (run t))
open Classical in
def i64(v:Int):Bool:=decide (-9223372036854775808<=v/\v<=9223372036854775807)
theorem EY{v:Int}(h:i64 v=true):decide (-9223372036854775808<=v/\v<=9223372036854775807)=true:=aa (aq h)
def signed(s:bD):bD:=match s with|c::r=>if c=43\/c=45 then r else s|[]=>[]
def sr(s:bD):Int:=
 let n:Nat:=num (signed s)
 if s.getD 0 0=45 then -(n:Int)else n
def body(s:bD):bD:=match s with|45::r=>r|s=>s
def Kj(c:UInt8):Bool:=decide (c=101\/c=69)
def M8(s:bD):bD:=(body s).takeWhile λc=>!Kj c
def tail(s:bD):bD:=((body s).dropWhile λc=>!Kj c).drop 1
def ahead(s:bD):bD:=(M8 s).takeWhile (· !=46)
def behind(s:bD):bD:=((M8 s).dropWhile (· !=46)).drop 1
def uV(s:bD):UInt64×Int:=
 if fC s=0 then(0,3)
 else if 300<s.length then(0,10)
 else match read (ahead s++behind s) ((ahead s).length+sr (tail s))with|none=>(0,10)|some p=>(UInt64.ofNat (p+if s.getD 0 0=45 then 9223372036854775808 else 0),0)
def JA:{f:bD->UInt64×Int//∀s,f s=uV s}:=Classical.choice ⟨⟨uV,λ_=>rfl⟩⟩
def parse(s:bD):UInt64×Int:=JA.1 s
theorem xJ(s:bD):parse s=uV s:=JA.2 s
open Classical in
def join(neg:Bool)(m:Nat)(e:Int):Option Nat:=if h:∃p,p<=top/\ll p*2^sh p*2^(-(e+1074)).toNat=m*2^(e+1074).toNat then some (h.choose+if neg then 9223372036854775808 else 0)else none
end Nr
namespace Sh
def tA(a:Nat)(k:Int):Nat:=a*10^k.toNat
def tB(b:Nat)(k:Int):Nat:=b*10^(-k).toNat
open Classical in
def reads(p N:Nat)(k:Int):Option (bD×Int):=if Nr.rd N k=some p then some (Nr.cU (Nr.dec N),(Nr.dec N).length+k)else none
def some_(p a b:Nat)(x n:Int):Option (bD×Int):=
 let P:=tA a (n -x)
 let Q:=tB b (n -x)
 let u:=reads p (P/Q) (x -n)
 let o:=reads p (P/Q+1) (x -n)
 if u.isSome=true/\(o.isSome=false\/2*(P% Q)<Q\/(2*(P% Q)=Q/\P/Q%2=0))then u else o
def kE(p:Nat):Nat:=Nr.ll p*2^((Nr.sh p:Int) -1074).toNat
def iK(p:Nat):Nat:=2^(-((Nr.sh p:Int) -1074)).toNat
def dx(p:Nat):Int:=Nr.BC (Nr.ll p) ((Nr.sh p:Int) -1074)
def go(p:Nat):Nat->Nat->bD×Int
 |0,_=>([],0)
 |f+1,i=>(some_ p (kE p) (iK p) (dx p) i).getD (go p f (i+1))
theorem go_succ(p f i:Nat):go p (f+1) i=(some_ p (kE p) (iK p) (dx p) i).getD (go p f (i+1)):=rfl
def digits(p:Nat):bD×Int:=go p 17 1
def jP(b:UInt64):Nat:=b.toNat%9223372036854775808
def VV(b:UInt64):bD×Int×Bool:=if(Nr.split b).1=2 then((digits (jP b)).1,(digits (jP b)).2,true)else([],0,false)
def dgX:{f:UInt64->bD×Int×Bool//∀b,f b=VV b}:=Classical.choice ⟨⟨VV,λ_=>rfl⟩⟩
def dg(b:UInt64):bD×Int×Bool:=dgX.1 b
theorem O9(b:UInt64):dg b=VV b:=dgX.2 b
def eu(n:Int):bD:=List.replicate n.toNat 48
def laid(d:bD)(x:Int):bD:=
 if 1<=x/\x<=21/\(d.length:Int)<=x then d++eu (x -d.length)
 else if 1<=x/\x<=21 then d.take x.toNat++([46]++d.drop x.toNat)
 else if -5<=x/\x<=0 then[48,46]++(eu (-x)++d)
 else(d.take 1++(if 1<d.length then 46::d.drop 1 else[]))++(if x<1 then[101,45]++Nr.itoa (1 -x)else[101,43]++Nr.itoa (x -1))
def wi(p:Nat)(below LY:Int):Bool:=if p%2=0 then decide (0<=below)&&decide (LY<=0)else decide (0<below)&&decide (LY<0)
def more(d:bD)(x:Int):bD×Int:=
 let s:=(d.reverse.dropWhile (· ==57)).reverse
 if s=[]then([49],x+1)else(s.dropLast++[s.getLast?.getD 0+1],x)
def FD:{f:Nat->bD//∀n,f n=Nr.dec n}:=Classical.choice ⟨⟨Nr.dec,λ_=>rfl⟩⟩
def uM(n:Nat):bD:=FD.1 n
theorem zj(n:Nat):uM n=Nr.dec n:=FD.2 n
def FO:{f:Nat->Nat->Int->Option (bD×Int)//∀p N k,f p N k=reads p N k}:=Classical.choice ⟨⟨reads,λ_ _ _=>rfl⟩⟩
def mQ(p N:Nat)(k:Int):Option (bD×Int):=FO.1 p N k
theorem zp(p N:Nat)(k:Int):mQ p N k=reads p N k:=FO.2 p N k
def I5:{f:Nat->Nat->Nat->Int->Int->Option (bD×Int)//∀p a b x n,f p a b x n=some_ p a b x n}:=Classical.choice ⟨⟨some_,λ_ _ _ _ _=>rfl⟩⟩
def sy(p a b:Nat)(x n:Int):Option (bD×Int):=I5.1 p a b x n
theorem xm(p a b:Nat)(x n:Int):sy p a b x n=some_ p a b x n:=I5.2 p a b x n
open Classical in
def rQ(a b:Nat)(x n:Int):Bool:=decide (1<=n/\n<=17/\-380<=x/\x<=380/\0<a/\a<2^1100/\0<b/\b<2^1100/\tB b (n -x)<=tA a (n -x)/\tA a (n -x)<10^17*tB b (n -x))
def J6:{f:bD->Int->bD//∀d x,f d x=laid d x}:=Classical.choice ⟨⟨laid,λ_ _=>rfl⟩⟩
def Ga(d:bD)(x:Int):bD:=J6.1 d x
theorem CL(d:bD)(x:Int):Ga d x=laid d x:=J6.2 d x
def sign(b:UInt64):bD:=if(Nr.split b).2.1 then[45]else[]
def th(b:UInt64):bD:=
 if(Nr.split b).1=4 then[78,97,78]
 else if(Nr.split b).1=3 then sign b++[73,110,102,105,110,105,116,121]
 else if(Nr.split b).1=1 then sign b++[48]
 else sign b++laid (dg b).1 (dg b).2.1
def I0:{f:UInt64->bD//∀b,f b=th b}:=Classical.choice ⟨⟨th,λ_=>rfl⟩⟩
def text(b:UInt64):bD:=I0.1 b
theorem rO(b:UInt64):text b=th b:=I0.2 b
end Sh
set_option maxRecDepth 20000
namespace dy
def nR(r:Int):Bool:=decide (0<=r/\r<=1114111/\(r<55296\/57343<r))
def cont:Nat->Nat->bD->Option Nat
 |r,0,_=>some r
 |_,_+1,[]=>none
 |r,k+1,c::l=>if 128<=c.toNat/\c.toNat<192 then cont (r*64+(c.toNat -128)) k l else none
def pR(r more least:Nat)(l:bD):Int×Int:=
 match cont r more l with
 |some r=>if r<least\/nR r=false then(0,0)else((r:Int),(more+1:Int))
 |none=>(0,0)
def rune:bD->Int×Int
 |[]=>(0,0)
 |c::l=>
  if c.toNat<128 then((c.toNat:Int),1)
  else if 192<=c.toNat/\c.toNat<224 then pR (c.toNat -192) 1 128 l
  else if 224<=c.toNat/\c.toNat<240 then pR (c.toNat -224) 2 2048 l
  else if 240<=c.toNat/\c.toNat<248 then pR (c.toNat -240) 3 65536 l
  else(0,0)
def lA(b:bD)(i:Int):Int×Int:=if i<0\/(b.length:Int)<=i then(0,0)else rune (b.drop i.toNat)
def tR:Nat->bD->Nat×Nat
 |0,_=>(0,0)
 |n+1,l=>if(rune l).2=0 then(0,0)else let q:=tR n (l.drop (rune l).2.toNat);(q.1+(rune l).2.toNat,q.2+1)
def look(l:bD):Nat×Nat:=tR l.length l
def whole(l:bD):Bool:=decide ((look l).1=l.length)
def zero(l:bD):Bool:=l.contains 0
end dy
mutual
def bJ.bL:bJ->Nat
 |.mk n _ _ _ _ t m _ y ks=>1+n.length+t.length+m.length+y.length+bJ.cr ks
def bJ.cr:List bJ->Nat
 |[]=>0
 |f::r=>bJ.bL f+bJ.cr r
end
namespace Tree
def Ht:List bD:=[[],[100,111,117,98,108,101],[115,116,114,105,110,103],[100,111,99,117,109,101,110,116],[97,114,114,97,121],[98,105,110,97,114,121],[117,110,100,101,102,105,110,101,100],[111,98,106,101,99,116,105,100],[98,111,111,108],[100,97,116,101],[110,117,108,108],[114,101,103,101,120],[112,111,105,110,116,101,114],[99,111,100,101],[115,121,109,98,111,108],[115,99,111,112,101,100],[105,110,116,51,50],[116,105,109,101,115,116,97,109,112],[105,110,116,54,52],[100,101,99,105,109,97,108]]
def name(k:Int):bD:=
 if k=127 then[109,97,120,107,101,121]
 else if k=255 then[109,105,110,107,101,121]
 else if k<0\/20<=k then[]
 else Ht.getD k.toNat []
def kinds:List Int:=[1,2,3,4,5,6,7,8,9,10,11,12,13,14,15,16,17,18,19,127,255]
def kI(i:Nat)(k:Int):Bool:=
 match i with
 |0=>decide (k∈[1,9,17,18,16,8])
 |1=>decide (k=19)
 |2=>decide (k∈[2,13,14,11,12,15])
 |3=>decide (k=11)
 |4=>decide (k=5)
 |5=>decide (k∈[5,7,12])
 |_=>decide (k∈[3,4,15])
def ia(v:Val):Bool:=
 (kI 0 v.kind||decide (v.bits=0))&&(kI 1 v.kind||(decide (v.high=0)&&decide (v.low=0)))&&(kI 2 v.kind||decide (v.text=[]))&&(kI 3 v.kind||decide (v.more=[]))&&
 (kI 4 v.kind||decide (v.sub=0))&&(kI 5 v.kind||decide (v.bytes=[]))&&(kI 6 v.kind||decide (v.kids=[]))&&
 (!decide (v.kind=16)||decide (v.bits<4294967296))&&(!decide (v.kind=8)||decide (v.bits<2))&&(decide (0<=v.sub)&&decide (v.sub<=255))&&(!(decide (v.kind=7)||decide (v.kind=12))||decide (v.bytes.length=12))
def fj(s:bD)(plain:Bool):Bool:=dy.whole s&&!(plain&&dy.zero s)
def own(v:Val):Int:=
 if name v.kind=[]then 5
 else if ia v=false then 1
 else if fj v.text (decide (v.kind=11))=false\/fj v.more (decide (v.kind=11))=false then 4
 else 0
def si(v:Val)(n:bD):Int:=if own v≠0 then own v else if fj n true=false then 4 else 0
mutual
def fW:bJ->List Int->List Int×Int
 |.mk n k b h l t m s y ks,p=>if si ⟨k,b,h,l,t,m,s,y,ks⟩ n≠0 then(p,si ⟨k,b,h,l,t,m,s,y,ks⟩ n)else lj ks 0 p
def lj:List bJ->Nat->List Int->List Int×Int
 |[],_,_=>([],0)
 |f::r,i,p=>if(fW f (p++[(i:Int)])).2≠0 then fW f (p++[(i:Int)])else lj r (i+1) p
end
end Tree
namespace fZ
def room(left:Int):List Int->Int
 |[]=>left
 |s::r=>if left<0\/left<s then -1 else room (left -s) r
mutual
def value(left:Int):bJ->Int
 |.mk _ _ _ _ _ t m _ y ks=>values (room left [2,t.length,m.length,y.length]) ks
def values(left:Int):List bJ->Int
 |[]=>left
 |f::r=>if left<0 then left else values (value (room left [(f.name.length:Int)]) f) r
end
end fZ
namespace Tree
def ma:Nat->List bJ->Bool
 |_,[]=>true
 |i,f::r=>decide (f.name=jI i)&&ma (i+1) r
def regular(l:List bJ):Bool:=ma 0 l
end Tree
end Go.Eng
set_option maxRecDepth 20000
namespace Go.Eng.kv
def sign(n:Nat):UInt8:=List.getD [48,49,50,51,52,53,54,55,56,57,97,98,99,100,101,102] n 0
def two(x:UInt8):bD:=[sign (x.toNat/16),sign (x.toNat%16)]
def text:bD->bD
 |[]=>[]
 |x::r=>two x++text r
end Go.Eng.kv
set_option maxRecDepth 20000
namespace Go.Eng
def dP.SG:{f:dP->Nat//∀a,f a=a.high.toNat*18446744073709551616+a.low.toNat}:=Classical.choice ⟨⟨λa=>a.high.toNat*18446744073709551616+a.low.toNat,λ_=>rfl⟩⟩
def dP.val(a:dP):Nat:=dP.SG.1 a
theorem dP.iI(a:dP):a.val=a.high.toNat*18446744073709551616+a.low.toNat:=dP.SG.2 a
def dP.of(n:Nat):dP:=⟨UInt64.ofNat (n/18446744073709551616),UInt64.ofNat n⟩
namespace Cn
def vM:bD:=[65,66,67,68,69,70,71,72,73,74,75,76,77,78,79,80,81,82,83,84,85,86,87,88,89,90,97,98,99,100,101,102,103,104,105,106,107,108,109,110,111,112,113,114,115,116,117,118,119,120,121,122,48,49,50,51,52,53,54,55,56,57,43,47]
def sign(c:UInt8):UInt8:=List.getD vM ((c.toNat:Int)).toNat 0
def base:bD->bD
 |a::b::c::r=>sign (nP a 2)::sign (oe (a&&&3) 4|||nP b 4)::sign (oe (b&&&15) 2|||nP c 6)::sign (c&&&63)::base r
 |[a,b]=>[sign (nP a 2),sign (oe (a&&&3) 4|||nP b 4),sign (oe (b&&&15) 2),61]
 |[a]=>[sign (nP a 2),sign (oe (a&&&3) 4),61,61]
 |[]=>[]
def sL(h l:UInt64):Int×Bool×dP×Int:=
 let neg:=decide (cE h 63=1)
 let Ra:=cE h 58&&&31
 if Ra=31 then(3,neg,⟨0,0⟩,0)
 else if Ra=30 then(2,neg,⟨0,0⟩,0)
 else if cE Ra 3=3 then(1,neg,⟨0,0⟩,((cE h 47&&&16383).toNat:Int) -6176)
 else(1,neg,if dP.val ⟨h&&&562949953421311,l⟩<10000000000000000000000000000000000 then⟨h&&&562949953421311,l⟩else⟨0,0⟩,((cE h 49&&&16383).toNat:Int) -6176)
def I3:{f:UInt64->UInt64->Int×Bool×dP×Int//∀h l,f h l=sL h l}:=Classical.choice ⟨⟨sL,λ_ _=>rfl⟩⟩
def split(h l:UInt64):Int×Bool×dP×Int:=I3.1 h l
theorem tn(h l:UInt64):split h l=sL h l:=I3.2 h l
def rh:dP:=⟨542101086242752,4003012203950112768⟩
def CO(neg:Bool)(c:dP)(x:Int):UInt64×UInt64×Bool:=
 if 10000000000000000000000000000000000<=c.val\/x< -6176\/6111<x then(0,0,false)
 else(cond neg ((iS (UInt64.ofInt (x+6176)) 49|||c.high)|||9223372036854775808) (iS (UInt64.ofInt (x+6176)) 49|||c.high),c.low,true)
def OB:{f:Bool->dP->Int->UInt64×UInt64×Bool//∀n c x,f n c x=CO n c x}:=Classical.choice ⟨⟨CO,λ_ _ _=>rfl⟩⟩
def join(n:Bool)(c:dP)(x:Int):UInt64×UInt64×Bool:=OB.1 n c x
theorem join_eq(n:Bool)(c:dP)(x:Int):join n c x=CO n c x:=OB.2 n c x
def mS(h l:UInt64):Bool:=
 let s:=split h l
 if s.1=3 then decide (h=8935141660703064064)&&decide (l=0)
 else if s.1=2 then decide (h&&&~~~9223372036854775808=8646911284551352320)&&decide (l=0)
 else(join s.2.1 s.2.2.1 s.2.2.2).2.2&&decide ((join s.2.1 s.2.2.1 s.2.2.2).1=h)&&decide ((join s.2.1 s.2.2.1 s.2.2.2).2.1=l)
def laid(d:bD)(x:Int):bD:=
 let n:Int:=d.length
 if x=0 then d
 else if x<0/\-6<=x+n -1 then
  let e:=if n<=-x then List.replicate (1 -x -n).toNat 48++d else d
  e.take (e.length+x).toNat++46::e.drop (e.length+x).toNat
 else
  let t:=if 1<n then d.take 1++46::d.drop 1 else d.take 1
  if x+n -1<0 then t++[69,45]++Nr.itoa (-(x+n -1))else t++[69,43]++Nr.itoa (x+n -1)
def qa(h l:UInt64):bD:=
 let s:=split h l
 if s.1=3 then[78,97,78]
 else
  let t:=if s.1=2 then[73,110,102,105,110,105,116,121]else laid (Nr.dec s.2.2.1.val) s.2.2.2
  cond s.2.1 (45::t) t
def str(s:bD):cQ:=⟨5,s,[]⟩
def num(v:Int):cQ:=⟨4,Nr.itoa v,[]⟩
def one(n:bD)(j:cQ):cQ:=⟨7,[],[Mem.of n j]⟩
def two(n:bD)(j:cQ)(m:bD)(k:cQ):cQ:=⟨7,[],[Mem.of n j,Mem.of m k]⟩
def b8(v:UInt64):bD:=[56,48,40,32,24,16,8,0].map λn=>UInt8.ofInt ((cE v n).toNat:Int)
def high(v:UInt64):bD:=kv.text (b8 v)
def i64(b:UInt64):Int:=IntKind.wrap .i64 b.toNat
def i32(b:UInt64):Int:=IntKind.wrap .i64 (IntKind.wrap .i32 b.toNat)
def mC(v:Val):cQ×Bool:=
 if v.kind=1 then
  if decide (Sh.text v.bits=[78,97,78])&&!decide (v.bits=9221120237041090560)then(one [36,100,111,117,98,108,101,66,105,116,115] (str (high v.bits)),true)
  else(one [36,110,117,109,98,101,114,68,111,117,98,108,101] (str (Sh.text v.bits)),true)
 else if v.kind=9 then(one [36,100,97,116,101] (one [36,110,117,109,98,101,114,76,111,110,103] (str (Nr.itoa (i64 v.bits)))),true)
 else if v.kind=16 then(one [36,110,117,109,98,101,114,73,110,116] (str (Nr.itoa (i32 v.bits))),true)
 else if v.kind=18 then(one [36,110,117,109,98,101,114,76,111,110,103] (str (Nr.itoa (i64 v.bits))),true)
 else if v.kind=17 then(one [36,116,105,109,101,115,116,97,109,112] (two [116] (num (i64 (cE v.bits 32))) [105] (num (i64 (v.bits&&&4294967295)))),true)
 else if v.kind=19 then
  if mS v.high v.low then(one [36,110,117,109,98,101,114,68,101,99,105,109,97,108] (str (qa v.high v.low)),true)
  else(one [36,100,101,99,105,109,97,108,66,105,116,115] (str (high v.high++high v.low)),true)
 else(⟨0,[],[]⟩,false)
def nq(v:Val):cQ:=
 if v.kind=5 then one [36,98,105,110,97,114,121] (two [98,97,115,101,54,52] (str (base v.bytes)) [115,117,98,84,121,112,101] (str (kv.text [UInt8.ofInt v.sub])))
 else if v.kind=7 then one [36,111,105,100] (str (kv.text v.bytes))
 else if v.kind=11 then one [36,114,101,103,117,108,97,114,69,120,112,114,101,115,115,105,111,110] (two [112,97,116,116,101,114,110] (str v.text) [111,112,116,105,111,110,115] (str v.more))
 else if v.kind=12 then one [36,100,98,80,111,105,110,116,101,114] (two [36,114,101,102] (str v.text) [36,105,100] (one [36,111,105,100] (str (kv.text v.bytes))))
 else if v.kind=13 then one [36,99,111,100,101] (str v.text)
 else if v.kind=14 then one [36,115,121,109,98,111,108] (str v.text)
 else str v.text
def lx(v:Val):cQ:=
 if v.kind=6 then one [36,117,110,100,101,102,105,110,101,100] ⟨3,[],[]⟩
 else if v.kind=8 then⟨IntKind.wrap .i64 (2+i64 v.bits),[],[]⟩
 else if v.kind=10 then⟨1,[],[]⟩
 else if v.kind=255 then one [36,109,105,110,75,101,121] (num 1)
 else if v.kind=127 then one [36,109,97,120,75,101,121] (num 1)
 else if(mC v).2 then(mC v).1
 else nq v
def mW:List bJ->Bool
 |f::_=>decide (f.name.take 1=[36])
 |[]=>false
def pE(m:Mem):Mem:=Mem.of [] m.val
mutual
def oX:bJ->cQ
 |.mk _ k b h l t m s y ks=>
  if k=3 then cond (mW ks) (one [36,100,111,99,117,109,101,110,116] ⟨7,[],ja ks⟩) ⟨7,[],ja ks⟩
  else if k=4 then cond (Tree.regular ks) ⟨6,[],(ja ks).map pE⟩ (one [36,97,114,114,97,121] ⟨7,[],ja ks⟩)
  else if k=15 then two [36,99,111,100,101] (str t) [36,115,99,111,112,101] ⟨7,[],ja ks⟩
  else lx ⟨k,b,h,l,t,m,s,y,ks⟩
def ja:List bJ->List Mem
 |[]=>[]
 |f::r=>Mem.of f.name (oX f)::ja r
end
def BL(v:Val):cQ:=oX (bJ.of [] v)
def ug(l:List bJ):cQ:=⟨7,[],ja l⟩
def fY(v:Val):List Int×Int:=if(Tree.fW (bJ.of [] v) []).2≠0 then Tree.fW (bJ.of [] v) []else if v.kind=3 then([],0)else([],5)
def lN(v:Val):cQ:=if(fY v).2=0 then ug v.kids else⟨0,[],[]⟩
def Yl:bD:=[34,92,98,102,110,114,116]
def we(c:UInt8):bD:=
 if 0<=Lib.indexByte [34,92,8,12,10,13,9] c then[92,List.getD Yl (Lib.indexByte [34,92,8,12,10,13,9] c).toNat 0]
 else if c<32 then[92,117,48,48]++kv.text [c]
 else[c]
def quote(s:bD):bD:=34::(s.flatMap we++[34])
def iT(s:bD):bD:=cond (dy.whole s) (quote s) []
mutual
def rI:Mem->Int
 |.mk _ k t ks=>
  if k<1\/7<k then 1
  else if ks≠[]/\k≠6/\k≠7 then 1
  else if t≠[]/\k≠4/\k≠5 then 1
  else if k=6/\(ks.any fun m=>!decide (m.name=[]))=true then 1
  else if k=4/\(Nr.fC t=0\/300<t.length)then 10
  else if k=5/\dy.whole t=false then 4
  else ko ks
def ko:List Mem->Int
 |[]=>0
 |m::r=>if dy.whole m.name=false then 4 else if rI m≠0 then rI m else ko r
end
mutual
def wo:Mem->bD
 |.mk _ k t ks=>
  if k=1 then[110,117,108,108]else if k=2 then[102,97,108,115,101]else if k=3 then[116,114,117,101]else if k=4 then t else if k=5 then iT t
  else cond (decide (k=7)) 123 91::(nW (decide (k=7)) true ks++[cond (decide (k=7)) 125 93])
def nW(obj:Bool):Bool->List Mem->bD
 |_,[]=>[]
 |first,m::r=>cond first [] [44]++(cond obj (iT m.name++[58]) []++(wo m++nW obj false r))
end
def iA(j:cQ):Int:=rI (Mem.of [] j)
def rq(j:cQ):bD:=wo (Mem.of [] j)
def oH(j:cQ):bD:=cond (decide (iA j=0)) (rq j) []
def lK(v:Val):List Int×Int:=if(fY v).2≠0 then fY v else([],iA (lN v))
def vK(v:Val):bD:=if(fY v).2≠0 then[]else oH (lN v)
mutual
def vP:Mem->Mem->Bool
 |.mk _ k t ks,.mk _ k' t' ks'=>decide (k=k')&&decide (t=t')&&mw ks ks'
def mw:List Mem->List Mem->Bool
 |[],[]=>true
 |m::r,m'::r'=>decide (m.name=m'.name)&&vP m m'&&mw r r'
 |_,_=>false
end
def qR(a b:cQ):Bool:=vP (Mem.of [] a) (Mem.of [] b)
end Cn
mutual
def Mem.bL:Mem->Nat
 |.mk n _ t ks=>1+n.length+t.length+Mem.cr ks
def Mem.cr:List Mem->Nat
 |[]=>0
 |m::r=>Mem.bL m+Mem.cr r
end
def cQ.bL(j:cQ):Nat:=Mem.bL (Mem.of [] j)
end Go.Eng
