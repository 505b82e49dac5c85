/- Texts of my own, one behind the other: XW, XX, XY, XT, VA, XZ, YA, YB, YC, YD, YE, YF, YG, VB, YH, XArithP, YI. -/
import Derived.Test.YtjkjoincmkmglaaGreatDoorT1
import Derived.Laws.Externs
import Derived.Lib.BytesEntry
import Derived.Deep.LoopGhost
import Derived.ScopeJumps
import Derived.IntWalk
set_option linter.defProp false
set_option linter.unusedVariables false
set_option linter.unusedSimpArgs false
open Decidable renaming decide→nP
open Option renaming some→Bm
open Option renaming none→Kk
open Bool renaming true→Qf
open Bool renaming false→Qg
noncomputable section
namespace Go.Eng
open Go.RowKit
section
variable{C:Ctx}{S V:St}{a:Act}{w w':World}{R:Reach}{τ:Nat->Value}{o:Oper}{d:Nat}
theorem eI.V8(h:eI C S a w R τ){k2:Nat}{v:Value}{x:TV}{R':Reach}(ri:(S k2).2=.no/\k2<1000000/\C.nt<=k2)(dr:eH R w R' w')(hn:∀b o,R' b o->R b o\/Value.fP v=Bm b)(os:w'.os=w.os)(tape:w'.tape=w.tape)(out:w'.output=w.output)(size:w.heap.size<=w'.heap.size)(heap:∀b,Value.fP v≠Bm b->b<w.heap.size->w'.heap[b]?=w.heap[b]?)(hb:∀b,Value.fP v=Bm b->w.heap.size<=b/\b<w'.heap.size)(new:kt R' w' τ x .pv v):eI C (cH S k2 (x,.pv)) a w' R' (ta τ k2 v):=by
 have Vh:∀b,b<w.heap.size->Value.fP v≠Bm b:=λb h1 h2=>by{have:=(hb b h2).1;omega};refine⟨h.size,h.defers,h.core.jN ri.2.2 dr (λj b _ Ef=>?_) new (.inr ri.1) ⟨by rw[ri.1];rfl,rfl⟩ (by simp) (λ_=>.inr ri.1) (λb _ hv=>⟨.inr (Nat.le_trans h.ext.size (hb b hv).1),.inl (hb b hv).1⟩) (by simp[Gh.cQ]) (λb o hr=>?_),
  λt ht=>by rw[fN _ _ (by omega)];exact h.tmps t ht,⟨h.io.1,λj hj=>by rw[fN _ _ (by omega)];exact h.io.2 j hj⟩,
  h.ext.trans (io':=λb=>Value.fP v=Bm b) ⟨os,tape,out,size,λb lu hv=>heap b hv lu,dr,λb o hr=>(hn b o hr).imp id .inr⟩ (λb hv=>.inr (Nat.le_trans h.ext.size (hb b hv).1)),h.gl.dr dr⟩
 {have hl:=h.core.lt Ef;exact⟨heap b (Vh b hl) hl,λo hr=>(hn b o hr).resolve_right (Vh b hl)⟩};{rcases hn b o hr with hr|hr;{have:=h.core.th b o hr;omega};{exact(hb b hr).2}}
theorem eI.recover(h:eI C S a w R τ){k c:Nat}{x:TV}(hk:S k=(x,.pw c)):eI C (cH (cH S k (x,.pv)) c (.dead,.zz)) a w R τ:=⟨h.size,h.defers,by have:=h.core.recover hk;rwa[xg,xg]at this,h.tmps,h.io,h.ext,h.gl⟩
variable(h:eI C S a w R τ)(hV:Lt V S)
include h hV
section
variable(hd:o.dst=Bm d)(hl:d<C.nt)
include hd hl
theorem go_app (hE:ku C.P C.E) {t u:TypeId} {x y:Operand} {st:eu} {sK k k2:Nat} {l m:List st.El} {news:List Value} {du:TypeDesc} {g c:Gh} {z:TV} (ho:o.op = .call { callee := .builtin .append,args:=#[x,y],argTypes:=#[t,u] }) (ht:C.E.ty t=Bm (st,sK)) (hx:gU C.E C.nt V t x=Bm (.pt,.dB k)) (hk:S k=(.sl st l,g))
  (hu:C.P.underlying u=Bm du) (Ca:∀k,du ≠ .int k) (yO:Source C.P w st.size (a.eval y) m.length news) (hL:dn R w ((m.map st.tv).flatMap TV.cells) news) (AW:dU (l.length+m.length) sK=Qf) (ri:(S k2).2 = .no∧k2<1000000∧C.nt≤k2) (hg:(g = .pv∧c = .zz∧z = .dead)∨(g = .lv∧c = .us∧z = .sl st l)) :
  eW C o a w (cH (cH (cH S k (z,c)) k2 (.sl st (l++m),g)) d (.pt,.dB k2)):=by
 obtain ⟨e,i,zv,h1,h2,h3,h4,h5,h6,h7⟩:=hE.ty _ _ _ ht
 obtain ⟨q1,_,q3⟩:=gR h hV hx
 have hv:a.eval x=τ k:=q1.1
 have hK:=h.core.key k
 rw [hk] at hK
 simp only [dU,ah,aC] at AW
 have NM:g.own=Qf∧g.HF=Qg∧g.slot=Qg:=by rcases hg with ⟨rfl,_⟩ | ⟨rfl,_⟩ <;> exact ⟨rfl,rfl,rfl⟩
 obtain ⟨p,hp,hpk⟩:∃p,fi R w p (τ k) (.sl st l)∧∀R w τ x v,kt R w τ x g v=fi R w p v x:=by rcases hg with ⟨rfl,_⟩ | ⟨rfl,_⟩ <;> exact ⟨_,hK,fun _ _ _ _ _=>rfl⟩
 obtain ⟨v,w',R',lr,hs,dr,hn,os,tape,out,size,heap,hb,yT⟩:=TX (P:=C.P) (ty:=o.type) h.core.th h1 h2 h5 (by rw [h3];exact h6) hu Ca h3 hp yO hL AW.1 (by rw [h4];exact AW.2)
 have B6:v.oneCell'=Qf:=by
  rcases hs.cells with ⟨_,rfl⟩ | ⟨_,_,_,_,_,rfl,_⟩ <;> rfl
 have wJ:=h.Td (k:=k) (k2:=k2) (x := .sl st (l++m)) (g:=g) (c:=c) (y:=z) ⟨(q3 k (by simp [Gh.cQ])).1,by rw [hk];exact ⟨NM.1,NM.2.1⟩⟩ ri dr hn os tape out size heap hb (by rcases hg with ⟨rfl,_⟩ | ⟨rfl,_⟩ <;> simp) (by rw [hpk];exact hs)
  (by rcases hg with ⟨_,rfl,_⟩ | ⟨_,rfl,_⟩ <;> simp) (by
   rcases hg with ⟨_,rfl,_⟩ | ⟨rfl,rfl,rfl⟩
   ·trivial
   ·exact (fi.rep hK).1.mono dr)
 refine wJ.yV (v:=v) hd hl ?_ (g := .dB k2) ⟨(fw _ _ _).symm,B6⟩ rfl fun j hj=>?_
 ·simp only [execOp,ho,hv,Sem.run_bind]
  have:(Builtin.append_ #[t,u] o.type #[τ k,a.eval y]).run C.P w = .ok v w':=lr
  simp [resolve,invoke,builtin,this,hv]
 ·simp only [Gh.cQ,List.mem_singleton] at hj
  subst hj
  exact ⟨ri.2.2,by rw [bR];rcases hg with ⟨rfl,_⟩ | ⟨rfl,_⟩ <;> simp⟩
theorem go_lend(hE:ku C.P C.E){t u:TypeId}{x y:Operand}{st:eu}{sK k k2:Nat}{l m:List st.El}{news:List Value}{du:TypeDesc}(ho:o.op=.call {callee:=.builtin .append,args:=#[x,y],argTypes:=#[t,u]})(ht:C.E.ty t=Bm (st,sK))(hv:a.eval x=τ k)(NK:C.nt<=k)(hk:S k=(.sl st l,.pv))(hu:C.P.underlying u=Bm du)(Ca:∀k,du≠.int k)(yO:Source C.P w st.size (a.eval y) m.length news)(hL:dn R w ((m.map st.tv).flatMap TV.cells) news)(AW:dU (l.length+m.length) sK=Qf)(ri:(S k2).2=.no/\k2<1000000/\C.nt<=k2):eW C o a w (cH (cH (cH S k (.sl st l,.pw k2)) k2 (.sl st (l++m),.pc k)) d (.pt,.dB k2)):=by
 have _:=hV;obtain⟨e,i,zv,h1,h2,h3,h4,h5,h6,h7⟩:=hE.ty _ _ _ ht;have hK:fi R w Qg (τ k) (.sl st l):=by{have:=h.core.key k;rw[hk]at this;exact this};simp only[dU,ah,aC]at AW;have nc:k2≠k:=by{rintro rfl;rw[hk]at ri;cases ri.1};obtain⟨v,w',R',lr,hs,dr,hn,os,tape,out,size,heap,hb,yT⟩:=TX (P:=C.P) (ty:=o.type) h.core.th h1 h2 h5 (by rw[h3];exact h6) hu Ca h3 hK yO hL AW.1 (by rw[h4];exact AW.2);have B6:v.oneCell'=Qf:=by{rcases hs.cells with⟨_,rfl⟩|⟨_,_,_,_,_,rfl,_⟩<;>rfl};have wJ:=h.Td (k:=k) (k2:=k2) (x:=.sl st (l++m)) (g:=.pv) (c:=.zz) (y:=.dead) ⟨NK,by rw[hk];exact⟨rfl,rfl⟩⟩ ri dr hn os tape out size heap hb (.inl rfl) hs (.inl rfl) trivial;have own:∀b,gb (ta τ k2 v) (.pw k2) (τ k)=Bm b->Value.fP (τ k)=Bm b/\Value.fP v≠Bm b:=λb lu=>by{simp only[gb,fw]at lu;split at lu;{cases lu};{rename_i ZJ;exact⟨lu,λe=>ZJ (by rw[lu,e])⟩}};have hp:T8 R' w' (ta τ k2 v k) (.sl st l) (ta τ k2 v k2):=by
  rw[fw,fN _ _ (Ne.symm nc)];cases Ma:Value.fP (τ k)with
  |none=>exact .inl ⟨hK.dr dr λg hg=>(by rw[Ma]at hg;cases hg),.inl Ma⟩
  |some b=>by_cases Xa:Value.fP v=Bm b;{obtain⟨g,cap,q,e1,e2⟩:=yT b Xa Ma;refine .inr ⟨st,l,g,cap,_,rfl,?_,e2⟩;obtain⟨t2,l2,e3,⟨_,e4⟩|⟨g',cap',_,_,_,e4,_⟩⟩:=hK;{rw[e4]at Ma;cases Ma};{cases e3;rw[e1]at e4;cases e4;exact e1}};{refine .inl ⟨hK.dr dr λg hg=>?_,.inr (by rw[Ma];exact Ne.symm Xa)⟩;rw[Ma]at hg;cases hg;exact⟨heap b Xa (hK.lt Ma),λo hr=>(hn b o hr).resolve_right Xa⟩}
 have e1:cH (cH S k (.dead,.zz)) k2 (.sl st (l++m),.pv) k=(.dead,.zz):=by{rw[cO _ _ (Ne.symm nc),bR]};have Z3:=wJ.core.Wu (k:=k) (d:=k2) (t:=st) (l:=l) (m:=m) NK ri.2.2 e1 (bR ..) hp (λb lu=>by
  rw[fN _ _ (Ne.symm nc)]at lu;obtain⟨q1,q2⟩:=own b lu;have hkb:fP τ S k=Bm b:=gC (by rw[hk];rfl) (by rw[hk];rfl) q1;refine⟨h.core.dz k b hkb,λj hj=>?_⟩;by_cases c1:j=k2;{rw[c1]at hj;have:=(ft hj).2;rw[fw]at this;exact q2 this}
  ·by_cases c2:j=k;{rw[c2]at hj;have:=(ft hj).1;rw[e1]at this;cases this}
   ·have ej:cH (cH S k (.dead,.zz)) k2 (.sl st (l++m),.pv) j=S j:=by{rw[cO _ _ c1,cO _ _ c2]};have wK:fP τ S j=Bm b:=by{unfold fP at hj⊢;rw[ej,fN _ _ c1]at hj;rw[<-hj,Mg λq hq=>?_];refine(fN _ _ ?_).symm;rintro rfl;exact(h.core.inv j q hq).2 ri.1};exact c2 (h.core.sep _ _ _ wK hkb))
 rw[xg,xg]at Z3;have e2:cH (cH (cH (cH S k (.dead,.zz)) k2 (.sl st (l++m),.pv)) k (.sl st l,.pw k2)) k2 (.sl st (l++m),.pc k)=cH (cH S k (.sl st l,.pw k2)) k2 (.sl st (l++m),.pc k):=by{funext j;by_cases c1:j=k2;{rw[c1,bR,bR]};{by_cases c2:j=k;{rw[c2,cO _ _ (Ne.symm nc),bR,cO _ _ (Ne.symm nc),bR]};{rw[cO _ _ c1,cO _ _ c2,cO _ _ c1,cO _ _ c2,cO _ _ c1,cO _ _ c2]}}};rw[e2]at Z3;have Jn:eI C (cH (cH S k (.sl st l,.pw k2)) k2 (.sl st (l++m),.pc k)) a w' R' (ta τ k2 v):=⟨wJ.size,wJ.defers,Z3,wJ.tmps,wJ.io,wJ.ext,wJ.gl⟩;refine Jn.yV (v:=v) hd hl ?_ (g:=.dB k2) ⟨(fw _ _ _).symm,B6⟩ rfl λj hj=>?_;{have:(Builtin.append_ #[t,u] o.type #[τ k,a.eval y]).run C.P w=.ok v w':=lr;simp[execOp,ho,resolve,invoke,builtin,this,hv]};{simp only[Gh.cQ,List.mem_singleton]at hj;subst hj;exact⟨ri.2.2,by rw[bR];simp⟩}
theorem go_apn(hE:ku C.P C.E){t u:TypeId}{x y:Operand}{st:eu}{sK k2:Nat}{m:List st.El}{news:List Value}{du:TypeDesc}(ho:o.op=.call {callee:=.builtin .append,args:=#[x,y],argTypes:=#[t,u]})(ht:C.E.ty t=Bm (st,sK))(hx:gU C.E C.nt V t x=Bm (.nl st,.no))(hu:C.P.underlying u=Bm du)(Ca:∀k,du≠.int k)(yO:Source C.P w st.size (a.eval y) m.length news)(hL:dn R w ((m.map st.tv).flatMap TV.cells) news)(AW:dU m.length sK=Qf)(ri:(S k2).2=.no/\k2<1000000/\C.nt<=k2):eW C o a w (cH (cH S k2 (.sl st m,.pv)) d (.pt,.dB k2)):=by
 obtain⟨e,i,zv,h1,h2,h3,h4,h5,h6,h7⟩:=hE.ty _ _ _ ht;have hv:a.eval x=.slice Kk 0 0:=by
  have:=fe h hV hx;generalize a.eval x=v at this⊢;cases this with
  |sc h=>cases h
  |nl=>rfl
 simp only[dU,ah,aC]at AW;obtain⟨v,w',R',lr,hs,dr,hn,os,tape,out,size,heap,hb,yT⟩:=TX (P:=C.P) (ty:=o.type) (p:=Qg) (x0:=.slice Kk 0 0) (l:=[]) h.core.th h1 h2 h5 (by rw[h3];exact h6) hu Ca h3 ⟨st,[],rfl,.inl ⟨rfl,rfl⟩⟩ yO hL (by simpa using AW.1) (by rw[h4];simpa using AW.2);have B6:v.oneCell'=Qf:=by{rcases hs.cells with⟨_,rfl⟩|⟨_,_,_,_,_,rfl,_⟩<;>rfl};refine(h.V8 (x:=.sl st m) ri dr hn os tape out size heap (λb hv=>⟨(hb b hv).1.resolve_right (by simp[Value.fP]),(hb b hv).2⟩) hs).yV (v:=v) hd hl ?_ (g:=.dB k2) ⟨(fw _ _ _).symm,B6⟩ rfl λj hj=>?_;{have:(Builtin.append_ #[t,u] o.type #[.slice Kk 0 0,a.eval y]).run C.P w=.ok v w':=lr;simp[execOp,ho,resolve,invoke,builtin,this,hv]};{simp only[Gh.cQ,List.mem_singleton]at hj;subst hj;exact⟨ri.2.2,by rw[bR];simp⟩}
theorem go_psl{t:TypeId}{x y:Operand}{st:eu}{k k2:Nat}{l:List st.El}{n:Int}(hE:ku C.P C.E)(ho:o.op=.slice t x Kk (Bm y) Kk)(ht:wT C.E t st=Qf)(hx:gU C.E C.nt V t x=Bm (.pt,.dB k))(hk:S k=(.sl st l,.pv))(hy:pF C.E C.nt V (Bm y)=Bm (Bm n))(hc:iF 0 n l.length=Qf)(ri:(S k2).2=.no/\k2<1000000/\C.nt<=k2):eW C o a w (cH (cH (cH S k (.dead,.zz)) k2 (.sl st (l.take n.toNat),.pv)) d (.pt,.dB k2)):=by obtain⟨e,inf,ht,pG,hz⟩:=sx hE ht;obtain⟨q1,_,q3⟩:=gR h hV hx;have hv:a.eval x=τ k:=q1.1;have hK:=h.core.key k;rw[hk]at hK;have hb:=λcap yT=>bounds h hV (lo:=Kk) (p:=Kk) rfl hy hc Qf (cap:=cap) yT (λe=>by cases e);simp only[Option.getD_some,Option.getD_none]at hb;obtain⟨_,_,k2'⟩:=hb l.length (Nat.le_refl _);generalize hu:n.toNat=u at*;have gS:(l.take u).length=u:=by{rw[aJ];omega};have fin:∀v,(execOp a.eval o).run C.P w=.ok (.value v) w->fi R w Qg v (.sl st (l.take u))->(∀b,Value.fP v=Bm b->Value.fP (τ k)=Bm b)->v.oneCell'=Qf->eW C o a w (cH (cH (cH S k (.dead,.zz)) k2 (.sl st (l.take u),.pv)) d (.pt,.dB k2)):=λv lr hs hb B6=>by{have wJ:=h.Td (w':=w) (R':=R) (k:=k) (k2:=k2) (v:=v) (x:=.sl st (l.take u)) (g:=.pv) (c:=.zz) (y:=.dead) ⟨(q3 k (by simp[Gh.cQ])).1,by rw[hk];exact⟨rfl,rfl⟩⟩ ri (eH.refl _ _) (λ_ _=>.inl) rfl rfl rfl (Nat.le_refl _) (λ_ _ _=>rfl) (λb lu=>⟨.inr (hb b lu),hs.lt lu⟩) (.inl rfl) hs (.inl rfl) trivial;refine wJ.yV (v:=v) hd hl lr (g:=.dB k2) ⟨(fw _ _ _).symm,B6⟩ rfl λj hj=>?_;simp only[Gh.cQ,List.mem_singleton]at hj;subst hj;exact⟨ri.2.2,by rw[bR];simp⟩};rcases fi.cells hK with⟨rfl,e1⟩|⟨g,cap,cur,ce,fz,e1,e2,e3,e4,e5,e6,e7,e8⟩;{obtain rfl:u=0:=by{simpa using k2'};have tp:=(hb 0 (by simp)).1;simp only[ay]at tp;refine fin (.slice Kk 0 0) ?_ ⟨st,[],rfl,.inl ⟨rfl,rfl⟩⟩ (λb hb=>by cases hb) rfl;simp only[execOp,ho,hv,e1,Instr.sliceAt,Instr.slice,Sem.run_bind,run_underlying ht,Result.andThen_ok,Option.map_none,Option.map_some,Ub pG,Sem.run_pure];simp at tp;simp[tp]};{have tp:=(hb cap e5).1;refine fin (.slice (Bm ⟨g,0,Kk⟩) u cap) ?_ ⟨st,l.take u,rfl,.inr ⟨g,cap,cur,ce,fz,by rw[gS],e2,e3,e4,by omega,e6,?_,λo=>⟨λhr=>by simpa using(e8 o).1 hr,λhr=>by simp at hr⟩⟩⟩ (λb hb=>by rw[e1];exact hb) rfl;{simp only[execOp,ho,hv,e1,Instr.sliceAt,Instr.slice,Sem.run_bind,run_underlying ht,Result.andThen_ok,Option.map_none,Option.map_some,Ub pG,Sem.run_pure];simp at tp;simp[tp,Uc]};{rw[gS];have:((l.take u).map st.tv).flatMap TV.cells=((l.map st.tv).flatMap TV.cells).take (u*st.size):=by{have e:=congrArg (λm:List st.El=>(m.map st.tv).flatMap TV.cells) (List.take_append_drop u l);simp only[List.map_append,List.flatMap_append]at e;rw[<-e,show u*st.size=(((l.take u).map st.tv).flatMap TV.cells).length by rw[oA,gS],List.take_left]};rw[this];have hle:u*st.size<=l.length*st.size:=aA _ k2';have:=e7.take (u*st.size);rwa[List.take_take,Nat.min_eq_left hle]at this}}
end
theorem go_stt(hd:o.dst=Kk){x v:Operand}{t:TypeId}{inf:TypeInfo}{m q k:Nat}{cs:List TV}{ts:List (Nat×Nat)}(ho:o.op=.store t x v)(hi:C.P.info? t=Bm inf)(hn:inf.size=1)(hx:gU C.E C.nt V 0 x=Bm (.pt,.ptr m q))(hm:S m=(.ag cs,.cl ts))(hv:gU C.E C.nt V t v=Bm (.pt,.dB k))(nq:q<cs.length)(nc:k≠m)(Um:∀t∈ts,t.2≠m):eW C o a w (cH S m (.ag (iu cs q [.pt]),.cl ((q,k)::Hi q 1 ts))):=by obtain⟨q1,_,q3⟩:=gR h hV hv;have e1:a.eval v=τ k:=q1.1;have e2:(a.eval v).oneCell'=Qf:=q1.2;have e3:(a.eval v).cells.toList=[a.eval v]:=As e2;refine go_st' h hV hd ho hi hx hm (qs:=[.pt]) (by rw[e3];exact .cons e2 (.pt _) .nil) (by simp[hn]) (by omega) λu hu=>?_;rcases aS.1 hu with rfl|hu;{exact⟨nc,.inr ⟨(q3 k (by simp[Gh.cQ])).1,(q3 k (by simp[Gh.cQ])).2,Nat.le_refl _,by rw[e3,e1];simp⟩⟩};{obtain⟨h1,h2⟩:=Am hu;rw[hn];exact⟨Um u h1,.inl ⟨h1,h2⟩⟩}
theorem go_sto(hd:o.dst=Kk){x v:Operand}{t:TypeId}{inf:TypeInfo}{m:Nat}{cs xs:List TV}{ts us:List (Nat×Nat)}(ho:o.op=.store t x v)(hi:C.P.info? t=Bm inf)(hx:gU C.E C.nt V 0 x=Bm (.pt,.ptr m 0))(hm:S m=(.ag cs,.cl ts))(hv:gU C.E C.nt V t v=Bm (.ag xs,.ow us))(hn:xs.length=inf.size)(nq:inf.size=cs.length)(Xb:∀t∈us,t.2≠m):eW C o a w (cH S m (.ag xs,.cl us)):=by obtain⟨q1,_,q3⟩:=gR h hV hv;obtain⟨ys,vs,e1,e2,e3,e4⟩:∃ys vs,a.eval v=.agg ⟨ys⟩/\TV.ag xs=.ag vs/\dn R w vs ys/\∀p∈us,ys[p.1]?=Bm (τ p.2):=q1;cases e2;have e5:(a.eval v).cells.toList=ys:=by{rw[e1];rfl};have:=go_st' h hV hd ho hi hx hm (qs:=xs) (us:=us) (by rw[e5];exact e3) hn (by omega) λu hu=>⟨Xb u hu,.inr ⟨(q3 u.2 (List.mem_map_of_mem (f:=(·.2)) hu)).1,(q3 u.2 (List.mem_map_of_mem (f:=(·.2)) hu)).2,Nat.zero_le _,by rw[e5,Nat.sub_zero];exact e4 u hu⟩⟩;have e6:iu cs 0 xs=xs:=by{simp[iu,hn,nq]};rwa[e6]at this
end
def om(P:Program)(f:Nat):Bool:=(P.funcs[f]?).any λfn=>fn.body.isSome&&!(fn.name== "runtime.NumGoroutine")
def Vl:Nat->Value:=λ_=>undef
def Ih(R:Reach)(w:World)(m:Md)(x:TV)(v:Value):Prop:=
 match m with
 |.pl=>Rep R w x v
 |.rf=>Bl R w Vl v x []
 |_=>fi R w Qg v x
def CJ(R:Reach)(w:World)(ms:List Md)(ins:List TV)(xs:List Value):Prop:=ins.length=xs.length/\∀i x v,ins[i]?=Bm x->xs[i]?=Bm v->Ih R w (ms.getD i .pl) x v
def T6(p:Md->Prop)(ms:List Md)(xs:List Value):Prop:=∀i j v v' b,p (ms.getD i .pl)->p (ms.getD j .pl)->xs[i]?=Bm v->xs[j]?=Bm v'->Value.fP v=Bm b->Value.fP v'=Bm b->i=j
def B3(ms:List Md)(xs:List Value)(b:Nat):Prop:=∃i v,ms.getD i .pl≠.pl/\xs[i]?=Bm v/\Value.fP v=Bm b
def Md.Ja(m:Md):Prop:=m≠.pl/\m≠.gv
def NA(R:Reach)(w:World)(m:Md)(y:TV)(v:Value):Prop:=
 match m with
 |.rf=>Bl R w Vl v y []
 |.sl=>fi R w Qg v y
 |.sm=>fi R w Qg v y
 |_=>True
def qG(vs:List Value)(i:Nat):Option Value:=cond (Nat.blt i 1000) (vs[i]?) (match vs[0]? with|some (Value.agg cs)=>cs.toList[i -1000]? |_=>Kk)
structure CI (sg:fU) (R:Reach) (w:World) (dz:Nat->Prop) (ins:List TV) (xs:List Value) (outs:List TV) (x:Value) (jt:List Value) (ys:List TV):Prop where
 len:jt.length=sg.b9
 le:sg.b9<=outs.length
 val:x=if sg.b9=1 then jt.headD undef else .tuple ⟨jt⟩
 rep:hO R w (tE sg.own (outs.take sg.b9)) jt
 own:∀i∈sg.own,∀v y,qG jt i=Bm v->sS outs i=Bm y->fi R w Qg v y
 back:ng sg.md ins (outs.drop sg.b9)=Bm ys
 Wl:∀i y v,ys[i]?=Bm y->xs[i]?=Bm v->NA R w (sg.md.getD i .pl) y v
 dz:∀i∈sg.own,∀v b,qG jt i=Bm v->Value.fP v=Bm b->dz b
 YX:∀(j j' i i':Nat)(v v':Value)(b:Nat),sg.own[j]?=Bm i->sg.own[j']?=Bm i'->qG jt i=Bm v->qG jt i'=Bm v'->Value.fP v=Bm b->Value.fP v'=Bm b->j=j'
 YW:∀i∈sg.own,∀v b,qG jt i=Bm v->Value.fP v=Bm b->∀q u,(sg.md.getD q .pl).Ja->xs[q]?=Bm u->Value.fP u≠Bm b
def Ro(P:Program)(gl:Nat->Option (List Value))(f:Nat)(c:cX×fU):Prop:=∀ins outs,(c.1 ins).holds outs->om P f=Qf/\∀w R xs,(∀b o,R b o->b<w.heap.size)->GlOK gl R w->CJ R w c.2.md ins xs->T6 (· ≠.pl) c.2.md xs->Calls P f ⟨xs⟩ w λe w'=>∃x R' jt ys,e=.returned x/\Ext w R (B3 c.2.md xs) w' R'/\(∀b o,R' b o->b<w'.heap.size)/\CI c.2 R' w' (λb=>B3 c.2.md xs b\/w.heap.size<=b) ins xs outs x jt ys
def Rm(P:Program)(gl:Nat->Option (List Value))(f n i k:Nat)(c:cX)(e:Bool):Prop:=∀ins outs,(c ins).holds outs->om P f=Qf/\∀w R xs b zs el x u y,(∀b o,R b o->b<w.heap.size)->GlOK gl R w->ins.length=xs.length+1->(∀j x v,j≠i->ins[j]?=Bm x->xs[j]?=Bm v->Rep R w x v)->xs[i]?=Bm (.pointer (Bm ⟨b,0,Kk⟩))->ins[i]?=Bm (.ag x)->w.heap[b]?=Bm (.cells ⟨zs⟩ el (0,0))->dn R w x zs->(∀o,¬R b o)->zs[k]?=Bm u->ins[xs.length]?=Bm y->(e=Qf->fi R w Qg u y/\Value.fP u≠Bm b)->Calls P f ⟨xs⟩ w λex w'=>∃R' jt GY NQ x' u' y',ex=.returned (if jt.length=1 then jt.headD undef else .tuple ⟨jt⟩)/\Ext w R (λg=>g=b\/(e=Qf/\Value.fP u=Bm g)) w' R'/\(∀b o,R' b o->b<w'.heap.size)/\jt.length=n/\outs.drop n=[.ag x',y']/\hO R' w' (outs.take n) jt/\w'.heap[b]?=Bm (.cells ⟨GY⟩ NQ (0,0))/\dn R' w' x' GY/\(∀o,¬R' b o)/\GY[k]?=Bm u'/\fi R' w' Qg u' y'/\∀g,Value.fP u'=Bm g->g≠b/\((e=Qf/\Value.fP u=Bm g)\/w.heap.size<=g)
def WB(R:Reach)(w:World)(n b:Nat)(zs:List Value)(l:List TV):Option Nat->Prop
 |none=>l=[]
 |some k=>∃y u,l=[y]/\zs[k]?=Bm u/\fi R w Qg u y/\∀g,Value.fP u=Bm g->g≠b/\n<=g
def Rp(P:Program)(gl:Nat->Option (List Value))(f n:Nat)(c:cX)(oc:Option Nat):Prop:=∀ins outs,(c ins).holds outs->om P f=Qf/\∀w R xs,(∀b o,R b o->b<w.heap.size)->GlOK gl R w->hO R w ins xs->Calls P f ⟨xs⟩ w λex w'=>∃R' jt b zs el x rs,ex=.returned (if jt.length+1=1 then .pointer (Bm ⟨b,0,Kk⟩)else .tuple ⟨.pointer (Bm ⟨b,0,Kk⟩)::jt⟩)/\Ext w R (λ_=>False) w' R'/\(∀b o,R' b o->b<w'.heap.size)/\jt.length+1=n/\outs.take n=.ag x::rs/\hO R' w' rs jt/\w.heap.size<=b/\w'.heap[b]?=Bm (.cells ⟨zs⟩ el (0,0))/\dn R' w' x zs/\(∀o,¬R' b o)/\WB R' w' w.heap.size b zs (outs.drop n) oc
def fX(P:Program)(gl:Nat->Option (List Value))(f:Nat)(c:cX×fU):Prop:=
 match c.2.kd with
 |.pl=>Ro P gl f c
 |.wr i k e=>Rm P gl f c.2.b9 i k c.1 e
 |.nw oc=>Rp P gl f c.2.b9 c.1 oc
def Qe(V:St)(R:Reach)(w:World)(τ:Nat->Value)(m:Md)(c:Cell)(x:TV)(v:Value):Prop:=
 match m with
 |.pl=>Rep R w x v
 |.rf=>∃k cs ts b ys e xs,c=(.pt,.ptr k 0)/\V k=(.ag cs,.cl ts)/\v=τ k/\τ k=.pointer (Bm ⟨b,0,Kk⟩)/\w.heap[b]?=Bm (.cells ⟨ys⟩ e (0,0))/\x=.ag xs/\dn R w xs ys
 |m=>(∃k g,c=(.pt,.dB k)/\V k=(x,g)/\(g=.pv\/(m=.sm/\∃r,g=.pc r))/\v=τ k)\/((m=.sm\/m=.gv)/\∃t,c=(.nl t,.no)/\x=.sl t []/\v=.slice Kk 0 0)
def Qe.mono{V:St}{R R':Reach}{w:World}{τ:Nat->Value}{m:Md}{c:Cell}{x:TV}{v:Value}(h:Qe V R w τ m c x v)(k:eH R w R' w):Qe V R' w τ m c x v:=by(cases m<;>simp only[Qe]at h⊢<;>first|exact h.mono k|exact h|skip);obtain⟨q,cs,ts,b,ys,e,xs,h1,h2,h3,h4,h5,h6,h7⟩:=h;exact⟨q,cs,ts,b,ys,e,xs,h1,h2,h3,h4,h5,h6,h7.mono k⟩
inductive vd (V:St) (R:Reach) (w:World) (τ:Nat->Value):List Md->List Cell->List TV->List Value->Prop
 |nil (ms:List Md):vd V R w τ ms [] [] []
 |cons {ms:List Md} {c:Cell} {x:TV} {v:Value} {cs:List Cell} {xs:List TV} {vs:List Value}:Qe V R w τ (ms.headD .pl) c x v->vd V R w τ ms.tail cs xs vs->vd V R w τ ms (c::cs) (x::xs) (v::vs)
def vd.mono{V:St}{R R':Reach}{w:World}{τ:Nat->Value}(k:eH R w R' w):∀{ms:List Md}{cs:List Cell}{xs:List TV}{vs:List Value},vd V R w τ ms cs xs vs->vd V R' w τ ms cs xs vs
 |_,_,_,_,.nil _=>.nil _
 |_,_,_,_,.cons a b=>.cons (a.mono k) (vd.mono k b)
theorem vd.len{V:St}{R:Reach}{w:World}{τ:Nat->Value}:∀{ms:List Md}{cs:List Cell}{xs:List TV}{vs:List Value},vd V R w τ ms cs xs vs->xs.length=vs.length/\cs.length=vs.length
 |_,_,_,_,.nil _=>⟨rfl,rfl⟩
 |_,_,_,_,.cons _ b=>by obtain⟨h1,h2⟩:=vd.len b;simp[h1,h2]
theorem Jx{ms:List Md}{i:Nat}:ms.tail.getD i .pl=ms.getD (i+1) .pl:=by cases ms<;>rfl
theorem Jy{ms:List Md}:ms.headD .pl=ms.getD 0 .pl:=by cases ms<;>rfl
def vd.get{V:St}{R:Reach}{w:World}{τ:Nat->Value}:∀{ms:List Md}{cs:List Cell}{xs:List TV}{vs:List Value},vd V R w τ ms cs xs vs->∀(i:Nat)(v:Value),vs[i]?=Bm v->∃c x,cs[i]?=Bm c/\xs[i]?=Bm x/\Qe V R w τ (ms.getD i .pl) c x v
 |_,_,_,_,.nil _,i,v,h=>by simp at h
 |_,_,_,_,.cons a b,0,v,h=>by cases h;exact⟨_,_,rfl,rfl,by rw[<-Jy];exact a⟩
 |_,_,_,_,.cons a b,i+1,v,h=>by obtain⟨c,x,h1,h2,h3⟩:=vd.get b i v (by simpa using h);exact⟨c,x,by simpa using h1,by simpa using h2,by rw[<-Jx];exact h3⟩
section
variable{nt:Nat}{R:Reach}{w:World}{dz:Nat->Prop}{τ:Nat->Value}{S V:St}
theorem P8{rw:Bool}(h:Core nt R w dz τ S)(hV:Lq V S){m:Md}{c:Cell}{v:Value}{x:TV}{ws:List (Nat×Cell)}(hs:dP R w τ c.1 c.2 v)(hc:∀k∈c.2.cQ,nt<=k)(he:TW V rw m c=Bm (x,ws)):∃R',Core nt R' w dz τ (eY S ws)/\Fz dz R w R'/\Qe V R' w τ m c x v/\Lq V (eY S ws):=by
 have dB:∀{m:Md}{k:Nat}{g:Gh},m≠.pl->m≠.rf->c=(.pt,.dB k)->ws=[]->V k=(x,g)->(g=.pv\/(m=.sm/\∃r,g=.pc r))->∃R',Core nt R' w dz τ (eY S ws)/\Fz dz R w R'/\Qe V R' w τ m c x v/\Lq V (eY S ws):=by{rintro m k g h1 h2 rfl rfl hk hg;have:v=τ k:=hs.1;refine⟨R,h,Fz.refl _ _ _,?_,hV⟩;cases m<;>first|exact(h1 rfl).elim|exact(h2 rfl).elim|exact .inl ⟨k,g,rfl,hk,hg,this⟩};unfold TW at he;split at he
 ·have fr:Cl V c=Bm (x,ws)->∃R',Core nt R' w dz τ (eY S ws)/\Fz dz R w R'/\Qe V R' w τ .pl c x v/\Lq V (eY S ws):=λhe=>by{obtain⟨R',h1,h2,h3,h4⟩:=Ck h hV hs hc he;exact⟨R',h1,h2,h3,h4⟩};cases rw with
  |false=>exact fr he
  |true=>rw[aj]at he;unfold Vc at he;split at he;{cases he;exact⟨R,h,Fz.refl _ _ _,hs,hV⟩};{exact fr he}
 {rename_i k;split at he;{rename_i cs ts hk;split at he;{rename_i Cz Fa hf;cases he;have e:S k=(.ag cs,.cl ts):=by{rcases hV k with e|e|⟨e,_⟩;{rw[<-e,hk]};{rw[hk]at e;cases e};{rw[hk]at e;cases e}};have hK:=h.key k;rw[e]at hK;obtain⟨b,ys,el,xs,h1,h2,h3,h4,h5,h6⟩:=hK;cases h3;obtain⟨b',p1,hv⟩:∃b,τ k=.pointer (Bm ⟨b,0,Kk⟩)/\v=.pointer (Bm ⟨b,0,Kk⟩):=hs;obtain⟨R',f1,f2,f3,f4,_⟩:=oY h hV h4 (λt ht=>⟨by have:=h.inv k t.2;rw[e]at this;exact(this (List.mem_map_of_mem (f:=(·.2)) ht)).1,h5 t ht⟩) hf;exact⟨R',f1,f2,⟨k,cs,ts,b,ys,el,_,rfl,hk,by rw[hv,p1],h1,h2,rfl,qa f3⟩,f4⟩};{cases he}};{cases he}};{cases he};{rename_i k n1 _;split at he;{rename_i y hk;cases he;exact dB (by intro e;subst e;simp_all) (by intro e;subst e;simp_all) rfl rfl (by assumption) (.inl rfl)};{rename_i y r hk;cases he;exact dB (by simp) (by simp) rfl rfl (by assumption) (.inr ⟨rfl,_,rfl⟩)};{cases he}}
 ·rename_i t;cases he;refine⟨R,h,Fz.refl _ _ _,.inr ⟨.inl rfl,t,rfl,rfl,?_⟩,hV⟩;have:Rep R w (.nl t) v:=jH.rep hs;cases this with
  |sc h=>cases h
  |nl=>rfl
 ·rename_i t;cases he;refine⟨R,h,Fz.refl _ _ _,.inr ⟨.inr rfl,t,rfl,rfl,?_⟩,hV⟩;have:Rep R w (.nl t) v:=jH.rep hs;cases this with
  |sc h=>cases h
  |nl=>rfl
 {cases he}
theorem E3{rw:Bool}:∀{cs:List Cell}{ms:List Md}{R:Reach}{S:St}{vs:List Value}{xs:List TV}{ws:List (Nat×Cell)},Core nt R w dz τ S->Lq V S->Cells R w τ nt cs vs->E4 V rw ms cs=Bm (xs,ws)->
  ∃R',Core nt R' w dz τ (eY S ws)/\Fz dz R w R'/\vd V R' w τ ms cs xs vs/\Lq V (eY S ws)
 |[],ms,R,S,_,_,_,h,hV,.nil,he=>by cases he;exact⟨R,h,Fz.refl _ _ _,.nil _,hV⟩
 |c::cs,ms,R,S,_,_,_,h,hV,.cons a b t,he=>by simp only[E4]at he;split at he;{rename_i x ws e1;split at he;{rename_i xs us e2;cases he;obtain⟨R1,h1,k1,r1,q1⟩:=E3 h hV t e2;obtain⟨R2,h2,k2,r2,q2⟩:=P8 h1 q1 (a.dr k1.1 λ_ _=>rfl) b e1;rw[iY];exact⟨R2,h2,k1.trans k2,.cons r2 (r1.mono k2.1),q2⟩};{cases he}};{cases he}
theorem BI:∀{l:List (Nat×Cell)}{S:St}{k:Nat}{x:Cell},(k,x)∈l->(∀y,(k,y)∈l->y=x)->eY S l k=x
 |(j,y)::l,S,k,x,h,hu=>by simp only[eY];by_cases e:k=j;{subst e;rw[bR];exact hu y (List.mem_cons_self ..)};{rw[cO _ _ e];rcases aS.1 h with h|h;{cases h;exact(e rfl).elim};{exact BI h λy hy=>hu y (List.mem_cons_of_mem _ hy)}}
theorem sO{V:St}:∀{ms:List Md}{cs:List Cell}{ys:List TV}{p:Nat×Cell},p∈iV V ms cs ys->∃i c y,cs[i]?=Bm c/\ys[i]?=Bm y/\i<ms.length/\oe V (ms.getD i .pl) c y=Bm p
 |m::ms,c::cs,y::ys,p,h=>by simp only[iV]at h;split at h;{rename_i q e;rcases aS.1 h with rfl|h;{exact⟨0,c,y,rfl,rfl,by simp,e⟩};{obtain⟨i,c',y',h1,h2,h3,h4⟩:=sO h;exact⟨i+1,c',y',by simpa using h1,by simpa using h2,by simpa using h3,h4⟩}};{obtain⟨i,c',y',h1,h2,h3,h4⟩:=sO h;exact⟨i+1,c',y',by simpa using h1,by simpa using h2,by simpa using h3,h4⟩}
 |[],_,_,_,h=>by simp[iV]at h
 |_::_,[],_,_,h=>by simp[iV]at h
 |_::_,_::_,[],_,h=>by simp[iV]at h
theorem qg{V:St}:∀{ms:List Md}{cs:List Cell}{ys:List TV}{p:Nat×Cell}{i:Nat}{c:Cell}{y:TV},cs[i]?=Bm c->ys[i]?=Bm y->i<ms.length->oe V (ms.getD i .pl) c y=Bm p->p∈iV V ms cs ys
 |m::ms,c::cs,y::ys,p,0,_,_,h1,h2,_,h4=>by cases h1;cases h2;simp only[iV];have:oe V m c y=Bm p:=h4;rw[this];exact List.mem_cons_self ..
 |m::ms,c::cs,y::ys,p,i+1,_,_,h1,h2,h3,h4=>by have:=qg (ms:=ms) (cs:=cs) (ys:=ys) (i:=i) (by simpa using h1) (by simpa using h2) (by simpa using h3) h4;simp only[iV];split;{exact List.mem_cons_of_mem _ this};{exact this}
 |[],_,_,_,_,_,_,_,_,h,_=>by simp at h
 |_::_,[],_,_,_,_,_,h,_,_,_=>by simp at h
 |_::_,_::_,[],_,_,_,_,_,h,_,_=>by simp at h
theorem ED{k:Nat}{x:Cell}{l:List (Nat×Cell)}(h:Cy ((k,x)::l)=Qf){p:Nat×Cell}(hp:p∈l):p.1≠k:=by simp only[Cy,ah,aI]at h;have:=h.1 p hp;intro e;rw[e]at this;simp at this
theorem JL{p:Nat×Cell}{l:List (Nat×Cell)}(h:Cy (p::l)=Qf):Cy l=Qf:=by obtain⟨k,x⟩:=p;simp only[Cy,ah]at h;exact h.2
theorem Cw{V:St}:∀{ms:List Md}{cs:List Cell}{ys:List TV}{k i j:Nat}{c c':Cell}{y y':TV}{x x':Cell},Cy (iV V ms cs ys)=Qf->cs[i]?=Bm c->ys[i]?=Bm y->i<ms.length->oe V (ms.getD i .pl) c y=Bm (k,x)->
  cs[j]?=Bm c'->ys[j]?=Bm y'->j<ms.length->oe V (ms.getD j .pl) c' y'=Bm (k,x')->i=j
 |m::ms,c::cs,y::ys,k,0,0,_,_,_,_,_,_,_,_,_,_,_,_,_,_,_=>rfl
 |m::ms,c::cs,y::ys,k,0,j+1,_,_,_,_,_,_,hd,h1,h2,h3,h4,k1,k2,k3,k4=>by cases h1;cases h2;have e:oe V m c y=Bm (k,_):=h4;simp only[iV,e]at hd;exact(ED hd (qg (by simpa using k1) (by simpa using k2) (by simpa using k3) k4) rfl).elim
 |m::ms,c::cs,y::ys,k,i+1,0,_,_,_,_,_,_,hd,h1,h2,h3,h4,k1,k2,k3,k4=>by cases k1;cases k2;have e:oe V m c y=Bm (k,_):=k4;simp only[iV,e]at hd;exact(ED hd (qg (by simpa using h1) (by simpa using h2) (by simpa using h3) h4) rfl).elim
 |m::ms,c::cs,y::ys,k,i+1,j+1,_,_,_,_,_,_,hd,h1,h2,h3,h4,k1,k2,k3,k4=>by have zU:Cy (iV V ms cs ys)=Qf:=by{simp only[iV]at hd;split at hd;{exact JL hd};{exact hd}};rw[Cw zU (by simpa using h1) (by simpa using h2) (by simpa using h3) h4 (by simpa using k1) (by simpa using k2) (by simpa using k3) k4]
 |[],_,_,_,_,_,_,_,_,_,_,_,_,_,_,h,_,_,_,_,_=>by simp at h
 |_::_,[],_,_,_,_,_,_,_,_,_,_,_,h,_,_,_,_,_,_,_=>by simp at h
 |_::_,_::_,[],_,_,_,_,_,_,_,_,_,_,_,h,_,_,_,_,_,_=>by simp at h
theorem DI{nt:Nat}{own:Nat->Nat}:∀{l:List Nat}{j:Nat}{outs:List TV}{ns:List (Nat×Cell)},OX nt own V l j outs=Bm ns->
  (∀p∈ns,∃q i y,l[q]?=Bm i/\p=(own (j+q),(y,.pv))/\sS outs i=Bm y/\rP nt V (own (j+q))=Qf)/\(∀q i,l[q]?=Bm i->∃y,sS outs i=Bm y/\(own (j+q),(y,.pv))∈ns/\rP nt V (own (j+q))=Qf)
 |[],j,outs,ns,h=>by cases h;exact⟨by simp,by simp⟩
 |i::l,j,outs,ns,h=>by
  simp only[OX]at h;split at h
  ·rename_i x hx;obtain⟨h1,h2⟩:=bG.1 h;rw[aO]at h2;obtain⟨ns',h2,rfl⟩:=h2;obtain⟨k1,k2⟩:=DI h2;refine⟨λp hp=>?_,λq i' hq=>?_⟩;{rcases aS.1 hp with rfl|hp;{exact⟨0,i,x,rfl,rfl,hx,h1⟩};{obtain⟨q,i',y,e1,e2,e3,e4⟩:=k1 p hp;rw[show j+1+q=j+(q+1) by omega]at e2 e4;exact⟨q+1,i',y,by simpa using e1,e2,e3,e4⟩}}
   ·cases q with
    |zero=>cases hq;exact⟨x,hx,List.mem_cons_self ..,h1⟩
    |succ q=>obtain⟨y,e1,e2,e3⟩:=k2 q i' (by simpa using hq);rw[show j+1+q=j+(q+1) by omega]at e2 e3;exact⟨y,e1,List.mem_cons_of_mem _ e2,e3⟩
  {cases h}
theorem OL{R:Reach}{w:World}{l:List Nat}{outs:List TV}{jt:List Value}{i:Nat}{y:TV}(h:hO R w (tE l outs) jt)(hi:i∈l)(hy:sS outs i=Bm y):∃v,qG jt i=Bm v:=by
 unfold sS at hy;unfold qG;cases hb:Nat.blt i 1000 with
 |true=>rw[hb,aj]at hy;simp only[aj];have hl:=h.length;have:(tE l outs).length=outs.length:=by{unfold tE;cases nj l<;>simp};have gS:=(aG.1 hy).1;exact⟨_,au (by omega)⟩
 |false=>
  rw[hb,ae]at hy;simp only[ae];have hs:nj l=Qg:=by
   cases hs:nj l with
   |false=>rfl
   |true=>have:=aI.1 hs i hi;rw[hb]at this;cases this
  unfold tE at h;rw[hs,ae]at h;match outs,hy with
  |.ag cs::r,hy=>
   simp only[List.getElem?_cons_zero]at hy;simp only[bc,WU]at h;cases h with
   |cons h1 h2=>
    cases h1 with
    |sc e=>cases e
    |@ag _ ys hL=>have hl:=hL.length;simp only[List.length_mapIdx]at hl;have gS:=(aG.1 hy).1;exact⟨_,au (l:=ys) (by simpa using(by omega:i -1000<ys.length))⟩
theorem Aq{outs:List TV}{n i:Nat}{y:TV}(h:sS (outs.take n) i=Bm y):sS outs i=Bm y:=by
 unfold sS at h⊢;have t:∀j x,(outs.take n)[j]?=Bm x->outs[j]?=Bm x:=λj x hj=>by{rw[bg]at hj;split at hj;{exact hj};{cases hj}};cases hb:Nat.blt i 1000 with
 |true=>rw[hb,aj]at h;rw[aj];exact t _ _ h
 |false=>rw[hb,ae]at h;rw[ae];split at h;{rename_i cs e;rw[t _ _ e];exact h};{cases h}
end
theorem Bh:∀{ms:List Md}{ins outs ys:List TV},ng ms ins outs=Bm ys->ys.length=ms.length
 |[],_,_,_,h=>by simp only[ng]at h;obtain⟨_,h⟩:=bG.1 h;cases h;rfl
 |m::ms,ins,outs,ys,h=>by have key:∀{y:TV}{ins outs:List TV},(ng ms ins outs).map (y::·)=Bm ys->ys.length=(m::ms).length:=λh=>by{rw[aO]at h;obtain⟨zs,h1,rfl⟩:=h;simp[Bh h1]};unfold ng at h;(split at h<;>first|(rename_i e;cases e;exact key h)|(rename_i e _;cases e;exact key h)|(rename_i e _ _;cases e;exact key h)|(cases h;done)|skip);all_goals simp_all
theorem E2:∀{ms:List Md}{ins outs ys:List TV}{i:Nat},ng ms ins outs=Bm ys->ms.getD i .pl=.sm->ys[i]?=ins[i]?
 |[],_,_,_,i,_,h=>by simp at h
 |m::ms,ins,outs,ys,i,h,hm=>by
  have key:∀{y z:TV}{Sr Qu:List TV},ins=z::Sr->(ng ms Sr Qu).map (y::·)=Bm ys->(m=.sm->y=z)->ys[i]?=ins[i]?:=λ{y z Sr Qu}e h hy=>by
   rw[aO]at h;obtain⟨zs,h1,rfl⟩:=h;subst e;cases i with
   |zero=>simp at hm⊢;exact hy hm
   |succ i=>simp at hm⊢;exact E2 h1 (by simpa using hm)
  unfold ng at h;(split at h<;>first|(rename_i e;cases e;exact key rfl h (by simp))|(rename_i e _;cases e;exact key rfl h (by simp))|(rename_i e _ _;cases e;exact key rfl h (by simp))|(cases h;done)|skip);all_goals simp_all
theorem Dx(l:List TV):tE [] l=l:=by unfold tE;simp only[nj,List.all_nil,aj];apply List.ext_getElem?;intro i;rw[List.getElem?_mapIdx];cases l[i]? <;>rfl
def fi.one{R:Reach}{w:World}{p:Bool}{v:Value}{x:TV}(h:fi R w p v x):v.oneCell'=Qf:=by obtain⟨t,l,_,⟨_,rfl⟩|⟨g,cap,cur,e,fz,rfl,_⟩⟩:=h<;>rfl
section
variable{C:Ctx}{S V:St}{a:Act}{w:World}{R:Reach}{τ:Nat->Value}{o:Oper}{d:Nat}
theorem eI.OH(h:eI C S a w R τ)(hl:d<C.nt){v:Value}{x:TV}{g:Gh}(hs:dP R w τ x g v)(hg:g.slot=Qf)(hm:∀k∈g.cQ,C.nt<=k/\(S k).2≠.no):wx C (cH S d (x,g)) (a.put (Bm d) v) w:=by refine⟨R,_,by simp[Act.put,h.size],h.defers,h.core.put hl hs hg hm,λt ht=>?_,⟨h.io.1,λk hk=>?_⟩,h.ext,h.gl⟩;{by_cases e:t=d;{subst e;rw[fw];simp[Act.put,Array.getD,h.size,ht]};{rw[fN _ _ e,<-h.tmps t ht];simp only[Act.put,Array.getD_eq_getD_getElem?];rw[Array.getElem?_setIfInBounds_ne (Ne.symm e)]}};{have:=h.io.1;rw[fN _ _ (by omega)];exact h.io.2 k hk}
theorem zh{f:Nat}{args:Array Operand}{ts:Array TypeId}{x:Operand}(ho:o.op=.call {callee:=.value x,args,argTypes:=ts})(hx:a.eval x=.func (.func f) #[] #[])(hp:om C.P f=Qf):(execOp a.eval o).run C.P w=.ok (.enter f (args.map a.eval)) w:=by
 unfold om at hp;cases hf:C.P.funcs[f]? with
 |none=>simp[hf]at hp
 |some fn=>simp only[hf,Option.any_some,ah,Bool.not_eq_true',beq_eq_false_iff_ne,ne_eq]at hp;obtain⟨h1,h2⟩:=hp;have Kg:fn.body.isNone=Qg:=by{cases hb:fn.body<;>simp[hb]at h1⊢};simp[execOp,ho,resolve,Deferred.ofValue,hx,invoke,callFunc,hf];rw[ak h2,ak (by intro e;rw[e]at h1;cases h1)]
open Classical in
def DH(τ:Nat->Value)(own:Nat->Nat)(l:List Nat)(jt:List Value)(k:Nat):Value:=if h:∃q i,l[q]?=Bm i/\own q=k then(qG jt (l.getD h.choose 0)).getD undef else τ k
theorem Lh{own:Nat->Nat}{l:List Nat}{jt:List Value}{q i:Nat}(wW:∀j j',own j=own j'->j=j')(hq:l[q]?=Bm i):DH τ own l jt (own q)=(qG jt i).getD undef:=by have h:∃q' i,l[q']?=Bm i/\own q'=own q:=⟨q,i,hq,rfl⟩;unfold DH;rw[dif_pos h];obtain⟨i',h1,h2⟩:=h.choose_spec;have:h.choose=q:=wW _ _ h2;rw[this,show l.getD q 0=i by simp[ai,hq]]
theorem IX{own:Nat->Nat}{l:List Nat}{jt:List Value}{k:Nat}(h:∀q i,l[q]?=Bm i->own q≠k):DH τ own l jt k=τ k:=by unfold DH;rw[dif_neg];rintro⟨q,i,h1,h2⟩;exact h q i h1 h2
set_option maxHeartbeats 2000000 in
theorem abW(h:eI C S a w R τ)(hV:Lt V S)(hd:o.dst=Kk\/∃d,o.dst=Bm d/\d<C.nt){f:Nat}{c:cX}{sg:fU}(hS:Ro C.P C.gl f (c,sg)){args:Array Operand}{ts:Array TypeId}{x:Operand}(ho:o.op=.call {callee:=.value x,args,argTypes:=ts})(hx:a.eval x=.func (.func f) #[] #[]){tl:List TypeId}{cs:List Cell}{xs:List TV}{ws:List (Nat×Cell)}{outs:List TV}{own:Nat->Nat}{p:Option Bool}{e:gT}(sV:rh C.E C.nt V tl args.toList=Bm cs)(QF:E4 V sg.raw sg.md cs=Bm (xs,ws))(hc:(c xs).holds outs)(wW:0<C.nt->∀j j',own j=own j'->j=j')(he:ES C.nt own V sg cs xs ws p outs=Bm e):eW C o a w (iU S o.dst e):=by
 unfold ES at he;obtain⟨hh,he⟩:=bG.1 he;simp only[ah]at hh;obtain⟨hh,ZF⟩:=hh;have wW:=wW (Nat.le_of_ble_eq_true hh.2);have hle:=Nat.le_of_ble_eq_true hh.1;(split at he<;>try(cases he;done));rename_i ns ys hns Sy;obtain⟨hh2,he⟩:=bG.1 he;cases he;simp only[ah]at hh2;obtain⟨QR,ND⟩:=hh2;have ND:∀q∈ws,∀p∈iV V sg.md cs ys,p.1≠q.1:=λq hq p hp e=>by{have:=aI.1 (aI.1 ND q hq) p hp;rw[e]at this;simp at this};obtain⟨iQ,_,Gm⟩:=qJ h hV sV;obtain⟨R1,h1,f1,SI,hq⟩:=E3 h.core hV.q iQ QF;have h':eI C (eY S ws) a w R1 τ:=h.fz h1 f1;obtain⟨NI,SR⟩:=SI.len;generalize Gk:args.toList.map a.eval=vs at*;generalize PB:eY S ws=S1 at*;have Uk:=Bh Sy;obtain⟨xq,wJ⟩:=DI hns;simp only[Nat.zero_add]at xq wJ;have hand:∀i v,vs[i]?=Bm v->sg.md.getD i .pl≠.pl->∃c y x,cs[i]?=Bm c/\ys[i]?=Bm y/\xs[i]?=Bm x/\i<sg.md.length/\Ih R1 w (sg.md.getD i .pl) x v/\
   ((v=.slice Kk 0 0/\∀y,oe V (sg.md.getD i .pl) c y=Kk)\/∃k x',oe V (sg.md.getD i .pl) c y=Bm (k,x')/\v=τ k/\C.nt<=k/\(S1 k).2.own=Qf/\(S1 k).2.HE=Qg/\((S1 k).2.HF=Qg\/sg.md.getD i .pl=.sm)/\(sg.md.getD i .pl=.sm->S1 k=(x,(V k).2)/\((V k).2=.pv\/∃r,(V k).2=.pc r))):=by
  intro i v hv hm
  obtain⟨c,x,e1,e2,e3⟩:=SI.get i v hv
  have hi:i<sg.md.length:=by rcases Nat.lt_or_ge i sg.md.length with hi|hi;{exact hi};{rw[ai,List.getElem?_eq_none hi]at hm;exact(hm rfl).elim}
  have ey:ys[i]?=Bm ys[i]:=au (by omega)
  have Gn:=Gm c (aP e1)
  have Vh:∀k x',oe V (sg.md.getD i .pl) c ys[i]=Bm (k,x')->(V k).2≠.hid->S1 k=V k:=λk x' hb hg=>by have qS:=qg e1 ey hi hb;rw[<-PB,ix λq hq e=>ND q hq _ qS e.symm];exact((hV k).resolve_right hg).symm
  refine⟨c,ys[i],x,e1,ey,e2,hi,?_⟩
  generalize sg.md.getD i .pl=m at*
  have dB:m≠.pl->m≠.rf->(∃k g,c=(.pt,.dB k)/\V k=(x,g)/\(g=.pv\/(m=.sm/\∃r,g=.pc r))/\v=τ k)->Ih R1 w m x v/\((v=.slice Kk 0 0/\∀y,oe V m c y=Kk)\/∃k x',oe V m c ys[i]=Bm (k,x')/\v=τ k/\C.nt<=k/\(S1 k).2.own=Qf/\(S1 k).2.HE=Qg/\((S1 k).2.HF=Qg\/m=.sm)/\(m=.sm->S1 k=(x,(V k).2)/\((V k).2=.pv\/∃r,(V k).2=.pc r))):=by rintro CP Ka ⟨k,g,rfl,hk,hg,rfl⟩;have NM:g.own=Qf/\g.HE=Qg/\g≠.hid/\∀R w τ x v,kt R w τ x g v=fi R w Qg v x:=by{rcases hg with rfl|⟨_,r,rfl⟩<;>exact⟨rfl,rfl,by simp,λ_ _ _ _ _=>rfl⟩};obtain⟨x',hb⟩:∃x',oe V m (.pt,.dB k) ys[i]=Bm (k,x'):=by{cases m<;>first|exact(CP rfl).elim|exact(Ka rfl).elim|exact⟨_,rfl⟩};have e:=Vh k x' hb (by rw[hk];exact NM.2.2.1);have hK:=h1.key k;rw[e,hk,NM.2.2.2]at hK;refine⟨?_,.inr ⟨k,x',hb,rfl,(Gn.2 k (by simp[Gh.cQ])).1,by rw[e,hk];exact NM.1,by rw[e,hk];exact NM.2.1,by rw[e,hk];exact hg.imp (λe=>by rw[e];rfl) (·.1),λ_=>by rw[e,hk];exact⟨rfl,hg.imp id (·.2)⟩⟩⟩;cases m<;>first|exact(CP rfl).elim|exact(Ka rfl).elim|exact hK
  cases m with
  |pl=>exact(hm rfl).elim
  |rf=>obtain⟨k,Cz,ts,b,zs,el,NB,rfl,hk,rfl,hb,hhp,rfl,hL⟩:=e3;have e:=Vh k _ rfl (by rw[hk];simp);have hK:=h1.key k;rw[e,hk]at hK;obtain⟨b',_,_,_,k1,_,_,_,_,k2⟩:=hK;rw[hb]at k1;cases k1;exact⟨⟨b,zs,el,NB,hb,hhp,rfl,hL,by simp,k2⟩,.inr ⟨k,_,rfl,rfl,(Gn.2 k (by simp[Gh.cQ])).1,by rw[e,hk];rfl,by rw[e,hk];rfl,.inl (by rw[e,hk];rfl),λe=>by cases e⟩⟩
  |sl=>exact dB (by simp) (by simp) (e3.resolve_right (by simp))
  |gv=>rcases e3 with e3|⟨_,t,rfl,rfl,rfl⟩;{exact dB (by simp) (by simp) e3};{exact⟨⟨t,[],rfl,.inl ⟨rfl,rfl⟩⟩,.inl ⟨rfl,λ_=>rfl⟩⟩}
  |sm=>rcases e3 with e3|⟨_,t,rfl,rfl,rfl⟩;{exact dB (by simp) (by simp) e3};{exact⟨⟨t,[],rfl,.inl ⟨rfl,rfl⟩⟩,.inl ⟨rfl,λ_=>rfl⟩⟩}
 have hargs:CJ R1 w sg.md xs vs:=⟨NI,λi x v hx hv=>by
  by_cases hm:sg.md.getD i .pl=.pl;{obtain⟨c,x',_,e2,e3⟩:=SI.get i v hv;rw[hx]at e2;cases e2;rw[hm]at e3⊢;exact e3}
  ·obtain⟨_,_,x',_,_,e2,_,e3,_⟩:=hand i v hv hm;rw[hx]at e2;cases e2;exact e3⟩
 have Zu:T6 (· ≠.pl) sg.md vs:=λi j v v' b hi hj hv AP hb lu=>by{obtain⟨c,y,_,a1,a2,_,a3,_,a4⟩:=hand i v hv hi;obtain⟨c',y',_,b1,b2,_,b3,_,b4⟩:=hand j v' AP hj;rcases a4 with⟨rfl,_⟩|⟨k,x1,k1,rfl,_,k2,k3,_⟩;{cases hb};rcases b4 with⟨rfl,_⟩|⟨k',x2,l1,rfl,_,l2,l3,_⟩;{cases lu};have:=h1.sR (gC k2 k3 hb) (gC l2 l3 lu);subst this;exact Cw QR a1 a2 a3 k1 b1 b2 b3 l1};obtain⟨L2,nJ⟩:=hS xs outs hc;intro K Q hK;unfold Oper.wp;rw[zh ho hx L2,Oper.upon_enter];have e0:(⟨vs⟩:Array Value)=args.map a.eval:=by{apply Array.ext';simp[<-Gk]};have nJ:=nJ w R1 vs h1.th h'.gl hargs Zu;rw[e0]at nJ;refine nJ.mono ?_;rintro e w' ⟨x,R',jt,Bo,rfl,nV,Jl,tR⟩;have:Bo=ys:=by{have:=tR.back;simp only at this;rw[Sy]at this;cases this;rfl};subst this;simp only at nV tR;have bk:∀k x,(k,x)∈iV V sg.md cs Bo->∃i v y,vs[i]?=Bm v/\Bo[i]?=Bm y/\v=τ k/\C.nt<=k/\(S1 k).2.own=Qf/\(S1 k).2.HE=Qg/\((x,sg.md.getD i .pl)∈[((y,.cl []),.rf),((y,.pv),.sl),((.dead,.zz),.gv)]/\(S1 k).2.HF=Qg\/sg.md.getD i .pl=.sm/\x=S1 k/\y=x.1/\(x.2=.pv\/∃r,x.2=.pc r))/\(∀x',(k,x')∈iV V sg.md cs Bo->x'=x):=by{intro k x qS;obtain⟨i,c,y,e1,e2,e3,e4⟩:=sO qS;have hi:i<vs.length:=by{have:=(aG.1 e1).1;omega};have ev:vs[i]?=Bm vs[i]:=au hi;have hm:sg.md.getD i .pl≠.pl:=by{intro e;rw[e]at e4;cases e4};obtain⟨c',y',xi,a1,a2,ax,a3,_,a4⟩:=hand i _ ev hm;rw[e1]at a1;cases a1;rw[e2]at a2;cases a2;have hu:∀x',(k,x')∈iV V sg.md cs Bo->x'=x:=λx' B5=>by{obtain⟨j,c2,y2,k1,k2,k3,k4⟩:=sO B5;have:=Cw QR e1 e2 e3 e4 k1 k2 k3 k4;subst this;rw[e1]at k1;cases k1;rw[e2]at k2;cases k2;rw[e4]at k4;cases k4;rfl};rcases a4 with⟨_,a4⟩|⟨k',x',k1,k2,k3,k4,k5,k6,k7⟩;{rw[a4]at e4;cases e4};{rw[e4]at k1;cases k1;refine⟨i,_,y,ev,e2,k2,k3,k4,k5,?_,hu⟩;by_cases hs:sg.md.getD i .pl=.sm;{right;obtain⟨q1,q2⟩:=k7 hs;have ey:y=xi:=by{have:=E2 Sy hs;rw[e2,ax]at this;exact Option.some.inj this};rw[hs]at e4;unfold oe at e4;(split at e4<;>first|(cases e4;done)|(rename_i em _;cases em;done)|skip);rename_i ec;cases e4;exact⟨hs,by rw[q1,ey],rfl,q2⟩};{left;refine⟨?_,k6.resolve_right hs⟩;unfold oe at e4;split at e4<;>first|(cases e4;done)|(rename_i em _;exact(hs em).elim)|(rename_i em _;cases e4;rw[em];simp)}}};have nw:∀q i,sg.own[q]?=Bm i->(S1 (own q)).2=.no/\own q<1000000/\C.nt<=own q:=λq i nQ=>ib hq (wJ q i nQ).choose_spec.2.2;have UF:∀k x,(k,x)∈iV V sg.md cs Bo->∀q i,sg.own[q]?=Bm i->own q≠k:=λk x qS q i nQ e=>by{obtain⟨_,_,_,_,_,_,_,ho,_⟩:=bk k x qS;rw[<-e,(nw q i nQ).1]at ho;cases ho};have Zj:∀g,B3 sg.md vs g->∃k x,(k,x)∈iV V sg.md cs Bo/\fP τ S1 k=Bm g:=by{rintro g ⟨i,v,hm,hv,hb⟩;obtain⟨c',y',_,a1,a2,_,a3,_,a4⟩:=hand i v hv hm;rcases a4 with⟨rfl,_⟩|⟨k',x',k1,rfl,k3,k4,k5,_⟩;{cases hb};{exact⟨k',x',qg a1 a2 a3 k1,gC k4 k5 hb⟩}};have HM:∀g,B3 sg.md vs g->C.dz g:=λg hg=>by{obtain⟨k,_,_,hb⟩:=Zj g hg;exact h1.dz k g hb};have rv:∀q i,sg.own[q]?=Bm i->∃v y,qG jt i=Bm v/\(qG jt i).getD undef=v/\sS (outs.take sg.b9) i=Bm y/\sS outs i=Bm y/\fi R' w' Qg v y:=λq i nQ=>by{obtain⟨y,e1,_⟩:=wJ q i nQ;have hi:=aP nQ;obtain⟨v,hv⟩:=OL tR.rep hi e1;exact⟨v,y,hv,by rw[hv];rfl,e1,Aq e1,tR.own i hi _ _ hv (Aq e1)⟩};let τ':=DH τ own sg.own jt;have t1:∀q i,sg.own[q]?=Bm i->τ' (own q)=(qG jt i).getD undef:=λq i=>Lh wW;have t2:∀k,(∀q i,sg.own[q]?=Bm i->own q≠k)->τ' k=τ k:=λk=>IX;have yP:eY S (iV V sg.md cs Bo++(ns++ws))=eY (eY S1 ns) (iV V sg.md cs Bo):=by{rw[iY,iY,PB]};generalize Gq:eY S (iV V sg.md cs Bo++(ns++ws))=S' at*;have s1:∀k x,(k,x)∈iV V sg.md cs Bo->S' k=x:=λk x qS=>by{obtain⟨_,_,_,_,_,_,_,_,_,_,hu⟩:=bk k x qS;rw[yP];exact BI qS hu};have s2:∀q i y,sg.own[q]?=Bm i->sS (outs.take sg.b9) i=Bm y->S' (own q)=(y,.pv):=λq i y nQ hy=>by{obtain⟨y',e1,e2,_⟩:=wJ q i nQ;rw[hy]at e1;cases e1;rw[yP,ix λp hp e=>UF p.1 p.2 hp q i nQ e.symm];refine BI e2 λz hz=>?_;obtain⟨q',i',y2,k1,k2,k3,_⟩:=xq _ hz;have ek:own q=own q':=congrArg Prod.fst k2;have:=wW _ _ ek;subst this;rw[nQ]at k1;cases k1;rw[hy]at k3;cases k3;exact congrArg Prod.snd k2};have s3:∀k,(∀x,(k,x)∉iV V sg.md cs Bo)->(∀q i,sg.own[q]?=Bm i->own q≠k)->S' k=S1 k:=λk hb hn=>by{rw[yP,ix λp hp e=>hb p.2 (by rw[<-e];exact hp),ix λp hp e=>by obtain⟨q,i,y,k1,rfl,_⟩:=xq p hp;exact hn q i k1 e]};have uQ:Core C.nt R' w' C.dz τ' S':=by{refine h1.step (λk=>(∃x,(k,x)∈iV V sg.md cs Bo)\/∃q i,sg.own[q]?=Bm i/\own q=k) nV.dr (λk hk=>?_) (λk g hk hb=>?_) ?_ ?_ ?_ ?_ ?_ ?_ (λ_=>id) ?_ Jl ?_;{have e1:∀q i,sg.own[q]?=Bm i->own q≠k:=λq i a b=>hk (.inr ⟨q,i,a,b⟩);exact⟨s3 k (λx hx=>hk (.inl ⟨x,hx⟩)) e1,t2 k e1⟩};{have gS:=h1.lt hb;have VF:¬B3 sg.md vs g:=λhg=>by{obtain⟨k',x,hm,lu⟩:=Zj g hg;obtain⟨_,_,_,_,_,_,_,_,hp,_⟩:=bk k' x hm;have:=h1.sR lu hb;subst this;exact hk (.inl ⟨x,hm⟩)};exact⟨nV.heap g gS VF,λo hr=>(nV.BE g o hr).resolve_right (by rintro(h|h);exact absurd gS (by omega);exact VF h)⟩};{rintro k (⟨x,hx⟩|⟨q,i,nQ,rfl⟩);{obtain⟨i,v,y,e1,e2,rfl,e3,e4,e5,e6,_⟩:=bk k x hx;have hB:=tR.Wl i y _ e2 e1;rw[s1 k x hx,t2 k (UF k x hx)];simp only[aS,Prod.mk.injEq,List.not_mem_nil,or_false]at e6;rcases e6 with⟨⟨rfl,em⟩|⟨rfl,em⟩|⟨rfl,em⟩,_⟩|⟨em,_,rfl,em2⟩<;>rw[em]at hB;{obtain⟨b,cs,e,xs,k1,k2,k3,k4,k5,k6⟩:=hB;exact⟨b,cs,e,xs,k1,k2,k3,k4,by simp,k6⟩};{exact hB};{trivial};{rcases em2 with e|⟨r,e⟩<;>rw[e]<;>exact hB}};{obtain⟨v,y,e1,e2,e3,e4,e5⟩:=rv q i nQ;rw[s2 q i y nQ e3,t1 q i nQ,e2];exact e5}};{rintro k (⟨x,hx⟩|⟨q,i,nQ,rfl⟩);{exact .inl (t2 k (UF k x hx))};{exact .inr (.inr (nw q i nQ).1)}};{rintro k (⟨x,hx⟩|⟨q,i,nQ,rfl⟩);{obtain⟨i,v,y,e1,e2,rfl,e3,e4,e5,e6,_⟩:=bk k x hx;rw[s1 k x hx];simp only[aS,Prod.mk.injEq,List.not_mem_nil,or_false]at e6;right;rcases e6 with⟨⟨rfl,em⟩|⟨rfl,em⟩|⟨rfl,em⟩,_⟩|⟨em,_,rfl,e|⟨r,e⟩⟩<;>first|(rw[e];simp)|simp};{obtain⟨v,y,e1,e2,e3,e4,e5⟩:=rv q i nQ;rw[s2 q i y nQ e3];right;simp}};{rintro k (⟨x,hx⟩|⟨q,i,nQ,rfl⟩);{obtain⟨i,v,y,e1,e2,rfl,e3,e4,e5,e6,_⟩:=bk k x hx;rw[s1 k x hx];simp only[aS,Prod.mk.injEq,List.not_mem_nil,or_false]at e6;rcases e6 with⟨e6,hP⟩|⟨em,ex,_⟩;{exact .inl ⟨hP,by rcases e6 with⟨rfl,em⟩|⟨rfl,em⟩|⟨rfl,em⟩<;>rfl⟩};{exact .inr ⟨e5,ex⟩}};{obtain⟨v,y,e1,e2,e3,e4,e5⟩:=rv q i nQ;rw[s2 q i y nQ e3,(nw q i nQ).1];exact .inl ⟨rfl,rfl⟩}};{rintro k (⟨x,hx⟩|⟨q,i,nQ,rfl⟩) _;{obtain⟨i,v,y,e1,e2,rfl,e3,e4,e5,e6,_⟩:=bk k x hx;exact .inl e4};{exact .inr (nw q i nQ).1}};{have Ja:∀k x,(k,x)∈iV V sg.md cs Bo->(S' k).2.own=Qf->∃i,(sg.md.getD i .pl).Ja/\vs[i]?=Bm (τ k):=λk x hx ho=>by{obtain⟨i,v,y,e1,e2,rfl,e3,e4,e5,e6,_⟩:=bk k x hx;rw[s1 k x hx]at ho;refine⟨i,?_,e1⟩;simp only[aS,Prod.mk.injEq,List.not_mem_nil,or_false]at e6;rcases e6 with⟨⟨rfl,em⟩|⟨rfl,em⟩|⟨rfl,em⟩,_⟩|⟨em,_⟩<;>rw[em]<;>first|(cases ho;done)|exact⟨by simp,by simp⟩};have Q8:∀k x q i g,(k,x)∈iV V sg.md cs Bo->sg.own[q]?=Bm i->fP τ' S' k=Bm g->fP τ' S' (own q)=Bm g->False:=λk x q i g hx nQ h1 h2=>by{obtain⟨o1,b1⟩:=ft h1;obtain⟨o2,b2⟩:=ft h2;obtain⟨j,l1,l2⟩:=Ja k x hx o1;obtain⟨v,y,e1,e2,e3,e4,e5⟩:=rv q i nQ;rw[t1 q i nQ,e2]at b2;rw[t2 k (UF k x hx)]at b1;exact tR.YW i (aP nQ) v g e1 b2 j _ l1 l2 b1};rintro k g (⟨x,hx⟩|⟨q,i,nQ,rfl⟩) hb;{obtain⟨i,v,y,e1,e2,rfl,e3,e4,e5,e6,_⟩:=bk k x hx;have b1:=(ft hb).2;rw[t2 k (UF k x hx)]at b1;have b2:=gC e4 e5 b1;refine⟨h1.dz k g b2,?_,.inr ⟨k,.inl ⟨x,hx⟩,b2⟩⟩;rintro k' (⟨x',B5⟩|⟨q,i,nQ,rfl⟩) nc lu;{obtain⟨_,_,_,_,_,_,_,f4,f5,_⟩:=bk k' x' B5;have b3:=(ft lu).2;rw[t2 k' (UF k' x' B5)]at b3;exact nc (h1.sR b2 (gC f4 f5 b3)).symm};{exact Q8 k x q i g hx nQ hb lu}};{obtain⟨v,y,e1,e2,e3,e4,e5⟩:=rv q i nQ;have b1:=(ft hb).2;rw[t1 q i nQ,e2]at b1;have hm:=tR.dz i (aP nQ) v g e1 b1;refine⟨hm.elim (HM g) λe=>.inr (Nat.le_trans h'.ext.size e),?_,hm.symm.imp id λhg=>?_⟩;{rintro k' (⟨x',B5⟩|⟨q',i',SH,rfl⟩) nc lu;{exact Q8 k' x' q i g B5 nQ lu hb};{obtain⟨v',y',f1,f2,_⟩:=rv q' i' SH;have b2:=(ft lu).2;rw[t1 q' i' SH,f2]at b2;exact nc (by rw[tR.YX q q' i i' v v' g nQ SH e1 f1 b1 b2])}};{obtain⟨k0,x0,h0,tp⟩:=Zj g hg;exact⟨k0,.inl ⟨x0,h0⟩,tp⟩}}};{rintro k (⟨x,hx⟩|⟨q,i,nQ,rfl⟩) j hj;{obtain⟨i,v,y,e1,e2,rfl,e3,e4,e5,e6,_⟩:=bk k x hx;rw[s1 k x hx]at hj;simp only[aS,Prod.mk.injEq,List.not_mem_nil,or_false]at e6;(rcases e6 with⟨⟨rfl,em⟩|⟨rfl,em⟩|⟨rfl,em⟩,_⟩|⟨em,ex,_⟩<;>first|(simp[Gh.cQ]at hj;done)|skip);rw[ex]at hj;obtain⟨q1,q2⟩:=h1.inv k j hj;refine⟨q1,?_⟩;by_cases hb:∃x',(j,x')∈iV V sg.md cs Bo;{obtain⟨x',B5⟩:=hb;obtain⟨i',_,_,_,_,_,_,f3,_,f6,_⟩:=bk j x' B5;rw[s1 j x' B5];simp only[aS,Prod.mk.injEq,List.not_mem_nil,or_false]at f6;rcases f6 with⟨⟨rfl,_⟩|⟨rfl,_⟩|⟨rfl,_⟩,_⟩|⟨_,rfl,_⟩<;>first|(simp;done)|exact q2};{rw[s3 j (λx' B5=>hb ⟨x',B5⟩) λq i nQ e=>by rw[<-e]at q2;exact q2 (nw q i nQ).1];exact q2}};{obtain⟨v,y,e1,e2,e3,e4,e5⟩:=rv q i nQ;rw[s2 q i y nQ e3]at hj;simp[Gh.cQ]at hj}};{rintro k (⟨x,hx⟩|⟨q,i,nQ,rfl⟩) hk;{obtain⟨_,_,_,_,_,_,e3,_⟩:=bk k x hx;omega};{have:=(nw q i nQ).2.2;omega}}};have Eb:eI C S' a w' R' τ':=⟨h'.size,h'.defers,uQ,λt ht=>by
   rw[t2 t λq i nQ e=>by have:=(nw q i nQ).2.2;omega];exact h'.tmps t ht,
  ⟨h'.io.1,λk hk=>by rw[t2 k λq i nQ e=>by have:=(nw q i nQ).2.1;omega];exact h'.io.2 k hk⟩,h'.ext.trans nV (λb hb=>HM b hb),h'.gl.dr nV.dr⟩
 show K (a.put o.dst x) w';rcases hd with hd|⟨d,hd,hl⟩;{rw[hd]at hK⊢;exact hK _ _ ⟨R',τ',show eI C _ a w' R' τ' by simpa only[iU,Gq]using Eb⟩}
 ·rw[hd]at hK⊢;refine hK _ _ ?_;simp only[iU,Gq];have AQ:dP R' w' τ' (IK own sg (outs.take sg.b9)).1 (IK own sg (outs.take sg.b9)).2 x/\(IK own sg (outs.take sg.b9)).2.slot=Qf/\∀k∈(IK own sg (outs.take sg.b9)).2.cQ,∃q i,sg.own[q]?=Bm i/\k=own q:=by
   have j7:=tR.rep;unfold IK;cases hb:Nat.beq sg.b9 1 with
   |true=>
    have hb:=az hb;have hx:=tR.val;simp only[hb,if_true]at hx;have hl:=tR.len;simp only[hb]at hl;obtain⟨v,rfl⟩:∃v,jt=[v]:=by
     match jt,hl with
     |[v],_=>exact⟨v,rfl⟩
    subst hx;simp only[aj];cases ho:sg.own with
    |nil=>
     rw[ho,Dx]at j7;refine⟨?_,rfl,by simp[Gh.cQ]⟩;generalize outs.take sg.b9=l at*;cases j7 with
     |cons hr _=>exact .no hr
    |cons i r=>
     have h0:sg.own[0]?=Bm i:=by{rw[ho];rfl};obtain⟨v',y,e1,e2,e3,e4,e5⟩:=rv 0 i h0;cases Uw:Nat.blt i 1000 with
     |true=>have GG:=e1;unfold qG at GG;rw[Uw,aj]at GG;have hi:i=0:=by{have:=(aG.1 GG).1;simp at this;exact this};subst hi;cases GG;dsimp only;simp only[Uw,aj];exact⟨⟨by rw[t1 0 0 h0];rfl,e5.one⟩,rfl,λk hk=>⟨0,0,by rw[<-ho];exact h0,by simpa[Gh.cQ]using hk⟩⟩
     |false=>
      have GG:=e1;unfold qG at GG;rw[Uw,ae]at GG;simp only[List.getElem?_cons_zero]at GG;have Vx:nj (i::r)=Qg:=by{unfold nj;rw[List.all_cons,Uw];rfl};rw[ho]at j7;dsimp only;simp only[Uw,ae];unfold tE at j7⊢;rw[Vx]at j7⊢;simp only[ae]at j7⊢;unfold sS at e3;rw[Uw,ae]at e3;generalize outs.take sg.b9=l at*;match l,e3,j7 with
      |.ag Cz::l',_,j7=>
       simp only[bc,WU]at j7⊢;cases j7 with
       |cons hr ht=>
        cases hr with
        |sc e=>cases e
        |@ag _ ys hL=>have yS:ys[i -1000]?=Bm (τ' (own 0)):=by{rw[t1 0 i h0,e2];exact GG};exact⟨⟨_,_,rfl,rfl,hL,λp hp=>by simp at hp;subst hp;exact yS⟩,rfl,λk hk=>⟨0,i,by rw[<-ho];exact h0,by simpa[Gh.cQ]using hk⟩⟩
   |false=>
    have hb:sg.b9≠1:=λe=>by{rw[e]at hb;cases hb};have hx:=tR.val;simp only[ak hb]at hx;subst hx;simp only[ae];cases ho:sg.own with
    |nil=>rw[ho]at j7;exact⟨.no (.tu j7),rfl,by simp[Gh.cQ]⟩
    |cons i r=>
     simp only[List.isEmpty_cons,ae];rw[<-ho];have key:∀p∈(sg.own.mapIdx λj i=>(i,own j)),∃q,sg.own[q]?=Bm p.1/\p.2=own q:=λp hp=>by{obtain⟨q,hq⟩:=List.mem_iff_getElem?.1 hp;rw[List.getElem?_mapIdx,aO]at hq;obtain⟨i,h1,rfl⟩:=hq;exact⟨q,h1,rfl⟩};refine⟨⟨jt,_,rfl,rfl,j7,λp hp=>?_⟩,rfl,λk hk=>?_⟩
     ·obtain⟨q,k1,k2⟩:=key p hp;obtain⟨v',y,e1,e2,e3,e4,e5⟩:=rv q p.1 k1;have Vx:nj sg.own=Qf:=by
       unfold okO at ZF;cases hs:nj sg.own with
       |true=>rfl
       |false=>rw[hs,Bool.false_or,ah]at ZF;exact(hb (az ZF.1)).elim
      have GG:=e1;unfold qG at GG;rw[aI.1 Vx p.1 (aP k1),aj]at GG;rw[k2,t1 q p.1 k1,e2,GG]
     {obtain⟨p,hp,rfl⟩:=bo.1 hk;obtain⟨q,k1,k2⟩:=key p hp;exact⟨q,p.1,k1,k2⟩}
  refine Eb.OH hl AQ.1 AQ.2.1 λk hk=>?_;obtain⟨q,i,nQ,rfl⟩:=AQ.2.2 k hk;obtain⟨v,y,e1,e2,e3,e4,e5⟩:=rv q i nQ;exact⟨(nw q i nQ).2.2,by rw[s2 q i y nQ e3];simp⟩
end
def Kw{P:Program}{w:World}{nm:String}{b:Nat}(hb:Fl.num b=Qf):(Extern.MathFloor.toIntegral nm .zero #[.float .f64 b]).run P w=.ok (.float .f64 (Fl.nD b)) w:=by
 unfold Fl.num at hb;have e:Extern.MathFloor.toIntegral nm .zero #[.float .f64 b]=(match FloatKind.f64.decode b with
  |.nan s t=>
   if FloatKind.f64.format.quiet t=t then pure (.float .f64 b)else do
   let kept<-choose (.extern "math.Floor,Ceil,Trunc,RoundToEven.signallingNaN kept" 2);pure (.float .f64 (if kept==1 then b else FloatKind.f64.encode (.nan s (FloatKind.f64.format.quiet t))))
  |d=>pure (.float .f64 (FloatKind.f64.encode (d.integral .zero)))):=rfl
 rw[e];unfold Fl.nD;cases hd:FloatKind.f64.decode b with
 |nan s t=>rw[hd]at hb;cases hb
 |number s m e=>rfl
 |infinity s=>rfl
def Mt{fn:Func}{nm:String}{f:Array Value->Sem Value}(h:fn.name=nm)(e1:Extern.allGenericRows.lookup nm=Kk)(e2:Extern.allTypedRows.lookup nm=Kk)(e3:Extern.allRows.lookup nm=Bm f):Extern.find fn=Bm f:=by unfold Extern.find;simp only[h,e1,e2,e3];rfl
def Ms{fn:Func}{nm:String}(h:fn.name=nm)(h2:fn.origin= "" \/fn.origin=nm)(e1:Extern.allNextRows.lookup nm=Kk):Extern.findNext fn=Kk:=by have e2:(Extern.allNextRows.lookup "")=Kk:=by{kernel_rfl};unfold Extern.findNext;rcases h2 with h2|h2<;>simp only[h,h2,e1,e2]<;>rfl
theorem ET(l:bE):Lib.bytesOf (l.map λx=>(x.toNat:Int))=l:=by unfold Lib.bytesOf;rw[bx];(conv=>rhs;rw[<-List.map_id l]);exact List.map_congr_left λx _=>by simp
def Dn{P:Program}{w:World}{R:Reach}{l:bE}{v:Value}{c:UInt8}(h:Rep R w (.sl .bs l) v):(Extern.BytealgIndexByte.indexByte #[v,.int .u8 c.toNat]).run P w=.ok (.int .i64 (Lib.indexByte l c)) w:=by
 have hs:=Lib.run_indexByteString (P:=P) .empty (c.toNat:Int) w;cases h with
 |sc h=>cases h
 |sn=>exact hs
 |em=>exact hs
 |@sl _ _ b off n cap hn _ _ hE=>
  have e:=Lib.run_indexByteSlice (P:=P) w b off n cap (l.map λx=>(x.toNat:Int)) (by simp[hn]) (λi hi=>by
   have hi:i<l.length:=by{omega};have hg:=hE.get i (.u8 l[i]) (by rw[bq,au hi];rfl);rw[show eu.size .bs=1 from rfl,Nat.mul_one]at hg;cases hg with
   |one _ _ hc _ hr=>rw[hc,hr.cq rfl,ai,bq,au hi];rfl) (c.toNat:Int)
  rw[e,ET];simp
section
variable{C:Ctx}{S V:St}{a:Act}{w:World}{R:Reach}{τ:Nat->Value}{o:Oper}
theorem uZ{f:Nat}{nm:String}{args:Array Operand}{ts:Array TypeId}{g:Array Value->Sem Value}{vs:Array Value}{v:Value}(ho:o.op=.call {callee:=.value (.func f),args:=args,argTypes:=ts})(hv:args.map a.eval=vs)(hf:ql C.P f nm=Qf)(hg:(nm== "runtime.NumGoroutine")=Qg)(e1:Extern.allGenericRows.lookup nm=Kk)(e2:Extern.allTypedRows.lookup nm=Kk)(e3:Extern.allRows.lookup nm=Bm g)(e4:Extern.allNextRows.lookup nm=Kk)(hr:(g vs).run C.P w=.ok v w):(execOp a.eval o).run C.P w=.ok (.value v) w:=by
 unfold ql at hf;cases hfn:C.P.funcs[f]? with
 |none=>simp[hfn]at hf
 |some fn=>simp only[hfn,Option.any_some,ah,beq_iff_eq,Bool.or_eq_true]at hf;obtain⟨⟨hn,hb⟩,hor⟩:=hf;have nJ:=run_callFunc_extern (P:=C.P) hfn (by rw[hn];simpa using hg) hb (Ms hn hor e4) (Mt hn e1 e2 e3) vs w;rw[hr]at nJ;have he:a.eval (.func f)=.func (.func f) #[] #[]:=rfl;simp only[execOp,ho,resolve,Deferred.ofValue,he,invoke];simpa[hv,resolve,Deferred.ofValue,invoke]using nJ
theorem eW.any(h:eI C S a w R τ)(hd:o.dst=Kk\/∃d,o.dst=Bm d/\d<C.nt){v:Value}{x:TV}(hr:(execOp a.eval o).run C.P w=.ok (.value v) w)(hs:Rep R w x v):eW C o a w (iU S o.dst ⟨Kk,(x,.no),[]⟩):=by rcases hd with hd|⟨d,hd,hl⟩;{intro K Q hK;unfold Oper.wp;rw[hr,Oper.upon_value,hd];rw[hd]at hK;exact hK _ _ ⟨R,τ,h⟩};{rw[hd];exact h.iH hd hl hr hs}
theorem go_xtn(h:eI C S a w R τ)(hV:Lt V S)(hd:o.dst=Kk\/∃d,o.dst=Bm d/\d<C.nt){f:Nat}{args:Array Operand}{ts:Array TypeId}{e:gT}(hp:∀p,e.p=Bm p->p=Qf)(ho:o.op=.call {callee:=.value (.func f),args:=args,argTypes:=ts})(he:Tn C.P f (rh C.E C.nt V ts.toList args.toList)=Bm e):eW C o a w (iU S o.dst e):=by
 cases sV:rh C.E C.nt V ts.toList args.toList with
 |none=>rw[sV]at he;cases he
 |some cs=>
  obtain⟨iQ,_,_⟩:=qJ h hV sV;have ea:∀{vs:List Value},args.toList.map a.eval=vs->args.map a.eval=⟨vs⟩:=λhv=>by{apply Array.ext';simpa using hv};rw[sV]at he;unfold Tn at he;split at he
  ·rename_i b hb;cases hb;obtain⟨h1,h2⟩:=bG.1 he;cases h2;generalize hv:args.toList.map a.eval=vs at iQ;cases iQ with
   |cons a1 _ t=>cases t;obtain rfl:=(jH.rep a1).cq rfl;have:=uZ ho (ea hv) h1 (by decide+kernel) (by kernel_rfl) (by kernel_rfl) (by kernel_rfl) (by kernel_rfl) (Kw (P:=C.P) (w:=w) (nm:=Kz) (hp _ rfl));exact eW.any h hd this (.sc rfl)
  ·rename_i l c hb;cases hb;obtain⟨h1,h2⟩:=bG.1 he;cases h2;generalize hv:args.toList.map a.eval=vs at iQ;cases iQ with
   |cons a1 _ t=>
    cases t with
    |cons a2 _ t=>cases t;obtain rfl:=(jH.rep a1).cq rfl;obtain rfl:=(jH.rep a2).cq rfl;have hr:(Extern.BytealgIndexByte.indexByte #[.string ⟨⟨l⟩⟩,.int .u8 c.toNat]).run C.P w=.ok (.int .i64 (Lib.indexByte l c)) w:=by{rw[Lib.run_indexByteString];simp};have:=uZ ho (ea hv) h1 (by decide+kernel) (by kernel_rfl) (by kernel_rfl) (by kernel_rfl) (by kernel_rfl) hr;exact eW.any h hd this (.sc rfl)
  ·rename_i l c hb;cases hb;obtain⟨h1,h2⟩:=bG.1 he;cases h2;generalize hv:args.toList.map a.eval=vs at iQ;cases iQ with
   |cons a1 _ t=>
    cases t with
    |cons a2 _ t=>cases t;obtain rfl:=(jH.rep a2).cq rfl;have:=uZ ho (ea hv) h1 (by decide+kernel) (by kernel_rfl) (by kernel_rfl) (by kernel_rfl) (by kernel_rfl) (Dn (jH.rep a1));exact eW.any h hd this (.sc rfl)
  ·rename_i x y z hb;cases hb;obtain⟨h1,h2⟩:=bG.1 he;cases h2;generalize hv:args.toList.map a.eval=vs at iQ;cases iQ with
   |cons a1 _ t=>
    cases t with
    |cons a2 _ t=>
     cases t with
     |cons a3 _ t=>cases t;obtain rfl:=(jH.rep a1).cq rfl;obtain rfl:=(jH.rep a2).cq rfl;obtain rfl:=(jH.rep a3).cq rfl;have hz:z.toNat<=1:=ao (hp _ rfl);have hr:(add64Entry #[.int .u64 x.toNat,.int .u64 y.toNat,.int .u64 z.toNat]).run C.P w=.ok (.tuple #[.int .u64 (UInt64.ofNat (x.toNat+y.toNat+z.toNat)).toNat,.int .u64 (UInt64.ofNat ((x.toNat+y.toNat+z.toNat)/18446744073709551616)).toNat]) w:=by{have hx:=x.toNat_lt;have hy:=y.toNat_lt;rw[run_add64 _ _ _ (by omega) (by omega) (by omega) (by omega),UInt64.toNat_ofNat',UInt64.toNat_ofNat',Nat.mod_eq_of_lt (show(x.toNat+y.toNat+z.toNat)/18446744073709551616<2^64 by omega)];congr 5};have:=uZ ho (ea hv) h1 (by decide+kernel) (by kernel_rfl) (by kernel_rfl) (by kernel_rfl) (by kernel_rfl) hr;exact eW.any h hd this (.tu (.cons (.sc rfl) (.cons (.sc rfl) .nil)))
  {cases he}
end
def Cells.get{R:Reach}{w:World}{τ:Nat->Value}{nt:Nat}:∀{cs:List Cell}{vs:List Value},Cells R w τ nt cs vs->∀(i:Nat)(c:Cell),cs[i]?=Bm c->∃v,vs[i]?=Bm v/\dP R w τ c.1 c.2 v/\∀m∈c.2.cQ,nt<=m
 |_,_,.cons a b _,0,c,h=>by cases h;exact⟨_,rfl,a,b⟩
 |_,_,.cons _ _ t,i+1,c,h=>by simpa using Cells.get t i c (by simpa using h)
def Cells.set{R:Reach}{w:World}{τ:Nat->Value}{nt:Nat}:∀{cs:List Cell}{vs:List Value}{i:Nat},Cells R w τ nt cs vs->Cells R w τ nt (cs.set i (.dead,.no)) vs
 |_,_,_,.nil=>.nil
 |_,_,0,.cons a b t=>.cons (.no (.dead _)) (by simp[Gh.cQ]) t
 |_,_,i+1,.cons a b t=>.cons a b (Cells.set t)
def Qv{a b:Nat}(h:(!Nat.beq a b)=Qf):a≠b:=λe=>by subst e;simp at h
def OB{R:Reach}{w:World}{τ:Nat->Value}{n:Nat}{rs:List TV}{jt:List Value}(h:hO R w rs jt)(hl:jt.length=n):dP R w τ (IJ n rs).1 (IJ n rs).2 (if jt.length=1 then jt.headD undef else .tuple ⟨jt⟩)/\(IJ n rs).2.slot=Qf/\(IJ n rs).2.cQ=[]:=by
 unfold IJ;cases hb:Nat.beq n 1 with
 |true=>
  have:=az hb;rw[ar (by omega)];refine⟨?_,rfl,rfl⟩;match rs,jt,h with
  |[],[],_=>simp at hl;omega
  |_,_,.cons a _=>exact .no a
 |false=>rw[ak (by intro e;rw[<-hl,e]at hb;simp at hb)];exact⟨.no (.tu h),rfl,rfl⟩
section
variable{C:Ctx}{S V:St}{a:Act}{w:World}{R:Reach}{τ:Nat->Value}{o:Oper}{d:Nat}
theorem go_pn(h:eI C S a w R τ)(hV:Lt V S)(hd:o.dst=Bm d)(hl:d<C.nt){neg:Bool}{b:BinOp}{t u e:TypeId}{x y:Operand}{m q:Nat}(ho:o.op=.binOp b t x y u)(hb:b=if neg then .neq else .eql)(ht:C.P.underlying t=Bm (.pointer e))(hx:gU C.E C.nt V t x=Bm (.pt,.ptr m q))(hy:gU C.E C.nt V u y=Bm (.c (.pointer Kk),.no)):eW C o a w (cH S d (.b neg,.no)):=by obtain⟨q1,_,_⟩:=gR h hV hx;obtain⟨g,_,hp⟩:∃g,τ m=.pointer (Bm ⟨g,0,Kk⟩)/\a.eval x=.pointer (Bm ⟨g,q,Kk⟩):=q1;have hq:=(fe h hV hy).cq rfl;have hg:eqGuard b t x y (.pointer (Bm ⟨g,q,Kk⟩)) (.pointer Kk)=pure ():=by{unfold eqGuard;cases neg<;>simp[hb]};have he:(Op.equal t (.pointer (Bm ⟨g,q,Kk⟩)) (.pointer Kk)).run C.P w=.ok Qg w:=by{unfold Op.equal Op.maxDepth;rw[show(10000:Nat)=9999+1 from rfl,Op.equalIn];simp[run_underlying ht]};refine h.iH hd hl (v:=.bool neg) ?_ (.sc rfl);simp only[execOp,ho,hp,hq,hg,Sem.run_bind,Sem.run_pure,Result.andThen_ok];cases neg<;>simp[hb,binOp,he]
theorem go_exv(h:eI C S a w R τ)(hV:Lt V S)(hd:o.dst=Bm d)(hl:d<C.nt){x:Operand}{i k:Nat}{vs ds:List TV}{ts l:List (Nat×Nat)}(ho:o.op=.extract x i)(hx:gU C.E C.nt V 0 x=Bm (.tu vs,.J5 l))(hk:nL i l=Bm k)(hm:V k=(.ag ds,.cl ts)):eW C o a w (cH S d (.pt,.ptr k 0)):=by obtain⟨q1,_,q3⟩:=gR h hV hx;obtain⟨ys,Fb,e1,e2,e3,e4⟩:∃ys Fb,a.eval x=.tuple ⟨ys⟩/\TV.tu vs=.tu Fb/\hO R w Fb ys/\∀p∈l,ys[p.1]?=Bm (τ p.2):=q1;have qS:=nu hk;obtain⟨b,zs,el,ht,_⟩:=oB h hV (hV.of hm);refine h.val hd hl (v:=τ k) (by simp[execOp,ho,e1,Instr.extract,e4 _ qS]) (g:=.ptr k 0) ⟨b,ht,ht⟩ rfl λj hj=>?_;simp only[Gh.cQ,List.mem_singleton]at hj;subst hj;exact q3 _ (List.mem_map_of_mem (f:=(·.2)) qS)
theorem MI{w':World}{R':Reach}{τ':Nat->Value}{K:Act->World->Prop}{e:gT}{v:Value}{l:List (Nat×Cell)}(hd:o.dst=Kk\/∃d,o.dst=Bm d/\d<C.nt)(hs:eI C (eY S l) a w' R' τ')(he:e.ws=l)(h1:dP R' w' τ' e.x.1 e.x.2 v)(h2:e.x.2.slot=Qf)(h3:∀k∈e.x.2.cQ,C.nt<=k/\(eY S l k).2≠.no)(hK:∀a' w',wx C (iU S o.dst e) a' w'->K a' w'):K (a.put o.dst v) w':=by rcases hd with hd|⟨d,hd,hl⟩;{rw[hd]at hK⊢;exact hK _ _ ⟨R',τ',show eI C _ a w' R' τ' by simpa only[iU,he]using hs⟩};{rw[hd]at hK⊢;refine hK _ _ ?_;simp only[iU,he];exact hs.OH hl h1 h2 h3}
set_option maxHeartbeats 1000000 in
theorem go_wr(h:eI C S a w R τ)(hV:Lt V S)(hd:o.dst=Kk\/∃d,o.dst=Bm d/\d<C.nt){f n i k:Nat}{c:cX}{e:Bool}(hS:Rm C.P C.gl f n i k c e){args:Array Operand}{ts:Array TypeId}{x:Operand}(ho:o.op=.call {callee:=.value x,args,argTypes:=ts})(hx:a.eval x=.func (.func f) #[] #[]){tl:List TypeId}{cs:List Cell}{own:Nat->Nat}{ef:gT}(sV:rh C.E C.nt V tl args.toList=Bm cs)(hp:∀p,ef.p=Bm p->p=Qf)(he:Yn C.nt own V n c i k e cs=Bm ef):eW C o a w (iU S o.dst ef):=by
 unfold Yn at he;(split at he<;>try(cases he;done));rename_i m hci;(split at he<;>try(cases he;done));rename_i ds us hm;(split at he<;>try(cases he;done));rename_i xs ws ds' Fa y wj Uq Up LX;obtain⟨VW,he⟩:=bG.1 he;simp only[ah,aI]at VW;obtain⟨⟨hkd,NH⟩,VW⟩:=VW;have NH:0<C.nt:=Nat.le_of_ble_eq_true NH;have Kd:∀p∈Fa++ws,p.1≠m:=λp hp=>Qv (VW p hp).1;have Gp:∀q∈wj,∀p∈Fa++ws,p.1≠q.1:=λq hq p hp=>Qv ((VW p hp).2 q hq);obtain⟨iQ,_,Gm⟩:=qJ h hV sV;generalize Gk:args.toList.map a.eval=vs at*;have Z7:S m=(.ag ds,.cl us):=hV.of hm;obtain⟨b,zs,el,Pf,hbm,hL,Xb,S5,hinv,hblk⟩:=oB h hV Z7;have hvi:vs[i]?=Bm (.pointer (Bm ⟨b,0,Kk⟩)):=by{obtain⟨v,h1,h2,_⟩:=iQ.get i _ hci;obtain⟨b',e1,e2⟩:∃b',τ m=.pointer (Bm ⟨b',0,Kk⟩)/\v=.pointer (Bm ⟨b',0,Kk⟩):=h2;rw[Pf]at e1;cases e1;rw[h1,e2]};obtain⟨R1,g1,f1,hT,q1⟩:=yX h.core hV.q iQ.set Uq;obtain⟨R2,g2,f2,hL2,q2,_,SY⟩:=oY g1 q1 (hL.mono f1.1) (λt ht=>by have ht:t∈us:=by{cases e<;>first|exact ht|exact(List.mem_filter.1 ht).1};exact⟨(hinv t ht).1,Xb t ht⟩) Up;have hkd:k<ds.length:=by{rw[<-SY];exact Nat.le_of_ble_eq_true hkd};rw[<-iY]at g2 q2;have f12:Fz C.dz R w R2:=f1.trans f2;have h':eI C (eY S (Fa++ws)) a w R2 τ:=h.fz g2 f12;generalize PB:eY S (Fa++ws)=S1 at*;have CP:S1 m=(.ag ds,.cl us):=by{rw[<-PB,ix Kd,Z7]};obtain⟨b',GY,NQ,e1,e2,_,_,aaa,_,HP⟩:=oB h' (Lt.refl S1) CP;rw[Pf]at e1;cases e1;rw[hbm]at e2;cases e2;have HK:zs.length=ds.length:=hL.length.symm;obtain⟨u,hu,Zq,NL,Ef⟩:∃u,zs[k]?=Bm u/\(e=Qf->fi R2 w Qg u y/\Value.fP u≠Bm b)/\(wj=[]\/∃j z,wj=[(j,(.dead,.zz))]/\S1 j=(z,.pv)/\j≠m/\C.nt<=j)/\
   (∀g,e=Qf->Value.fP u=Bm g->∃j,wj=[(j,(.dead,.zz))]/\fP τ S1 j=Bm g):=by
  cases e with
  |false=>rw[ae]at LX;cases LX;exact⟨_,au (by omega),by simp,.inl rfl,by simp⟩
  |true=>
   rw[aj]at LX;unfold Qk at LX;split at LX;{rename_i j hj;(split at LX<;>try(cases LX;done));rename_i y' hVj;cases LX;have qS:=nu hj;have Z9:S j=(y,.pv):=hV.of hVj;have Xh:S1 j=(y,.pv):=by{rw[<-PB,ix (Gp _ (List.mem_singleton.2 rfl)),Z9]};have Xg:j≠m:=λe=>by{rw[e,Z7]at Z9;cases Z9};have hK:=h'.core.key j;rw[Xh]at hK;have vQ:∀g,Value.fP (τ j)=Bm g->fP τ S1 j=Bm g:=λg hg=>gC (by rw[Xh];rfl) (by rw[Xh];rfl) hg;exact⟨τ j,Xb _ qS,λ_=>⟨hK,λhb=>Xg (h'.core.sR (vQ b hb) HP)⟩,.inr ⟨j,y,rfl,Xh,Xg,(hinv _ qS).1⟩,λg _ hg=>⟨j,rfl,vQ g hg⟩⟩}
   ·(split at LX<;>try(cases LX;done));rename_i t ht;cases LX;obtain⟨u,hu,_,hr⟩:=hL.get k _ ht;have:u=.slice Kk 0 0:=by
     cases hr with
     |sc h=>cases h
     |nl=>rfl
    subst this;exact⟨_,hu,λ_=>⟨⟨t,[],rfl,.inl ⟨rfl,rfl⟩⟩,by simp[Value.fP]⟩,.inl rfl,λg _ hg=>by cases hg⟩
 have fin:∀outs p,(c (xs.set i (.ag ((ds'.map nrm).set k .pt))++[y])).holds outs->UN C.nt own V n m k (wj++(Fa++ws)) p outs=Bm ef->eW C o a w (iU S o.dst ef):=by{intro outs p hc he;unfold UN at he;(split at he<;>try(cases he;done));rename_i x2 y2 Ut;obtain⟨Pt,he⟩:=bG.1 he;cases he;obtain⟨F2,nk2,Ui⟩:=ib (show Lq V S1 from q2) Pt;obtain⟨L2,nJ⟩:=hS _ outs hc;have Pj:xs.length=vs.length:=hT.length;have Xi:i<vs.length:=(aG.1 hvi).1;have nJ:=nJ w R2 vs b zs el ((ds'.map nrm).set k .pt) u y h'.core.th h'.gl (by simp[Pj]) (λj x v hj hx hv=>by have VL:j<vs.length:=(aG.1 hv).1;rw[List.getElem?_append_left (by simp;omega),List.getElem?_set_ne (Ne.symm hj)]at hx;obtain⟨v',h1,h2⟩:=hT.get j x hx;rw[hv]at h1;cases h1;exact h2.mono f2.1) hvi (by rw[List.getElem?_append_left (by simp;omega),List.getElem?_set_self (by omega)]) hbm ((qa hL2).set λ_ _=>.pt _) aaa hu (by rw[<-Pj];simp) Zq;intro K Q hK;unfold Oper.wp;rw[zh ho hx L2,Oper.upon_enter];have e0:(⟨vs⟩:Array Value)=args.map a.eval:=by{apply Array.ext';simp[<-Gk]};rw[e0]at nJ;refine nJ.mono ?_;rintro ex w' ⟨R',jt,GY,NQ,x',u',y',rfl,nV,Jl,CO,tR,j7,lu,Xp,aab,SS,Ff,Vu⟩;rw[Ut]at tR;cases tR;show K (a.put o.dst _) w';have Xe:own 0≠m:=λe=>by{rw[e,CP]at F2;cases F2};have hoj:∀q∈wj,own 0≠q.1:=λq hq e=>by{rcases NL with rfl|⟨j,z,rfl,hj,_⟩;{cases hq};{rw[List.mem_singleton]at hq;subst hq;simp only at e;rw[e,hj]at F2;cases F2}};have Xg:∀q∈wj,q.1≠m:=λq hq e=>by{rcases NL with rfl|⟨j,z,rfl,hj,nc,_⟩;{cases hq};{rw[List.mem_singleton]at hq;subst hq;exact nc e}};have yP:eY S ((m,(.ag (x2.set k .pt),.cl [(k,own 0)]))::(own 0,(y2,.pv))::(wj++(Fa++ws)))=cH (cH (eY S1 wj) (own 0) (y2,.pv)) m (.ag (x2.set k .pt),.cl [(k,own 0)]):=by{simp only[eY,iY];rw[<-PB,iY]};generalize Gq:cH (cH (eY S1 wj) (own 0) (y2,.pv)) m (.ag (x2.set k .pt),.cl [(k,own 0)])=S' at*;have s1:S' m=(.ag (x2.set k .pt),.cl [(k,own 0)]):=by{rw[<-Gq,bR]};have s2:S' (own 0)=(y2,.pv):=by{rw[<-Gq,cO _ _ Xe,bR]};have s3:∀j x,wj=[(j,x)]->S' j=x:=λj x e=>by{subst e;rw[<-Gq,cO _ _ (Xg (j,x) (List.mem_singleton.2 rfl)),cO _ _ (Ne.symm (hoj (j,x) (List.mem_singleton.2 rfl)))];simp[eY,bR]};have s4:∀q,q≠m->q≠own 0->(∀p∈wj,p.1≠q)->S' q=S1 q:=λq e1 e2 e3=>by{rw[<-Gq,cO _ _ e1,cO _ _ e2,ix e3]};have L4:∀g,(g=b\/(e=Qf/\Value.fP u=Bm g))->C.dz g:=by{rintro g (rfl|⟨he,hg⟩);{exact h'.core.dz m _ HP};{obtain⟨j,_,hb⟩:=Ef g he hg;exact h'.core.dz j g hb}};have uQ:Core C.nt R' w' C.dz (ta τ (own 0) u') S':=by{refine h'.core.step (λq=>q=m\/q=own 0\/∃x,wj=[(q,x)]) nV.dr (λq hq=>?_) (λq g hq hb=>?_) ?_ ?_ ?_ ?_ ?_ ?_ (λ_=>id) ?_ Jl ?_;{refine⟨s4 q (λe=>hq (.inl e)) (λe=>hq (.inr (.inl e))) (λp hp e=>?_),fN _ _ λe=>hq (.inr (.inl e))⟩;rcases NL with rfl|⟨j,z,rfl,_⟩;{cases hp};{rw[List.mem_singleton]at hp;subst hp;exact hq (.inr (.inr ⟨_,by rw[<-e]⟩))}};{have VF:¬(g=b\/(e=Qf/\Value.fP u=Bm g)):=by{rintro(rfl|⟨he,hg⟩);{exact hq (.inl (h'.core.sR hb HP))};{obtain⟨j,ej,lu⟩:=Ef g he hg;have:=h'.core.sR hb lu;subst this;exact hq (.inr (.inr ⟨_,ej⟩))}};have gS:=h'.core.lt hb;exact⟨nV.heap g gS VF,λo hr=>(nV.BE g o hr).resolve_right (by rintro(h|h);exact absurd gS (by omega);exact VF h)⟩};{rintro q (rfl|rfl|⟨x,hx⟩);{rw[s1,fN _ _ (Ne.symm Xe)];exact⟨b,GY,NQ,_,Pf,lu,rfl,Xp.set λ_ _=>.pt _,λt ht=>by rw[List.mem_singleton]at ht;subst ht;rw[fw];exact SS,aab⟩};{rw[s2,fw];exact Ff};{rcases NL with e|⟨j,z,e,_⟩<;>rw[e]at hx<;>cases hx;rw[s3 _ _ e];trivial}};{rintro q (rfl|rfl|⟨x,hx⟩);{exact .inl (fN _ _ (Ne.symm Xe))};{exact .inr (.inr F2)};{exact .inl (fN _ _ (Ne.symm (hoj (q,x) (by rw[hx];exact List.mem_singleton.2 rfl))))}};{rintro q (rfl|rfl|⟨x,hx⟩)<;>right;{rw[s1];simp};{rw[s2];simp};{rcases NL with e|⟨j,z,e,_⟩<;>rw[e]at hx<;>cases hx;rw[s3 _ _ e];simp}};{rintro q (rfl|rfl|⟨x,hx⟩)<;>left;{rw[s1,CP];exact⟨rfl,rfl⟩};{rw[s2,F2];exact⟨rfl,rfl⟩};{rcases NL with e|⟨j,z,e,hj,_⟩<;>rw[e]at hx<;>cases hx;rw[s3 _ _ e,hj];exact⟨rfl,rfl⟩}};{rintro q (rfl|rfl|⟨x,hx⟩) _;{rw[CP];exact .inl rfl};{exact .inr F2};{rcases NL with e|⟨j,z,e,hj,_⟩<;>rw[e]at hx<;>cases hx;rw[hj];exact .inl rfl}};{have V0:∀g,fP (ta τ (own 0) u') S' m=Bm g->g=b:=λg hg=>by{have:=(ft hg).2;rw[fN _ _ (Ne.symm Xe),Pf]at this;cases this;rfl};have hbo:∀g,fP (ta τ (own 0) u') S' (own 0)=Bm g->Value.fP u'=Bm g:=λg hg=>by{have:=(ft hg).2;rwa[fw]at this};have Z0:∀q x g,wj=[(q,x)]->fP (ta τ (own 0) u') S' q=Bm g->False:=λq x g hx hg=>by{have:=(ft hg).1;rcases NL with e|⟨j,z,e,_⟩<;>rw[e]at hx<;>cases hx;rw[s3 _ _ e]at this;cases this};rintro q g (rfl|rfl|⟨x,hx⟩) hg;{have:=V0 g hg;subst this;refine⟨L4 _ (.inl rfl),?_,.inr ⟨_,.inl rfl,HP⟩⟩;rintro q' (rfl|rfl|⟨x,hx⟩) nc Px;{exact nc rfl};{exact(Vu _ (hbo _ Px)).1 rfl};{exact Z0 _ _ _ hx Px}};{have Vv:=hbo g hg;obtain⟨v1,v2⟩:=Vu g Vv;refine⟨v2.elim (λhh=>L4 g (.inr hh)) λhh=>.inr (Nat.le_trans h'.ext.size hh),?_,v2.symm.imp id λ⟨he,hg⟩=>?_⟩;{rintro q' (rfl|rfl|⟨x,hx⟩) nc Px;{exact v1 (V0 _ Px)};{exact nc rfl};{exact Z0 _ _ _ hx Px}};{obtain⟨j,ej,hb⟩:=Ef g he hg;exact⟨j,.inr (.inr ⟨_,ej⟩),hb⟩}};{exact(Z0 _ _ _ hx hg).elim}};{rintro q (rfl|rfl|⟨x,hx⟩) j hj;{rw[s1]at hj;simp only[Gh.cQ,bc,bt,List.mem_singleton]at hj;subst hj;exact⟨Ui,by rw[s2];simp⟩};{rw[s2]at hj;cases hj};{rcases NL with e|⟨j,z,e,_⟩<;>rw[e]at hx<;>cases hx;rw[s3 _ _ e]at hj;cases hj}};{rintro q (rfl|rfl|⟨x,hx⟩) hq;{have:=h'.core.slt q hq;rw[CP]at this;cases this};{omega};{rcases NL with e|⟨j,z,e,_,_,hn⟩<;>rw[e]at hx<;>cases hx;omega}}};obtain⟨r1,r2,r3⟩:=OB (τ:=ta τ (own 0) u') j7 CO;refine MI hd (l:=(m,(.ag (x2.set k .pt),.cl [(k,own 0)]))::(own 0,(y2,.pv))::(wj++(Fa++ws))) ?_ rfl r1 r2 (by rw[r3];simp) hK;rw[yP];exact⟨h'.size,h'.defers,uQ,λt ht=>by rw[fN _ _ (by omega)];exact h'.tmps t ht,⟨h'.io.1,λq hq=>by rw[fN _ _ (by omega)];exact h'.io.2 q hq⟩,h'.ext.trans nV L4,h'.gl.dr nV.dr⟩};split at he;{rename_i outs hc;exact fin outs Kk (by rw[hc];rfl) he};{rename_i p outs hc;have AU:p=Qf:=by{have uP:=he;unfold UN at uP;(split at uP<;>try(cases uP;done));obtain⟨_,uP⟩:=bG.1 uP;cases uP;exact hp _ rfl};exact fin outs (Bm p) (by rw[hc];exact⟨AU,rfl⟩) he};{cases he}
set_option maxHeartbeats 1000000 in
theorem go_nw(h:eI C S a w R τ)(hV:Lt V S)(hd:o.dst=Kk\/∃d,o.dst=Bm d/\d<C.nt){f n:Nat}{c:cX}{oc:Option Nat}(hS:Rp C.P C.gl f n c oc){args:Array Operand}{ts:Array TypeId}{x:Operand}(ho:o.op=.call {callee:=.value x,args,argTypes:=ts})(hx:a.eval x=.func (.func f) #[] #[]){tl:List TypeId}{cs:List Cell}{own:Nat->Nat}{ef:gT}(wW:0<C.nt->∀j j',own j=own j'->j=j')(sV:rh C.E C.nt V tl args.toList=Bm cs)(hp:∀p,ef.p=Bm p->p=Qf)(he:Y8 C.nt own V n c oc cs=Bm ef):eW C o a w (iU S o.dst ef):=by
 unfold Y8 at he;(split at he<;>try(cases he;done));rename_i xs ws Uq;obtain⟨iQ,_,Gm⟩:=qJ h hV sV;generalize Gk:args.toList.map a.eval=vs at*;obtain⟨R1,g1,f1,hT,q1⟩:=yX h.core hV.q iQ Uq;have h':eI C (eY S ws) a w R1 τ:=h.fz g1 f1;generalize PB:eY S ws=S1 at*;have e0:(⟨vs⟩:Array Value)=args.map a.eval:=by{apply Array.ext';simp[<-Gk]};have slot:∀{R':Reach}{w':World}{τ':Nat->Value}{b:Nat}{rs:List TV}{jt:List Value},τ' (own 0)=.pointer (Bm ⟨b,0,Kk⟩)->hO R' w' rs jt->jt.length+1=n->
   let q:Cell:=cond (Nat.beq n 1) (.pt,.ptr (own 0) 0) (.tu (.pt::rs),.J5 [(0,own 0)])
   dP R' w' τ' q.1 q.2 (if jt.length+1=1 then .pointer (Bm ⟨b,0,Kk⟩)else .tuple ⟨.pointer (Bm ⟨b,0,Kk⟩)::jt⟩)/\q.2.slot=Qf/\q.2.cQ=[own 0]:=by
  intro R' w' τ' b rs jt ht hr hl
  cases hb:Nat.beq n 1 with
  |true=>have:=az hb;rw[ar (by omega)];exact⟨⟨b,ht,rfl⟩,rfl,rfl⟩
  |false=>rw[ak (by intro e;rw[<-hl,e]at hb;simp at hb)];exact⟨⟨_,_,rfl,rfl,.cons (.pt _) hr,λp hp=>by rw[List.mem_singleton]at hp;subst hp;simp[ht]⟩,rfl,rfl⟩
 have fin:∀outs p,(c xs).holds outs->Vj C.nt own V n oc ws p outs=Bm ef->eW C o a w (iU S o.dst ef):=by
  intro outs p hc he;obtain⟨L2,nJ⟩:=hS _ outs hc;have nJ:=nJ w R1 vs h'.core.th h'.gl hT;rw[e0]at nJ;unfold Vj at he;intro K Q hK;unfold Oper.wp;rw[zh ho hx L2,Oper.upon_enter];refine nJ.mono ?_;rintro ex w' ⟨R',jt,b,zs,el,x1,rs1,rfl,nV,Jl,CO,SD,j7,Uv,hb,hL,S5,hoc⟩;show K (a.put o.dst _) w';have ZM:∀g,w.heap.size<=g->C.dz g:=λg hg=>.inr (Nat.le_trans h'.ext.size hg);have JX:∀j g,fP τ S1 j=Bm g->w'.heap[g]?=w.heap[g]?/\∀o,R' g o->R1 g o:=λj g hg=>by{have gS:=h'.core.lt hg;exact⟨nV.heap g gS (by simp),λo hr=>(nV.BE g o hr).resolve_right (by rintro(h|h);exact absurd gS (by omega);exact h)⟩};split at he<;>try(cases he;done)
  ·rename outs.take n=_=>e1;obtain⟨Pt,he⟩:=bG.1 he;cases he;rw[SD]at e1;cases e1;simp only[ah]at Pt;obtain⟨F2,nk2,Ui⟩:=ib (show Lq V S1 from q1) Pt.1;have uQ:=h'.core.jN (k:=own 0) (v:=.pointer (Bm ⟨b,0,Kk⟩)) (x:=.ag x1) (g:=.cl []) Ui nV.dr (λj g _ hg=>JX j g hg) ⟨b,zs,el,_,rfl,hb,rfl,hL,by simp,S5⟩ (.inr F2) (by rw[F2];exact⟨rfl,rfl⟩) (by simp) (λ_=>.inr F2)
    (λg _ hg=>by cases hg;exact⟨ZM _ Uv,.inl Uv⟩) (by simp[Gh.cQ]) Jl
   obtain⟨r1,r2,r3⟩:=slot (τ':=ta τ (own 0) (.pointer (Bm ⟨b,0,Kk⟩))) (fw _ _ _) j7 CO;have yP:eY S ((own 0,(.ag x1,.cl []))::ws)=cH S1 (own 0) (.ag x1,.cl []):=by{rw[<-PB];rfl};refine MI hd (l:=(own 0,(.ag x1,.cl []))::ws) ?_ rfl r1 r2 (λk hk=>?_) hK;{rw[yP];exact⟨h'.size,h'.defers,uQ,λt ht=>by rw[fN _ _ (by omega)];exact h'.tmps t ht,⟨h'.io.1,λq hq=>by rw[fN _ _ (by omega)];exact h'.io.2 q hq⟩,h'.ext.trans nV (λ_ h=>h.elim),h'.gl.dr nV.dr⟩};{simp only[r3,List.mem_singleton]at hk;subst hk;exact⟨Ui,by rw[yP,bR];simp⟩}
  {rename outs.take n=_=>e1;rename outs.drop n=_=>e3;rename_i k y2 _ _;obtain⟨Pt,he⟩:=bG.1 he;cases he;rw[SD]at e1;cases e1;simp only[ah]at Pt;obtain⟨F2,nk2,Ui⟩:=ib (show Lq V S1 from q1) Pt.1.1;obtain⟨Za,nl2,nl3⟩:=ib (show Lq V S1 from q1) Pt.1.2;have h01:own 0≠own 1:=λe=>absurd (wW (Nat.le_of_ble_eq_true Pt.2) _ _ e) (by simp);obtain⟨y,u,d1,hk,Ff,Vu⟩:=hoc;rw[e3]at d1;cases d1;have yP:eY S ((own 0,(.ag (x1.set k .pt),.cl [(k,own 1)]))::(own 1,(y2,.pv))::ws)=cH (cH S1 (own 1) (y2,.pv)) (own 0) (.ag (x1.set k .pt),.cl [(k,own 1)]):=by{rw[<-PB];rfl};generalize Gq:cH (cH S1 (own 1) (y2,.pv)) (own 0) (.ag (x1.set k .pt),.cl [(k,own 1)])=S' at*;have s1:S' (own 0)=(.ag (x1.set k .pt),.cl [(k,own 1)]):=by{rw[<-Gq,bR]};have s2:S' (own 1)=(y2,.pv):=by{rw[<-Gq,cO _ _ (Ne.symm h01),bR]};have s4:∀q,q≠own 0->q≠own 1->S' q=S1 q:=λq e1 e2=>by{rw[<-Gq,cO _ _ e1,cO _ _ e2]};let τ':=ta (ta τ (own 0) (.pointer (Bm ⟨b,0,Kk⟩))) (own 1) u;have t1:τ' (own 0)=.pointer (Bm ⟨b,0,Kk⟩):=by{show ta _ _ _ _=_;rw[fN _ _ h01,fw]};have t2:τ' (own 1)=u:=fw _ _ _;have t3:∀q,q≠own 0->q≠own 1->τ' q=τ q:=λq e1 e2=>by{show ta _ _ _ _=_;rw[fN _ _ e2,fN _ _ e1]};have uQ:Core C.nt R' w' C.dz τ' S':=by{refine h'.core.step (λq=>q=own 0\/q=own 1) nV.dr (λq hq=>⟨s4 q (λe=>hq (.inl e)) (λe=>hq (.inr e)),t3 q (λe=>hq (.inl e)) (λe=>hq (.inr e))⟩) (λq g _ hb=>JX q g hb) ?_ ?_ ?_ ?_ ?_ ?_ (λ_=>id) ?_ Jl ?_;{rintro q (rfl|rfl);{rw[s1,t1];exact⟨b,zs,el,_,rfl,hb,rfl,hL.set λ_ _=>.pt _,λt ht=>by rw[List.mem_singleton]at ht;subst ht;rw[t2];exact hk,S5⟩};{rw[s2,t2];exact Ff}};{rintro q (rfl|rfl);{exact .inr (.inr F2)};{exact .inr (.inr Za)}};{rintro q (rfl|rfl)<;>right;{rw[s1];simp};{rw[s2];simp}};{rintro q (rfl|rfl)<;>left;{rw[s1,F2];exact⟨rfl,rfl⟩};{rw[s2,Za];exact⟨rfl,rfl⟩}};{rintro q (rfl|rfl) _;{exact .inr F2};{exact .inr Za}};{have b1:∀g,fP τ' S' (own 0)=Bm g->g=b:=λg hg=>by{have:=(ft hg).2;rw[t1]at this;cases this;rfl};have b2:∀g,fP τ' S' (own 1)=Bm g->Value.fP u=Bm g:=λg hg=>by{have:=(ft hg).2;rwa[t2]at this};rintro q g (rfl|rfl) hg;{have:=b1 g hg;subst this;refine⟨ZM _ Uv,?_,.inl Uv⟩;rintro q' (rfl|rfl) nc Px;{exact nc rfl};{exact(Vu _ (b2 _ Px)).1 rfl}};{obtain⟨v1,v2⟩:=Vu g (b2 g hg);refine⟨ZM _ v2,?_,.inl v2⟩;rintro q' (rfl|rfl) nc Px;{exact v1 (b1 _ Px)};{exact nc rfl}}};{rintro q (rfl|rfl) j hj;{rw[s1]at hj;simp only[Gh.cQ,bc,bt,List.mem_singleton]at hj;subst hj;exact⟨nl3,by rw[s2];simp⟩};{rw[s2]at hj;cases hj}};{rintro q (rfl|rfl) hq<;>omega}};obtain⟨r1,r2,r3⟩:=slot (τ':=τ') t1 j7 CO;refine MI hd (l:=(own 0,(.ag (x1.set k .pt),.cl [(k,own 1)]))::(own 1,(y2,.pv))::ws) ?_ rfl r1 r2 (λq hq=>?_) hK;{rw[yP];exact⟨h'.size,h'.defers,uQ,λt ht=>by rw[t3 t (by omega) (by omega)];exact h'.tmps t ht,⟨h'.io.1,λq hq=>by rw[t3 q (by omega) (by omega)];exact h'.io.2 q hq⟩,h'.ext.trans nV (λ_ h=>h.elim),h'.gl.dr nV.dr⟩};{simp only[r3,List.mem_singleton]at hq;subst hq;exact⟨Ui,by rw[yP,s1];simp⟩}}
 split at he;{rename_i outs hc;exact fin outs Kk (by rw[hc];rfl) he}
 ·rename_i p outs hc;have AU:p=Qf:=by
   have uP:=he;unfold Vj at uP;(split at uP<;>try(cases uP;done));all_goals
    obtain⟨_,uP⟩:=bG.1 uP
    cases uP
    exact hp _ rfl
  exact fin outs (Bm p) (by rw[hc];exact⟨AU,rfl⟩) he
 {cases he}
end
def JQ{e:gT}{st:eu}{l:List st.El}{lo hi:Option Int}(he:TE st l lo hi=Bm e)(hp:∀p,e.p=Bm p->p=Qf):iF (lo.getD 0) (hi.getD l.length) l.length=Qf/\e.x=(.sl st ((l.take (hi.getD l.length).toNat).drop (lo.getD 0).toNat),.no)/\e.ws=[]:=by unfold TE at he;split at he<;>cases he;{exact⟨hp _ rfl,rfl,rfl⟩};{exact⟨hp _ rfl,by simp,rfl⟩};{exact⟨hp _ rfl,by simp,rfl⟩};{exact⟨by simp[iF],by simp,rfl⟩}
def JO{e:gT}{l:bE}{lo hi:Option Int}(he:TD l lo hi=Bm e)(hp:∀p,e.p=Bm p->p=Qf):iF (lo.getD 0) (hi.getD l.length) l.length=Qf/\e.x=(.s ((l.take (hi.getD l.length).toNat).drop (lo.getD 0).toNat),.no)/\e.ws=[]:=by unfold TD at he;split at he<;>cases he;{exact⟨hp _ rfl,rfl,rfl⟩};{exact⟨hp _ rfl,by simp,rfl⟩};{exact⟨hp _ rfl,by simp,rfl⟩};{exact⟨by simp[iF],by simp,rfl⟩}
def GQ{l:List (Nat×Nat)}{m:Nat}(h:(l.all λt=>!Nat.beq t.2 m)=Qf)(t:Nat×Nat)(ht:t∈l):t.2≠m:=λe=>by have:=aI.1 h t ht;rw[e]at this;simp at this
def CF{l:List (Nat×Cell)}{m:Nat}(h:(l.all λt=>!Nat.beq t.1 m)=Qf)(t:Nat×Cell)(ht:t∈l):t.1≠m:=λe=>by have:=aI.1 h t ht;rw[e]at this;simp at this
def Ep{V:St}{c:Cell}{x:TV}{ws:List (Nat×Cell)}(h:HV V c=Bm (x,ws))(p:Nat×Cell)(hp:p∈ws):p.1∈c.2.cQ:=by unfold HV at h;split at h;{split at h;{cases h;simp only[List.mem_singleton]at hp;subst hp;simp[Gh.cQ]};{cases h;cases hp};{obtain⟨_,h⟩:=bG.1 h;cases h;cases hp};{cases h}};{cases h;cases hp};{cases h}
theorem tS{V:St}{o n:Nat}:∀{ts:List (Nat×Nat)}{cs ds:List TV}{ws:List (Nat×Cell)},pH V o n ts cs=Bm (ds,ws)->∀p∈ws,p.1∈ts.map (·.2)
 |[],_,_,_,h,p,hp=>by cases h;cases hp
 |(c,k)::ts,cs,ds,ws,h,p,hp=>by
  simp only[pH]at h;split at h
  ·rename_i Cz Fa h1;cases hb:(Nat.ble o c&&Nat.blt c (o+n))with
   |true=>rw[hb,aj]at h;split at h;{rename_i h2;cases h;rcases List.mem_append.1 hp with hp|hp;{have:=Ep h2 p hp;simp[Gh.cQ]at this;exact this▸List.mem_cons_self ..};{exact List.mem_cons_of_mem _ (tS h1 p hp)}};{cases h}
   |false=>rw[hb,ae]at h;cases h;exact List.mem_cons_of_mem _ (tS h1 p hp)
  {cases h}
def Mk{V:St}{c:Cell}{x:TV}{ws:List (Nat×Cell)}(h:Cl V c=Bm (x,ws))(p:Nat×Cell)(hp:p∈ws):p.1∈c.2.cQ:=by unfold Cl at h;split at h;{split at h;{rename_i hf;cases h;exact tS hf p hp};{cases h}};{exact Ep h p hp}
def IU{E:cz}{nt:Nat}{V V':St}{t:TypeId}{x:Operand}(h:∀i,i<nt->V' i=V i):gU E nt V' t x=gU E nt V t x:=by
 (cases x<;>try rfl);rename_i i;unfold gU;by_cases hi:i<nt;{simp only[h i hi]}
 ·have:Nat.blt i nt=Qg:=by
   cases hb:Nat.blt i nt with
   |false=>rfl
   |true=>exact absurd (Nat.le_of_ble_eq_true hb) hi
  simp only[this,dK,ae]
theorem Lt.eY{V S:St}(h:Lt V S):∀ws:List (Nat×Cell),Lt (eY V ws) (eY S ws)
 |[]=>h
 |(k,x)::ws=>λj=>by by_cases e:j=k;{subst e;simp only[Go.Eng.eY,bR];exact .inl trivial};{simp only[Go.Eng.eY,cO _ _ e];exact h.eY ws j}
section
variable{C:Ctx}{S V:St}{a:Act}{w:World}{R:Reach}{τ:Nat->Value}{o:Oper}{d:Nat}{own:Nat->Nat}{e:gT}(h:eI C S a w R τ)(hV:Lt V S)(hE:ku C.P C.E)(hp:∀p,e.p=Bm p->p=Qf)
include h hV hE hp
section
variable(hd:o.dst=Bm d)(hl:d<C.nt)
include hd hl
omit hE in
theorem MW{s t:TypeId}{x:Operand}{c:Cell}{y:TV}(ho:o.op=.convert s t x)(hx:gU C.E C.nt V s x=Bm c)(hy:zE V c=Bm y)(he:MY C.P C.nt own V s t y=Bm e):eW C o a w (iU S (Bm d) e):=by unfold MY at he;split at he;{rename_i hs ht;split at he<;>cases he;exact go_ci h hV hd hl ho hx hy (by assumption) hs ht};{rename_i hs ht;split at he<;>cases he;exact go_cf h hV hd hl ho hx hy (by rw[hs];rfl) ht};{rename_i hs ht;split at he<;>cases he;exact go_fc h hV hd hl ho hx hy (hp _ rfl) (by rw[hs];rfl) ht};{rename_i hs ht;split at he<;>cases he;exact go_cs h hV hd hl ho hx hy hs ht};{rename_i hs ht;split at he;{rename_i hu;obtain⟨h1,h2⟩:=bG.1 he;cases h2;exact go_sb h hd hl hV ho hx hy hs ht hu (hp _ rfl) (ib hV.q h1)};{cases he}};{rename_i hs ht;split at he<;>cases he;exact go_bs h hV hd hl ho hx hy hs (by assumption) ht};{cases he}
omit hE in
theorem MU{s t:TypeId}{x:Operand}{c:Cell}(ho:o.op=.convert s t x)(hx:gU C.E C.nt V s x=Bm c)(he:MV C.P V s t c=Bm e):eW C o a w (iU S (Bm d) e):=by unfold MV at he;split at he;{split at he;{rename_i hk hs;split at he;{rename_i hu;obtain⟨h1,h2⟩:=bG.1 he;cases h2;have:=az h1;subst this;refine go_cc h hd hl hV ho hx hk hs hu λhn=>?_;have:=hp _ rfl;rw[hn]at this;cases this};{cases he}};{cases he}};{cases he}
theorem Ig{t u:TypeId}{x y:Operand}{st st':eu}{sK:Nat}{c:Cell}{m:List st'.El}{du:TypeDesc}{news:List Value}(ho:o.op=.call {callee:=.builtin .append,args:=#[x,y],argTypes:=#[t,u]})(ht:C.E.ty t=Bm (st,sK))(hx:gU C.E C.nt V t x=Bm c)(hu:C.P.underlying u=Bm du)(Ca:∀k,du≠.int k)(yO:Source C.P w st'.size (a.eval y) m.length news)(hL:dn R w ((m.map st'.tv).flatMap TV.cells) news)(he:P9 C.E C.nt own V st sK c st' m=Bm e):eW C o a w (iU S (Bm d) e):=by unfold P9 at he;split at he;{rename_i k;obtain⟨q1,_,q3⟩:=gR h hV hx;have hv:a.eval x=τ k:=q1.1;have NK:C.nt<=k:=(q3 k (by simp[Gh.cQ])).1;split at he;{rename_i t' l hk;split at he;{obtain⟨h0,hq⟩:=bG.1 he;clear he;obtain rfl:=ao h0;unfold Hx at hq;split at hq;{rename_i n hn;obtain⟨h1,h2⟩:=bG.1 hq;cases h2;obtain⟨e1,rfl⟩:=eu.CE hn;subst e1;exact go_lend h hV hd hl hE ho ht hv NK (hV.of hk) hu Ca yO hL (hp _ rfl) (ib hV.q h1)};{cases hq}};split at he;{rename_i n hn;obtain⟨h1,h2⟩:=bG.1 he;cases h2;simp only[ah,aC]at h1;obtain⟨rfl,h1⟩:=h1;obtain⟨e1,rfl⟩:=eu.CE hn;subst e1;exact go_app h hV hd hl hE ho ht hx (hV.of hk) hu Ca yO hL (hp _ rfl) (ib hV.q h1) (.inl ⟨rfl,rfl,rfl⟩)};{cases he}};{rename_i t' l d0 hk;obtain⟨h0,hq⟩:=bG.1 he;clear he;obtain rfl:=ao h0;unfold Hx at hq;split at hq;{rename_i n hn;obtain⟨h1,h2⟩:=bG.1 hq;cases h2;obtain⟨e1,rfl⟩:=eu.CE hn;subst e1;have hk:=hV.of hk;obtain⟨p1,_⟩:=h.core.par k d0 (by rw[hk]);obtain⟨n1,n2,n3⟩:=ib hV.q h1;have c1:own 0≠k:=by{intro e;rw[e,hk]at n1;cases n1};have c2:own 0≠d0:=by{intro e;rw[e,p1]at n1;cases n1};have c3:k≠d0:=by{rintro rfl;rw[hk]at p1;cases p1};have hr:=h.recover hk;have:=go_lend hr (Lt.refl _) hd hl hE ho ht hv NK (by rw[cO _ _ c3,bR]) hu Ca yO hL (hp _ rfl) (k2:=own 0) ⟨by rw[cO _ _ c2,cO _ _ c1];exact n1,n2,n3⟩;have e2:cH (cH (cH (cH S k (.sl st' l,.pv)) d0 (.dead,.zz)) k (.sl st' l,.pw (own 0))) (own 0) (.sl st' (l++m),.pc k)=cH (cH (cH S d0 (.dead,.zz)) k (.sl st' l,.pw (own 0))) (own 0) (.sl st' (l++m),.pc k):=by{funext j;by_cases j1:j=own 0;{rw[j1,bR,bR]};{rw[cO _ _ j1,cO _ _ j1];by_cases j2:j=k;{rw[j2,bR,bR]};{rw[cO _ _ j2,cO _ _ j2];by_cases j3:j=d0;{rw[j3,bR,bR]};{rw[cO _ _ j3,cO _ _ j3,cO _ _ j2]}}}};rw[e2]at this;exact this};{cases hq}};{rename_i t' l hk;split at he;{rename_i n hn;obtain⟨h1,h2⟩:=bG.1 he;cases h2;simp only[ah,aC]at h1;obtain⟨rfl,h1⟩:=h1;obtain⟨e1,rfl⟩:=eu.CE hn;subst e1;exact go_app h hV hd hl hE ho ht hx (hV.of hk) hu Ca yO hL (hp _ rfl) (ib hV.q h1) (.inr ⟨rfl,rfl,rfl⟩)};{cases he}};{cases he}};{rename_i t';obtain⟨h1,h2⟩:=bG.1 he;simp only[ah,aC]at h1;obtain⟨rfl,rfl⟩:=h1;obtain⟨h1,h2⟩:=bG.1 h2;cases h2;exact go_apn h hV hd hl hE ho ht hx hu Ca yO hL (hp _ rfl) (ib hV.q h1)};{cases he}
theorem EV{b:Builtin}{ts:Array TypeId}{args:Array Operand}(ho:o.op=.call {callee:=.builtin b,args:=args,argTypes:=ts})(he:zm C.P C.E C.nt own V b ts.toList args.toList=Bm e):eW C o a w (iU S (Bm d) e):=by obtain⟨ts⟩:=ts;obtain⟨args⟩:=args;simp only at he;unfold zm at he;split at he;{split at he<;>cases he;{exact go_len h hV hd hl ho (by assumption) (by assumption)};{exact go_lens h hV hd hl ho (by assumption) (by assumption)}};{split at he;{rename_i hm;obtain⟨news,h1,h2⟩:=Source.of (P:=C.P) (yd h hV hm);exact Ig h hV hE hp hd hl ho (by assumption) (by assumption) (by assumption) (by simp) h1 h2 he};{rename_i hm;obtain⟨h1,h2⟩:=Source.R5 (P:=C.P) (w:=w) (R:=R) _;have e1:=K3 h hV hm;rw[<-e1]at h1;exact Ig h hV hE hp hd hl (st':=.bs) ho (by assumption) (by assumption) (by assumption) (by simp) h1 h2 he};{cases he}};{split at he;{obtain⟨h1,h2⟩:=bG.1 he;cases h2;have h1:=ao h1;subst h1;exact go_minmax h hV hd hl (mx:=Qg) ho (by assumption) (by assumption)};{cases he}};{split at he;{obtain⟨h1,h2⟩:=bG.1 he;cases h2;have h1:=ao h1;subst h1;exact go_minmax h hV hd hl (mx:=Qf) ho (by assumption) (by assumption)};{cases he}};{split at he<;>cases he;exact go_real h hV hd hl (im:=Qg) ho (by assumption)};{split at he<;>cases he;exact go_real h hV hd hl (im:=Qf) ho (by assumption)};{split at he<;>cases he;exact go_cx h hV hd hl ho (by assumption) (by assumption)};{cases he}
theorem Sp{t:TypeId}{x i:Operand}{c:Cell}{n:Int}(ho:o.op=.indexAddr t x i)(hx:gU C.E C.nt V t x=Bm c)(hi:tP C.E C.nt V i=Bm n)(he:Zi C.P C.E V t c n=Bm e):eW C o a w (iU S (Bm d) e):=by have dB:∀{k:Nat},c=(.pt,.dB k)->a.eval x=τ k:=by{rintro k rfl;exact(gR h hV hx).1.1};unfold Zi at he;split at he;{rename_i k _;split at he;{rename_i hk;obtain⟨h1,h2⟩:=bG.1 he;cases h2;exact go_pix h hV hd hl hE ho h1 hx (hV.of hk) hi (hp _ rfl)};{rename_i hk;obtain⟨h1,h2⟩:=bG.1 he;cases h2;have hK:=h.core.key k;rw[hV.of hk]at hK;exact go_ix h hV hd hl hE ho h1 (by rw[dB rfl];exact(fi.rep hK).1) hi (hp _ rfl)};{rename_i hk;obtain⟨h1,h2⟩:=bG.1 he;cases h2;have hK:=h.core.key k;rw[hV.of hk]at hK;exact go_ix h hV hd hl hE ho h1 (by rw[dB rfl];exact hK) hi (hp _ rfl)};{cases he}};{obtain⟨h1,h2⟩:=bG.1 he;cases h2;exact go_ix h hV hd hl hE ho h1 (fe h hV hx) hi (hp _ rfl)};{split at he;{rename_i hk;rw[aQ]at he;obtain⟨inf,h1,h2⟩:=he;cases h2;exact go_la h hV hd hl ho (by assumption) h1 hx (hV.of hk) hi (hp _ rfl)};{cases he}};{cases he}
theorem PS{t:TypeId}{x:Operand}{lo hi:Option Operand}{p q:Option Int}{c:Cell}(ho:o.op=.slice t x lo hi Kk)(hx:gU C.E C.nt V t x=Bm c)(h1:pF C.E C.nt V lo=Bm p)(h2:pF C.E C.nt V hi=Bm q)(he:MS C.E V t c p q=Bm e):eW C o a w (iU S (Bm d) e):=by unfold MS at he;split at he;{rename_i hf;obtain⟨k1,k2⟩:=bG.1 he;rw[aO]at k2;obtain⟨e',k2,rfl⟩:=k2;obtain⟨c1,c2,c3⟩:=JQ (e:=e') k2 hp;unfold iU;simp only[c2];exact go_sc h hV hd hl hE ho k1 hx hf h1 h2 c1};{cases he}
omit hE in
theorem Lx{t:TypeId}{x:Operand}{c:Cell}(ho:o.op=.load t x)(hx:gU C.E C.nt V 0 x=Bm c)(he:Ly C.P C.E own V t c=Bm e):eW C o a w (iU S (Bm d) e):=by unfold Ly at he;split at he;{rename_i n agg hs;obtain⟨h1,uP⟩:=bG.1 he;clear he;have he:=uP;clear uP;have h1:agg=Qf\/n=1:=by{rcases Bool.or_eq_true _ _▸h1 with h|h;{exact .inl h};{exact .inr (az h)}};split at he;{split at he;{rename_i hm;split at he;{rename_i hf;cases he;have:n=1:=by{simpa using h1};subst this;exact go_ldt h hV hd hl ho hs hx (hV.of hm) (by assumption)};{split at he;{obtain⟨k1,k2⟩:=bG.1 he;cases k2;simp only[ah]at k1;obtain⟨⟨rfl,k1⟩,k2⟩:=k1;have k1:=az k1;have k2:=az k2;subst k1 k2;exact go_ldo h hV hd hl ho hs hx (hV.of hm)};{split at he;{split at he<;>cases he;exact go_ld h hV hd hl ho hs h1 hx (hV.of hm) (by assumption) (by assumption)};{cases he}}}};{cases he}};{rename_i k;split at he;{rename_i st l g hk;split at he;{rename_i hpt;obtain⟨k1,k2⟩:=bG.1 he;cases k2;simp only[ah,Bool.or_eq_true,aC]at k1;obtain⟨k1,k2⟩:=k1;have gS:=ao (hp _ rfl);have hK:=h.core.key k;rw[hV.of hk (by rcases k1 with rfl|rfl<;>simp)]at hK;obtain⟨p,hK⟩:∃p,fi R w p (τ k) (.sl st l):=by{rcases k1 with rfl|rfl<;>exact⟨_,hK⟩};exact go_pld h hV hd hl ho hs h1 hx hK (az k2) gS hpt};{cases he}};{rename_i cs hk;split at he;{obtain⟨k1,k2⟩:=bG.1 he;cases k2;simp only[ah,Bool.not_eq_true']at k1;obtain⟨⟨⟨k1,k2⟩,k3⟩,rfl⟩:=k1;have k1:=az k1;have k2:=az k2;have k3:=az k3;subst k1 k2 k3;exact go_pla h hV hd hl ho hs hx (hV.of hk) (ao (hp _ rfl)) (by assumption)};{cases he}};{cases he}};{obtain⟨k1,k2⟩:=bG.1 he;cases k2;simp only[ah,beq_iff_eq]at k1;exact go_lr h hV hd hl ho hs h1 hx k1.1.2 (az k1.2)};{cases he}};{cases he}
end
omit hE in
theorem Ix(hd:o.dst=Kk){t:TypeId}{x y:Operand}{c v:Cell}(ho:o.op=.store t x y)(hx:gU C.E C.nt V 0 x=Bm c)(hy:gU C.E C.nt V t y=Bm v)(he:FE C.P V t c v=Bm e):eW C o a w (iU S Kk e):=by unfold FE at he;split at he;{rename_i n agg hs;obtain⟨inf,hi,rfl,_⟩:=ig hs;split at he;{split at he;{rename_i cs ts hm;split at he;{rename_i k;obtain⟨k1,k2⟩:=bG.1 he;cases k2;simp only[ah,Bool.not_eq_true']at k1;have hn:=az k1.1.1;have Jq:=hV.of hm;rw[hn];exact go_stt h hV hd ho hi hn hx Jq hy (Nat.le_of_ble_eq_true k1.1.2) (Nat.ne_of_beq_eq_false k1.2.1) (GQ k1.2.2)};{obtain⟨k1,k2⟩:=bG.1 he;cases k2;simp only[ah]at k1;obtain⟨⟨⟨k1,k2⟩,k3⟩,k4⟩:=k1;have k1:=az k1;subst k1;exact go_sto h hV hd ho hi hx (hV.of hm) hy (az k2) (az k3) (GQ k4)};{obtain⟨k1,k2⟩:=bG.1 he;cases k2;simp only[ah]at k1;have Jq:=hV.of hm;have hr:=fe h hV hy;have hn:=az k1.1.1.2;refine go_st' h hV hd ho hi hx Jq (ox hr k1.1.1.1) hn (Nat.le_of_ble_eq_true k1.1.2) λu hu=>?_;obtain⟨h1,h2⟩:=Am hu;exact⟨GQ k1.2 u h1,.inl ⟨h1,h2⟩⟩};{cases he}};{cases he}};{rename_i i s q k;split at he;{rename_i y' ws hf;obtain⟨R',h',e1,_⟩:=h.fr hV hy hf;have NJ:∀p∈ws,C.nt<=p.1:=λp hp=>((gR h hV hy).2.2 _ (Mk hf p hp)).1;have Xm:Lt (eY V ws) (eY S ws):=hV.eY ws;have B5:gU C.E C.nt (eY V ws) 0 x=Bm (.el i s q,.pe k):=by{rw[<-hx];exact IU λi hi=>ix λp hp e=>by have:=NJ p hp;omega};split at he;{rename_i st l hk;split at he;{split at he;{obtain⟨k1,k2⟩:=bG.1 he;cases k2;simp only[ah]at k1;exact go_pst h' Xm hd ho hi B5 (by rw[ix (CF k1.2)];exact hV.of hk) e1 k1.1.1.1 (az k1.1.2) (az k1.1.1.2) (ao (hp _ rfl)) (by assumption) (by assumption)};{cases he}};{cases he}};{rename_i cs hk;split at he;{obtain⟨k1,k2⟩:=bG.1 he;cases k2;simp only[ah]at k1;have k2:=az k1.1.1.1;have k3:=az k1.1.1.2;subst k2 k3;exact go_ls h' Xm hd ho hi (az k1.1.2) B5 (by rw[ix (CF k1.2)];exact hV.of hk) (ao (hp _ rfl)) e1 (by assumption)};{cases he}};{cases he}};{cases he}};{cases he}};{cases he}
theorem Dc(hF:∀f,fX C.P C.gl f (C.E.fs f))(wW:0<C.nt->∀j j',own j=own j'->j=j')(mQ:wO C.nt o=Qf)(he:Dd C.P C.E C.nt own V o.type o.op=Bm e):eW C o a w (iU S o.dst e):=by
 have qm:(∀t x y,o.op≠.store t x y)->(∀x args ts,o.op≠.call {callee:=.value x,args:=args,argTypes:=ts})->∃d,o.dst=Bm d/\d<C.nt:=λh1 h2=>by{unfold wO at mQ;split at mQ;{exact(h1 _ _ _ (by assumption)).elim};{cases mQ};{exact(h2 _ _ _ (by assumption)).elim};{exact⟨_,by assumption,Nat.le_of_ble_eq_true mQ⟩};{cases mQ}};have MH:∀{x:Operand}{args:Array Operand}{ts:Array TypeId},o.op=.call {callee:=.value x,args:=args,argTypes:=ts}->o.dst=Kk\/∃d,o.dst=Bm d/\d<C.nt:=λ{x args ts}h1=>by
  cases hd:o.dst with
  |none=>exact .inl rfl
  |some d=>right;unfold wO at mQ;rw[h1,hd]at mQ;exact⟨d,rfl,Nat.le_of_ble_eq_true mQ⟩
 have call:∀{f:Nat}{x:Operand}{args:Array Operand}{ts:Array TypeId},o.op=.call {callee:=.value x,args:=args,argTypes:=ts}->a.eval x=.func (.func f) #[] #[]->H9 C.E C.nt own V f ts.toList args.toList=Bm e->eW C o a w (iU S o.dst e):=λ{f x args ts}ho hx he=>by{unfold H9 at he;have hS:=hF f;unfold fX at hS;split at he;{rename_i cs sV;split at he;{rename_i hk;rw[hk]at hS;split at he;{rename_i xs ws QF;split at he;{rename_i outs hc;exact abW h hV (MH ho) (c:=(C.E.fs f).1) (sg:=(C.E.fs f).2) hS ho hx sV QF (by rw[hc];rfl) wW he};{rename_i p outs hc;have AU:p=Qf:=by{have uP:=he;unfold ES at uP;obtain⟨_,uP⟩:=bG.1 uP;split at uP;{obtain⟨_,uP⟩:=bG.1 uP;cases uP;exact hp _ rfl};{cases uP}};exact abW h hV (MH ho) (c:=(C.E.fs f).1) (sg:=(C.E.fs f).2) hS ho hx sV QF (by rw[hc];exact⟨AU,rfl⟩) wW he};{cases he}};{cases he}};{rename_i hk;rw[hk]at hS;exact go_wr h hV (MH ho) hS ho hx sV hp he};{rename_i hk;rw[hk]at hS;exact go_nw h hV (MH ho) hS ho hx wW sV hp he}};{cases he}};generalize jJ:o.op=op at he;unfold Dd at he;split at he;{obtain⟨d,hd,hl⟩:=qm (by simp[jJ]) (by simp[jJ]);rw[aO]at he;obtain⟨c,h1,rfl⟩:=he;rw[hd];exact go_move h hV hd hl (.inl jJ) h1};{obtain⟨d,hd,hl⟩:=qm (by simp[jJ]) (by simp[jJ]);rw[aO]at he;obtain⟨c,h1,rfl⟩:=he;rw[hd];exact go_move h hV hd hl (.inr jJ) h1};{obtain⟨d,hd,hl⟩:=qm (by simp[jJ]) (by simp[jJ]);split at he;{obtain⟨z,h1,h2,h3⟩:=qw.GF he hp;rw[uV hd h2 h3];exact go_pick h hV hd hl jJ (by assumption) (by assumption) (by assumption) h1};{cases he}};{obtain⟨d,hd,hl⟩:=qm (by simp[jJ]) (by simp[jJ]);split at he;{split at he;{split at he;{cases he;rw[hd];exact go_nl h hV hd hl jJ (by assumption) (by assumption) (by assumption) (by assumption)};{cases he}};{split at he<;>cases he<;>rw[hd];{exact go_be h hV hd hl (neg:=Qg) jJ rfl (by assumption) (by assumption) (by assumption)};{exact go_be h hV hd hl (neg:=Qf) jJ rfl (by assumption) (by assumption) (by assumption)}};{split at he;{obtain⟨r,hr,he⟩:=aQ.1 he;cases he;rw[hd];exact go_es h hV hd hl Qg jJ rfl (by assumption) (by assumption) (by assumption) hr};{obtain⟨r,hr,he⟩:=aQ.1 he;cases he;rw[hd];exact go_es h hV hd hl Qf jJ rfl (by assumption) (by assumption) (by assumption) hr};{cases he}};{split at he<;>cases he<;>rw[hd];{exact go_pn h hV hd hl (neg:=Qg) jJ rfl (by assumption) (by assumption) (by assumption)};{exact go_pn h hV hd hl (neg:=Qf) jJ rfl (by assumption) (by assumption) (by assumption)}};{split at he;{obtain⟨z,h1,h2,h3⟩:=qw.GF he hp;rw[uV hd h2 h3];exact go_bin h hV hd hl jJ (by assumption) (by assumption) h1};{cases he}}};{cases he}};{obtain⟨d,hd,hl⟩:=qm (by simp[jJ]) (by simp[jJ]);split at he;{obtain⟨z,h1,h2,h3⟩:=qw.GF he hp;rw[uV hd h2 h3];exact go_un h hV hd hl jJ (by assumption) h1};{cases he}};{obtain⟨d,hd,hl⟩:=qm (by simp[jJ]) (by simp[jJ]);split at he;{split at he;{cases he;rw[hd];exact MU h hV hp hd hl jJ (by assumption) (by assumption)};{split at he;{rw[hd];exact MW h hV hp hd hl jJ (by assumption) (by assumption) he};{cases he}}};{cases he}};{obtain⟨d,hd,hl⟩:=qm (by simp[jJ]) (by simp[jJ]);rw[hd];exact EV h hV hE hp hd hl jJ he}
 ·rename_i f _ _;cases hb:HR C.P f with
  |true=>rw[hb]at he;exact call jJ rfl he
  |false=>rw[hb]at he;exact go_xtn h hV (MH jJ) hp jJ he
 {split at he;{rename_i hx;exact call jJ ((fe h hV hx).cq rfl) he};{cases he}};{obtain⟨d,hd,hl⟩:=qm (by simp[jJ]) (by simp[jJ]);split at he;{rw[hd];exact Sp h hV hE hp hd hl jJ (by assumption) (by assumption) he};{cases he}};{obtain⟨d,hd,hl⟩:=qm (by simp[jJ]) (by simp[jJ]);split at he;{split at he;{cases he;rw[hd];exact go_si h hV hd hl jJ (by assumption) (by assumption) (hp _ rfl) (by assumption)};{cases he}};{rename_i hi;split at he;{split at he;{rename_i hs;split at he;{rename_i hx;obtain⟨k1,k2⟩:=bG.1 he;cases k2;rw[hd];have hn:=hp _ rfl;have Ee:=hn;simp only[bH,ah,aC]at Ee;have hm:=az k1;exact go_ai h hV hd hl jJ (by assumption) hi (by assumption) hs (.inr rfl) hn (by rw[Nat.mul_one];exact CD hx (by omega))};{cases he}};{rename_i hs;split at he;{rename_i hx;obtain⟨k1,k2⟩:=bG.1 he;cases k2;rw[hd];have hn:=hp _ rfl;have Ee:=hn;simp only[bH,ah,aC]at Ee;have hm:=az k1;refine go_ai h hV hd hl jJ (by assumption) hi (by assumption) hs (.inl rfl) hn ?_;have hx:=EK hm (by omega) _ (Nat.le_refl _) hx;rw[Nat.sub_self,Nat.add_zero]at hx;have hb:∀{x y:Nat},x<=y->Nat.ble x y=Qf:=Nat.ble_eq_true_of_le;simp only[py];rw[hb (by rw[<-hm,<-Nat.succ_mul];exact aA _ (by omega)),aj,hx]};{cases he}};{cases he}};{cases he}};{cases he}};{obtain⟨d,hd,hl⟩:=qm (by simp[jJ]) (by simp[jJ]);split at he;{split at he;{rename_i agg hs;split at he;{obtain⟨k1,k2⟩:=bG.1 he;cases k2;rw[hd];refine go_fe h hV hd hl jJ (by assumption) (by assumption) hs (by assumption) ?_;rcases Bool.or_eq_true _ _▸k1 with h|h;{exact .inl h};{exact .inr (az h)}};{cases he}};{cases he}};{cases he}};{obtain⟨d,hd,hl⟩:=qm (by simp[jJ]) (by simp[jJ]);split at he;{split at he;{rename_i hs;obtain⟨k1,k2⟩:=bG.1 he;clear he;have k1:=Nat.le_of_ble_eq_true k1;rw[hd];split at k2;{cases k2;exact go_fa h hV hd hl jJ (by assumption) hs k1 (by assumption)};{cases k2;exact go_pfa h hV hd hl jJ (by assumption) hs k1 (by assumption)};{split at k2<;>cases k2;exact go_fr h hV hd hl jJ (by assumption) hs k1 (by assumption) (by assumption)};{cases k2}};{cases he}};{cases he}};{obtain⟨d,hd,hl⟩:=qm (by simp[jJ]) (by simp[jJ]);split at he<;>cases he<;>rw[hd];{exact go_nc h hV hd hl jJ (by assumption)};{exact go_ncr h hV hd hl jJ (by assumption)}};{obtain⟨d,hd,hl⟩:=qm (by simp[jJ]) (by simp[jJ]);split at he;{rw[aQ]at he;obtain⟨y,h1,h2⟩:=he;cases h2;rw[hd];exact go_ex h hV hd hl (l:=[]) jJ (.inl (by assumption)) h1};{split at he;{rename_i k _;split at he;{rename_i hk;cases he;rw[hd];have hK:=h.core.key k;rw[hV.of hk]at hK;exact go_ext h hV hd hl jJ (by assumption) (by assumption) (fi.one hK)};{cases he;rw[hd];exact go_exv h hV hd hl jJ (by assumption) (by assumption) (by assumption)};{cases he}};{rw[aQ]at he;obtain⟨y,h1,h2⟩:=he;cases h2;rw[hd];exact go_ex h hV hd hl jJ (.inr (by assumption)) h1}};{cases he}};{obtain⟨d,hd,hl⟩:=qm (by simp[jJ]) (by simp[jJ]);split at he;{rw[hd];exact Lx h hV hp hd hl jJ (by assumption) he};{cases he}}
 ·have hd:o.dst=Kk:=by
   unfold wO at mQ;rw[jJ]at mQ;cases hd:o.dst with
   |none=>rfl
   |some d=>rw[hd]at mQ;cases mQ
  split at he;{rw[hd];exact Ix h hV hp hd jJ (by assumption) (by assumption) he};{cases he}
 {obtain⟨d,hd,hl⟩:=qm (by simp[jJ]) (by simp[jJ]);split at he;{obtain⟨c1,c2,c3⟩:=JO he hp;rw[uV hd c2 c3];exact go_ss h hV hd hl jJ (by assumption) (by assumption) (by assumption) (by assumption) c1};{rename_i c lo hi ht hx h1 h2;have cx:MS C.E V _ c lo hi=Bm e->eW C o a w (iU S o.dst e):=λhe=>by{rw[hd];exact PS h hV hE hp hd hl jJ hx h1 h2 he};split at he;{rename_i k n;split at he;{rename_i hk;obtain⟨k1,k2⟩:=bG.1 he;cases k2;simp only[ah]at k1;rw[hd];obtain⟨rfl,_⟩:_=Kk/\True:=by{rcases yK h hV h1 with⟨e1,_⟩|⟨_,_,_,_,e1,_⟩;{exact⟨e1,trivial⟩};{cases e1}};obtain⟨y,rfl⟩:∃y,_=Bm y:=by{rcases yK h hV h2 with⟨_,e1⟩|⟨y,_,_,e1,_⟩;{cases e1};{exact⟨y,e1⟩}};exact go_psl h hV hd hl hE jJ k1.1 hx (hV.of hk) h2 (hp _ rfl) (ib hV.q k1.2)};{exact cx he}};{exact cx he}};{cases he}};{obtain⟨d,hd,hl⟩:=qm (by simp[jJ]) (by simp[jJ]);split at he;{split at he;{split at he;{split at he;{obtain⟨k1,k2⟩:=bG.1 he;simp only[ah,aC]at k1;obtain⟨k4,k3⟩:=bG.1 k2;cases k3;rw[hd];exact go_bl h hV hd hl hE jJ (by assumption) (by assumption) (by assumption) (by assumption) (az k1.1.1) (Nat.le_of_ble_eq_true k1.1.2) k1.2 k4};{cases he}};{cases he}};{cases he}};{cases he}};{obtain⟨d,hd,hl⟩:=qm (by simp[jJ]) (by simp[jJ]);split at he;{split at he;{split at he;{split at he;{split at he;{obtain⟨k1,k2⟩:=bG.1 he;simp only[ah,aI,Bool.not_eq_true']at k1;cases k2;rw[hd];exact go_bo h hV hd hl hE jJ (by assumption) (by assumption) (by assumption) (by assumption) (by assumption) (by assumption) (by assumption) (az k1.2.1) (λp hp e=>by have:=k1.2.2 p hp;rw[e,Nat.beq_refl]at this;cases this) (aI.2 k1.1)};{cases he}};{cases he}};{split at he;{split at he;{obtain⟨k1,k2⟩:=bG.1 he;cases k2;rw[hd];exact go_bd h hV hd hl hE jJ (by assumption) (by assumption) (by assumption) (by assumption) (by assumption) k1};{cases he}};{cases he}}};{cases he}};{cases he}};{obtain⟨d,hd,hl⟩:=qm (by simp[jJ]) (by simp[jJ]);rw[aQ]at he;obtain⟨z,h1,h2⟩:=he;obtain⟨k1,k2⟩:=bG.1 h2;cases k2;rw[hd];exact go_al h hd hl hE jJ h1 (ib hV.q k1)};{obtain⟨d,hd,hl⟩:=qm (by simp[jJ]) (by simp[jJ]);split at he;{obtain⟨k1,k2⟩:=bG.1 he;cases k2;simp only[ah]at k1;rw[hd];exact go_bx h hd hl hV jJ (by assumption) k1.1 (ib hV.q k1.2)};{cases he}};{obtain⟨d,hd,hl⟩:=qm (by simp[jJ]) (by simp[jJ]);split at he;{obtain⟨k1,k2⟩:=bG.1 he;cases k2;rw[hd];exact go_mk h hd hl hE hV jJ (by assumption) (by assumption) (by assumption) (hp _ rfl) (ib hV.q k1)};{cases he}};{cases he}
end
def wh{l:List TV}(h:wZ l=Kk):∀x∈l,x.M1=Kk:=by
 induction l with
 |nil=>simp
 |cons x l ih=>simp only[wZ]at h;split at h;{rename_i h1;intro y hy;rcases aS.1 hy with rfl|hy;{exact h1};{exact ih h y hy}};{cases h};{cases h}
def Bd{l:List TV}(h:wZ l=Bm Qf):∀x∈l,∀q,x.M1=Bm q->q=Qf:=by
 induction l with
 |nil=>simp
 |cons x l ih=>simp only[wZ]at h;split at h;{rename_i h1;intro y hy q hq;rcases aS.1 hy with rfl|hy;{rw[h1]at hq;cases hq};{exact ih h y hy q hq}};{rename_i p h1 h2;cases h;intro y hy q hq;rcases aS.1 hy with rfl|hy;{rw[h1]at hq;cases hq;rfl};{rw[wh h2 y hy]at hq;cases hq}};{rename_i p q' h1 h2;have h:=Option.some.inj h;rw[ah]at h;obtain⟨rfl,rfl⟩:=h;intro y hy q hq;rcases aS.1 hy with rfl|hy;{rw[h1]at hq;cases hq;rfl};{exact ih h2 y hy q hq}}
section
variable{C:Ctx}{S V:St}{a:Act}{w:World}{R:Reach}{τ:Nat->Value}{o:Oper}{d:Nat}{e:gT}{K:Act->World->Prop}{Q:Exit->Act->World->Prop}
theorem G7{x:TV}{g:Gh}{v:Value}(hx:x.LQ=Qg):dP R w τ (.gd Qf x) g v↔dP R w τ x g v:=by cases x<;>first|(cases hx;done)|exact Iff.rfl
theorem Core.G6{nt:Nat}{dz:Nat->Prop}{S S':St}(h:Core nt R w dz τ S)(h1:∀k,nt<=k->S' k=S k)(h2:∀k,k<nt->(S' k).2=(S k).2)(h3:∀k,k<nt->dP R w τ (S k).1 (S k).2 (τ k)->dP R w τ (S' k).1 (S' k).2 (τ k)):Core nt R w dz τ S':=by have hg:∀k,(S' k).2=(S k).2:=λk=>by{rcases Nat.lt_or_ge k nt with hk|hk;{exact h2 k hk};{rw[h1 k hk]}};have hb:∀k,fP τ S' k=fP τ S k:=λk=>by{unfold fP;rw[hg]};refine⟨λk=>?_,λk k' g a b=>?_,λk g a=>?_,λj k hk=>?_,h.th,λk hk=>by rw[hg];exact h.slt k hk,λk d hk=>?_⟩;{rcases Nat.lt_or_ge k nt with hk|hk;{have hs:=h.slt k hk;have hK:=h.key k;rw[kt.slot hs]at hK;rw[kt.slot (by rw[hg];exact hs)];exact h3 k hk hK};{rw[h1 k hk];exact h.key k}};{rw[hb]at a b;exact h.sep k k' g a b};{rw[hb]at a;exact h.dz k g a};{rw[hg]at hk;rw[hg];exact h.inv j k hk};{rw[hg]at hk;have NK:nt<=k:=by{rcases Nat.lt_or_ge k nt with SS|SS;{have:=h.slt k SS;rw[hk]at this;cases this};{exact SS}};have hdn:nt<=d:=(h.inv k d (by rw[hk];exact List.mem_singleton.2 rfl)).1;rw[h1 k NK,h1 d hdn];exact h.par k d hk}
theorem eI.G6{S':St}(h:eI C S a w R τ)(h1:∀k,C.nt<=k->S' k=S k)(h2:∀k,k<C.nt->(S' k).2=(S k).2)(h3:∀k,k<C.nt->dP R w τ (S k).1 (S k).2 (τ k)->dP R w τ (S' k).1 (S' k).2 (τ k)):eI C S' a w R τ:={h with core:=h.core.G6 h1 h2 h3}
theorem qA(h:eI C S a w R τ){t:Nat}(ht:t<C.nt):dP R w τ (S t).1 (S t).2 (a.tmps.getD t undef):=by have:=h.core.key t;rw[kt.slot (h.core.slt t ht),<-h.tmps t ht]at this;exact this
theorem uc(h:eI C S a w R τ){ops:Array Oper}{j t:Nat}{x:Bool}(ht:t<C.nt)(hj:(ops[j]?).bind (·.dst)=Bm t)(hx:a.tmps.getD t undef=.bool x):yielded ops a.tmps j=Bm x:=by have hs:t<a.tmps.size:=by{rw[h.size];exact ht};have e2:a.tmps[t]?=Bm (.bool x):=by{rw[Array.getElem?_eq_getElem hs,<-hx];simp[Array.getD,hs]};simp[yielded,hj,e2]
theorem CT(h:eI C S a w R τ){ops:Array Oper}{j t:Nat}(ht:t<C.nt)(hj:(ops[j]?).bind (·.dst)=Bm t)(hx:a.tmps.getD t undef=undef):yielded ops a.tmps j=Kk:=by have hs:t<a.tmps.size:=by{rw[h.size];exact ht};have e2:a.tmps[t]?=Bm undef:=by{rw[Array.getElem?_eq_getElem hs,<-hx];simp[Array.getD,hs]};simp[yielded,hj,e2,undef]
theorem DC{nt:Nat}{dst:Option Nat}(h:0<nt)(j j':Nat)(e:zO nt dst j=zO nt dst j'):j=j':=by unfold zO at e;have:(j+1)*nt=(j'+1)*nt:=by{omega};have:=Nat.eq_of_mul_eq_mul_right h this;omega
theorem sN{nt:Nat}{ts:List Nat}{S:St}{k:Nat}(h:k<nt)(hk:k∈ts):mg nt ts S k=((S k).1.bare,(S k).2):=by have h1:Nat.blt k nt=Qf:=Nat.ble_eq_true_of_le h;have h2:ts.contains k=Qf:=by{simpa using hk};unfold mg;simp only[h1,h2,aM,aj]
theorem qZ{nt:Nat}{ts:List Nat}{S:St}{k:Nat}(h:nt<=k\/k∉ts):mg nt ts S k=S k:=by
 unfold mg;cases hb:(Nat.blt k nt&&ts.contains k)with
 |false=>rfl
 |true=>exfalso;simp only[ah]at hb;have h1:k+1<=nt:=Nat.le_of_ble_eq_true hb.1;have h2:k∈ts:=by{simpa using hb.2};rcases h with h|h;{omega};{exact h h2}
theorem Lt.mg{nt:Nat}{ts:List Nat}(h:Lt V S):Lt (mg nt ts V) (mg nt ts S):=λk=>by by_cases hk:k<nt/\k∈ts;{rw[sN hk.1 hk.2,sN hk.1 hk.2];exact(h k).imp (λe=>by rw[e]) id};{have:nt<=k\/k∉ts:=by{by_cases h1:k<nt;{exact .inr λh2=>hk ⟨h1,h2⟩};{exact .inl (by omega)}};rw[qZ this,qZ this];exact h k}
theorem ye:∀{l:List (Nat×Cell)}{S S':St}{k:Nat},k∈l.map (·.1)->eY S l k=eY S' l k
 |(j,x)::l,S,S',k,h=>by simp only[eY];by_cases e:k=j;{subst e;rw[bR,bR]};{rw[cO _ _ e,cO _ _ e];rcases aS.1 h with h|h;{exact(e h).elim};{exact ye h}}
theorem Ae(h:eI C S a w R τ)(hV:Lt V S)(hE:ku C.P C.E)(hF:∀f,fX C.P C.gl f (C.E.fs f)){d:Nat}{x':Cell}{e0:gT}(hd:o.dst=Bm d)(hl:d<C.nt)(mQ:wO C.nt o=Qf)(QT:∀t∈watch o.op,∀q,(V t).1.M1=Bm q->q=Qf)(HL:(watch o.op).all (λt=>!(V t).1.bare.LQ)=Qf)(Xj:Dd C.P C.E C.nt (zO C.nt o.dst) (mg C.nt (watch o.op) V) o.type o.op=Bm e0)(Pr:∀p,e0.p=Bm p->p=Qf)(ND:∀p∈e0.ws,C.nt<=p.1)(CN:x'.2=e0.x.2)(hx:∀(R:Reach)(w:World)(τ:Nat->Value)(v:Value),dP R w τ e0.x.1 e0.x.2 v->dP R w τ x'.1 x'.2 v)(hK:∀a' w',wx C (cH (eY S e0.ws) d x') a' w'->K a' w'):o.wp C.P a w K Q:=by
 let S':St:=λk=>if(V k).2=.hid then S k else mg C.nt (watch o.op) S k;have bk:∀k,S' k=S k\/(k<C.nt/\S' k=((S k).1.bare,(S k).2)/\(S k).1.bare.LQ=Qg/\∀q,(S k).1.M1=Bm q->q=Qf):=λk=>by{show(if(V k).2=.hid then S k else mg C.nt (watch o.op) S k)=S k\/_;by_cases hh:(V k).2=.hid;{left;rw[ar hh]};by_cases hk:k<C.nt/\k∈watch o.op;{right;have e:=(hV k).resolve_right hh;have hn:=aI.1 HL k hk.2;refine⟨hk.1,?_,?_,?_⟩;{show(if(V k).2=.hid then S k else mg C.nt (watch o.op) S k)=_;rw[ak hh,sN hk.1 hk.2]};{rw[<-e];simpa using hn};{rw[<-e];exact QT k hk.2}};{left;rw[ak hh,qZ];by_cases h1:k<C.nt;{exact .inr λh2=>hk ⟨h1,h2⟩};{exact .inl (by omega)}}};have conv:∀{R:Reach}{w:World}{τ:Nat->Value}k,k<C.nt->(S' k).2=(S k).2/\(dP R w τ (S k).1 (S k).2 (τ k)↔dP R w τ (S' k).1 (S' k).2 (τ k)):=λ{R w τ}k _=>by rcases bk k with e|⟨_,e,h1,h2⟩;{rw[e];exact⟨rfl,Iff.rfl⟩};{rw[e];refine⟨rfl,?_⟩;generalize S k=c at*;obtain⟨x,g⟩:=c;(cases x<;>first|exact Iff.rfl|skip);rename_i q x;have:=h2 q rfl;subst this;exact G7 h1}
 have Gq:eI C S' a w R τ:=h.G6 (λk hk=>by
  rcases bk k with e|⟨h1,_⟩;{exact e}
  ·omega) (λk hk=>(conv (R:=R) (w:=w) (τ:=τ) k hk).1) λk hk=>(conv k hk).2.1
 have Xm:Lt (mg C.nt (watch o.op) V) S':=λk=>by{show _=(if(V k).2=.hid then S k else mg C.nt (watch o.op) S k)\/_;by_cases hh:(V k).2=.hid;{right;by_cases hk:k<C.nt/\k∈watch o.op;{rw[sN hk.1 hk.2];exact hh};{rw[qZ];{exact hh};{by_cases h1:k<C.nt;{exact .inr λh2=>hk ⟨h1,h2⟩};{exact .inl (by omega)}}}};{rw[ak hh];exact hV.mg k}};have NM:=Dc Gq Xm hE Pr hF (λhn=>DC hn) mQ Xj;refine NM K Q λa' w' Eb=>hK _ _ ?_;obtain⟨R2,vf,Eb⟩:=Eb;rw[hd]at Eb;simp only[iU]at Eb;have put:∀k,eY S e0.ws k=eY S' e0.ws k\/(k<C.nt/\eY S e0.ws k=S k/\eY S' e0.ws k=S' k):=λk=>by{by_cases hk:k<C.nt;{have hn:∀p∈e0.ws,p.1≠k:=λp hp e=>by{have:=ND p hp;omega};exact .inr ⟨hk,ix hn,ix hn⟩};{left;by_cases hm:k∈e0.ws.map (·.1);{exact ye hm};{have hn:∀p∈e0.ws,p.1≠k:=λp hp e=>hm (bo.2 ⟨p,hp,e⟩);rw[ix hn,ix hn];rcases bk k with e|⟨h1,_⟩;{exact e.symm};{exact(hk h1).elim}}}};refine⟨R2,vf,Eb.G6 (λk hk=>?_) (λk hk=>?_) λk hk=>?_⟩;{have hk:C.nt<=k:=hk;have nc:k≠d:=Nat.ne_of_gt (Nat.lt_of_lt_of_le hl hk);rw[cO _ _ nc,cO _ _ nc];rcases put k with e|⟨h1,_⟩;{exact e};{omega}};{by_cases e:k=d;{subst e;rw[bR,bR];exact CN};{rw[cO _ _ e,cO _ _ e];rcases put k with e|⟨h1,e1,e2⟩;{rw[e]};{rw[e1,e2];exact(conv (R:=R) (w:=w) (τ:=τ) k h1).1.symm}}};{by_cases e:k=d;{subst e;rw[bR,bR];exact hx _ _ _ _};{rw[cO _ _ e,cO _ _ e];rcases put k with e|⟨h1,e1,e2⟩;{rw[e];exact id};{rw[e1,e2];exact(conv k h1).2.2}}}
theorem abJ(h:eI C S a w R τ)(hV:Lt V S)(hE:ku C.P C.E)(hF:∀f,fX C.P C.gl f (C.E.fs f)){ops:Array Oper}(hp:∀p,e.p=Bm p->p=Qf)(he:po C.P C.E C.nt ops o V=Bm e)(hK:∀a' w',wx C (iU S o.dst e) a' w'->K a' w'):if Region.wanted o (yielded ops a.tmps)then o.wp C.P a w K Q\/(o.asks C.P a w/\LetsOut Q)else K (a.put o.dst undef) w:=by
 unfold po at he;obtain⟨mQ,he⟩:=bG.1 he;split at he;{rename_i hg;simp only[Region.wanted,hg,if_true];exact .inl (Dc h hV hE hp hF (λhn=>DC hn) mQ he K Q hK)}
 ·rename_i j b hg;split at he
  ·rename_i t hj;split at he
   ·rename_i x Z4;split at he
    ·rename_i c e0 hc Xj;obtain⟨h1,Us⟩:=bG.1 he;simp only[ah]at h1;obtain⟨ht,hds,HL⟩:=h1;have ht:t<C.nt:=Nat.le_of_ble_eq_true ht;obtain⟨d,hd⟩:=Option.isSome_iff_exists.1 hds;have hl:d<C.nt:=by{unfold wO at mQ;split at mQ;{rename_i zU;rw[hd]at zU;cases zU};{cases mQ};{rename_i zU;rw[hd]at zU;cases zU};{rename_i zU _;rw[hd]at zU;cases zU;exact Nat.le_of_ble_eq_true mQ};{cases mQ}};have Pn:=qA h ht;have hSt:S t=(x,.no):=hV.of Z4;rw[hSt]at Pn;have hw:Region.wanted o (yielded ops a.tmps)=c:=by
      unfold Cf at hc;split at hc;{rename_i y;cases hc;have:=(jH.rep Pn).cq rfl;simp only[Region.wanted,hg,uc h ht hj this];cases b<;>cases y<;>rfl}
      ·rename_i q y;cases hc;cases q with
       |false=>simp only[Region.wanted,hg,CT h ht hj Pn];try(cases b<;>cases y<;>rfl)
       |true=>have:Rep R w (.b y) (a.tmps.getD t undef):=Pn;simp only[Region.wanted,hg,uc h ht hj (this.cq rfl)];cases b<;>cases y<;>rfl
      {cases hc}
     cases hf:C.E.ld.contains (zO C.nt o.dst 1)&&!e0.ws.isEmpty with
     |true=>
      rw[hf,aj]at Us;unfold Ml at Us;obtain⟨h2,Py⟩:=bG.1 Us;cases Py;have ND:∀p∈e0.ws,C.nt<=p.1:=λp hp=>Nat.le_of_ble_eq_true (aI.1 h2 p hp);have hp:=hp _ rfl;simp only at hp;have PA:c=Qf/\(∀r,wZ ((watch o.op).map λt=>(V t).1)=Bm r->r=Qf)/\∀p,e0.p=Bm p->p=Qf:=by
       cases hq:wZ ((watch o.op).map λt=>(V t).1)with
       |none=>
        cases L9:e0.p with
        |none=>rw[hq,L9]at hp;exact⟨hp,λr hr=>(by cases hr),λp AU=>(by cases AU)⟩
        |some p0=>rw[hq,L9]at hp;simp only[ah]at hp;exact⟨hp.1,λr hr=>(by cases hr),λp AU=>(by cases AU;exact hp.2)⟩
       |some q0=>
        cases L9:e0.p with
        |none=>rw[hq,L9]at hp;simp only[ah]at hp;exact⟨hp.1,λr hr=>(by cases hr;exact hp.2),λp AU=>(by cases AU)⟩
        |some p0=>rw[hq,L9]at hp;simp only[ah]at hp;exact⟨hp.1,λr hr=>(by cases hr;exact hp.2.1),λp AU=>(by cases AU;exact hp.2.2)⟩
      obtain⟨Kd,zS,Gl⟩:=PA;rw[hw,Kd,ar rfl];left;refine Ae h hV hE hF hd hl mQ (λt ht q hq=>?_) HL Xj Gl ND rfl (λ_ _ _ _ k=>k) (λa' w' hs=>hK a' w' (by rw[hd];exact hs));have hm:(V t).1∈(watch o.op).map λt=>(V t).1:=List.mem_map_of_mem (f:=λt=>(V t).1) ht;generalize sV:wZ ((watch o.op).map λt=>(V t).1)=r at zS;cases r with
      |none=>rw[wh sV _ hm]at hq;cases hq
      |some r=>have:=zS r rfl;subst this;exact Bd sV _ hm q hq
     |false=>
      rw[hf,ae]at Us;unfold Kq at Us;obtain⟨h2,Py⟩:=bG.1 Us;cases Py;simp only[ah,Bool.not_eq_true',List.isEmpty_iff]at h2;obtain⟨⟨ND,Ff,ZI⟩,Jo⟩:=h2;have hms:∀k∈e0.x.2.cQ,C.nt<=k/\(S k).2≠.no:=λk hk=>by{have:=aI.1 Jo k hk;simp only[okM,ah]at this;refine⟨Nat.le_of_ble_eq_true this.1,?_⟩;rcases hV k with e|e;{rw[<-e];intro e';rw[e']at this;cases this.2};{rw[e]at this;cases this.2}};rw[hw];cases c with
      |false=>simp only[br,if_false];rw[hd];refine hK _ _ ?_;rw[hd];exact h.OH hl (x:=.gd Qg e0.x.1) (v:=undef) rfl Ff hms
      |true=>
       simp only[if_true];have QT:∀t∈watch o.op,∀q,(V t).1.M1=Bm q->q=Qf:=by
        intro t ht q hq;have hm:(V t).1∈(watch o.op).map λt=>(V t).1:=List.mem_map_of_mem (f:=λt=>(V t).1) ht;generalize sV:wZ ((watch o.op).map λt=>(V t).1)=r at hp;cases r with
        |none=>rw[wh sV _ hm]at hq;cases hq
        |some r=>
         have:r=Qf:=by
          cases L9:e0.p with
          |none=>have:=hp _ (by simp only[L9];rfl);simpa using this
          |some p=>have:=hp _ (by simp only[L9];rfl);simp at this;exact this.1
         subst this;exact Bd sV _ hm q hq
       have Pr:∀p,e0.p=Bm p->p=Qf:=λp L9=>by
        generalize wZ ((watch o.op).map λt=>(V t).1)=r at hp;cases r with
        |none=>have:=hp _ (by simp only[L9];rfl);simpa using this
        |some r=>have:=hp _ (by simp only[L9];rfl);simp at this;exact this.2
       left;refine Ae h hV hE hF hd hl mQ QT HL Xj Pr (by rw[ND];simp) (x':=(.gd Qf e0.x.1,e0.x.2)) rfl (λ_ _ _ _ k=>(G7 ZI).2 k) (λa' w' hs=>hK a' w' ?_);rw[hd];simp only[iU,eY];rw[ND]at hs;exact hs
    {cases he}
   {cases he}
  {cases he}
end
def EN{X:Type}{p:Option Bool}{x:Option X}{r:X}(h:NR p x=Bm r):(∀q,p=Bm q->q=Qf)/\x=Bm r:=by
 unfold NR at h;split at h;{exact⟨by simp,h⟩}
 ·rename_i p;cases p with
  |true=>exact⟨by rintro q e;cases e;rfl,h⟩
  |false=>cases h
section
variable{L:Nat->Prop}{ops:List Oper}
theorem vb(Fh:∀i o,ops[i]?=Bm o->L i->∀e∈wu o,L e):∀(rest pre:List Oper)(acc:List (List Nat)),ops=pre++rest->acc.length=pre.length->
  (∀i o,i<acc.length->ops[i]?=Bm o->(∀e∈wu o,L e)->∀j∈acc.getD i [],L j)->
  ∀i o,ops[i]?=Bm o->(∀e∈wu o,L e)->∀j∈(rest.foldl (λacc o=>acc++[(wu o).flatMap λe=>e::(acc.getD e [])]) acc).getD i [],L j
 |[],pre,acc,e,hl,inv=>by intro i o hi hb j hj;simp only[aR]at e;subst e;have:i<acc.length:=by{rw[hl];exact(aG.1 hi).1};exact inv i o this hi hb j hj
 |r::rest,pre,acc,e,hl,inv=>by simp only[List.foldl_cons];refine vb Fh rest (pre++[r]) _ (by simp[e]) (by simp[hl]) ?_;intro i o hi ho hb j hj;by_cases gS:i<acc.length;{rw[ai,List.getElem?_append_left gS,<-ai]at hj;exact inv i o gS ho hb j hj};{have pG:i=acc.length:=by{simp at hi;omega};subst pG;rw[ai,aW (Nat.le_refl _)]at hj;simp only[Nat.sub_self,List.getElem?_cons_zero,Option.getD_some,List.mem_flatMap,aS]at hj;have hr:o=r:=by{rw[e,hl,aW (Nat.le_refl _)]at ho;simpa using ho.symm};subst hr;obtain⟨x,hx,rfl|hj⟩:=hj;{exact hb _ hx};{by_cases Pj:x<acc.length;{have hxo:x<ops.length:=by{rw[e];simp;omega};exact inv x _ Pj (au hxo) (Fh x _ (au hxo) (hb x hx)) j hj};{simp[List.getD,List.getElem?_eq_none (Nat.le_of_not_lt Pj)]at hj}}}
theorem zo(Fh:∀i o,ops[i]?=Bm o->L i->∀e∈wu o,L e){i:Nat}{o:Oper}(hi:ops[i]?=Bm o)(hb:∀e∈wu o,L e):∀j∈(pK ops).getD i [],L j:=vb Fh ops [] [] rfl rfl (λ_ _ h=>by simp at h) i o hi hb
theorem GN(Ur:xx ops=Qf){i j:Nat}{o:Oper}(hi:ops[i]?=Bm o)(hj:j∈(pK ops).getD i []):j<i:=by have hb:∀k p,ops[k]?=Bm p->∀e∈wu p,e<k:=λk p hk e he=>by{have hm:(p,k)∈ops.zipIdx:=List.mem_zipIdx_iff_getElem?.2 (by simpa using hk);have:=aI.1 (aI.1 Ur _ hm) e he;simpa using this};exact zo (L:=λk=>k<i) (λk p hk hl e he=>Nat.lt_trans (hb k p hk e he) hl) hi (hb i o hi) j hj
end
def N0{A:Type}{l:List A}{p:A×Nat->Bool}(h:l.zipIdx.all p=Qf){i:Nat}{x:A}(hi:l[i]?=Bm x):p (x,i)=Qf:=aI.1 h _ (List.mem_zipIdx_iff_getElem?.2 (by simpa using hi))
theorem En(l:Array Bool)(i x:Nat)(d:Bool):(l.setIfInBounds i Qf).getD x d=if i=x then(if i<l.size then Qf else d)else l.getD x d:=by simp only[Array.getD_eq_getD_getElem?,Array.getElem?_setIfInBounds];split;{split<;>rfl};{rfl}
def gX(n:Nat)(listed:Array Bool):List Nat:=(List.range n).filter λi=>!listed.getD i Qf
def Du{n i:Nat}{listed:Array Bool}(hs:listed.size=n)(hi:i<n):gX n (listed.setIfInBounds i Qf)=(gX n listed).filter (λj=>nP (j≠i)):=by simp only[gX,List.filter_filter];apply List.filter_congr;intro j hj;have hj:j<n:=by{simpa using hj};by_cases h:j=i;{subst h;simp[Array.getD,hs,hi]};{have:i≠j:=λe=>h e.symm;simp[Array.getD,hs,hj,Array.getElem_setIfInBounds,h,this]}
def yu{listed:Array Bool}{n i:Nat}(hs:listed.size=n)(hi:i<n):listed.getD i Qf=listed.getD i Qg:=by simp[Array.getD,hs,hi]
theorem vZ(S:St)(d:Option Nat)(e:gT):iU S d e=eY S (d.toList.map (λd=>(d,e.x))++e.ws):=by cases d<;>rfl
theorem D1(d:Option Nat)(e:gT):(d.toList.map (λd=>(d,e.x))++e.ws).map (·.1)=mO d e:=by unfold mO;cases d<;>simp
def nM{S:St}{d:Option Nat}{e:gT}{k:Nat}(h:k∉mO d e):iU S d e k=S k:=by rw[vZ];refine ix λp hp ep=>h ?_;rw[<-D1];exact bo.2 ⟨p,hp,ep⟩
def H0{S S':St}{d:Option Nat}{e:gT}{k:Nat}(h:k∈mO d e):iU S d e k=iU S' d e k:=by rw[vZ,vZ];exact ye (by rw[D1];exact h)
def JH{S:St}{d d':Option Nat}{e e':gT}(h:∀k∈mO d e,k∉mO d' e'):iU (iU S d e) d' e'=iU (iU S d' e') d e:=by funext k;by_cases h1:k∈mO d e;{rw[nM (h k h1),H0 (S':=iU S d' e') h1]};{by_cases h2:k∈mO d' e';{rw[nM (S:=iU S d' e') h1,H0 (S':=S) h2]};{rw[nM h2,nM h1,nM h1,nM h2]}}
section
variable{C:Ctx}{Q:Exit->Act->World->Prop}
theorem eI.drew{S:St}{a:Act}{w:World}{R:Reach}{τ:Nat->Value}(h:eI C S a w R τ):eI C S a {w with drawn:=w.drawn+1} R τ:=by have dr:eH R w R {w with drawn:=w.drawn+1}:=λb o hr=>⟨hr,rfl⟩;refine⟨h.size,h.defers,h.core.step (λ_=>False) dr (λ_ _=>⟨rfl,rfl⟩) (λ_ _ _ _=>⟨rfl,λ_=>id⟩) (λ_=>False.elim) (λ_=>False.elim) (λ_=>False.elim) (λ_=>False.elim) (λ_=>False.elim) (λ_ _=>False.elim) (λ_=>id) (λ_=>False.elim) h.core.th (λ_=>False.elim),h.tmps,h.io,?_,h.gl.dr dr⟩;exact h.ext.trans (io':=C.io) ⟨rfl,rfl,rfl,Nat.le_refl _,λ_ _ _=>rfl,dr,λb o hr=>.inl hr⟩ λb hb=>.inl hb
theorem Bq{S:St}{a:Act}{w:World}{R:Reach}{τ:Nat->Value}{ops:Array Oper}{o:Oper}{c:Bool}(h:eI C S a w R τ)(he:vu C.E C.nt ops o S=Bm c):Region.wanted o (yielded ops a.tmps)=c:=by
 unfold vu at he;cases hb:C.E.ld.contains (zO C.nt o.dst 2)with
 |false=>rw[hb]at he;cases he
 |true=>
  rw[hb,aj]at he;(split at he<;>try(cases he;done));rename_i j b hg;(split at he<;>try(cases he;done));rename_i t hj;(split at he<;>try(cases he;done));rename_i x Z4;obtain⟨ht,Py⟩:=bG.1 he;clear he;have ht:t<C.nt:=Nat.le_of_ble_eq_true ht;have Pn:=qA h ht;rw[Z4]at Pn;unfold Cf at Py;split at Py;{rename_i y;cases Py;have:=(jH.rep Pn).cq rfl;simp only[Region.wanted,hg,uc h ht hj this];cases b<;>cases y<;>rfl}
  ·rename_i q y;cases Py;cases q with
   |false=>simp only[Region.wanted,hg,CT h ht hj Pn];try(cases b<;>cases y<;>rfl)
   |true=>have:Rep R w (.b y) (a.tmps.getD t undef):=Pn;simp only[Region.wanted,hg,uc h ht hj (this.cq rfl)];cases b<;>cases y<;>rfl
  {cases Py}
theorem BR(hE:ku C.P C.E)(hF:∀f,fX C.P C.gl f (C.E.fs f)){X:Type}{ops:Array Oper}:∀{os:List Oper}{S:St}{a:Act}{w:World}{K:St->Option X}{r:X},wx C S a w->FP C.P C.E C.nt ops os S K=Bm r->(∀S' a' w',wx C S' a' w'->K S'=Bm r->Q .normal a' w')->wpList C.P ops Q os a w
 |[],S,a,w,K,r,h,hr,hQ=>hQ _ _ _ h hr
 |o::os,S,a,w,K,r,⟨R,τ,h⟩,hr,hQ=>by
  rw[ID]at hr;split at hr
  ·rename_i e he;have go:NR e.p (FP C.P C.E C.nt ops os (iU S o.dst e) K)=Bm r->wpList C.P ops Q (o::os) a w:=λhr=>by{obtain⟨hp,hr⟩:=EN hr;unfold wpList;exact abJ h (Lt.refl S) hE hF hp he λa' w' h'=>BR hE hF h' hr hQ};unfold CZ at hr;split at hr;{exact go hr}
   ·rename_i c hc;cases hz:e.ws.isEmpty with
    |true=>rw[hz]at hr;exact go hr
    |false=>
    rw[hz,ae]at hr;cases c with
    |true=>exact go hr
    |false=>rw[ae]at hr;(split at hr<;>try(cases hr;done));rename_i d hd;have hw:=Bq h hc;have hl:d<C.nt:=by{unfold po at he;obtain⟨mQ,_⟩:=bG.1 he;unfold wO at mQ;split at mQ;{rename_i zU;rw[hd]at zU;cases zU};{cases mQ};{rename_i zU;rw[hd]at zU;cases zU};{rename_i zU _;rw[hd]at zU;cases zU;exact Nat.le_of_ble_eq_true mQ};{cases mQ}};unfold wpList;rw[hw,ak (by simp),hd];refine BR hE hF (h.OH hl (x:=.gd Qg (gdX e)) (g:=.no) (v:=undef) rfl rfl (by simp[Gh.cQ])) hr hQ
  {cases hr}
structure T9 (C:Ctx) (ops:Array Oper) (l:List (St×gT)):Prop where
 step:∀(i:Nat)(o:Oper)(V:St)(e:gT),ops.toList[i]?=Bm o->l[i]?=Bm (V,e)->po C.P C.E C.nt ops o V=Bm e/\∀p,e.p=Bm p->p=Qf
 off:∀(i j:Nat)(o o':Oper)(V V':St)(e e':gT),i≠j->ops.toList[i]?=Bm o->ops.toList[j]?=Bm o'->l[i]?=Bm (V,e)->l[j]?=Bm (V',e')->j∉(pK ops.toList).getD i []->i∉(pK ops.toList).getD j []->
  ∀k∈mO o'.dst e',(V k).2=.hid/\k∉mO o.dst e
def Rn(ops:Array Oper)(l:List (St×gT)):List Nat->St->St->Prop
 |[],S,S'=>S'=S
 |i::r,S,S'=>∃V e o,ops.toList[i]?=Bm o/\l[i]?=Bm (V,e)/\Lt V S/\Rn ops l r (iU S o.dst e) S'
theorem Lt.QZ{V S:St}{d:Option Nat}{e:gT}(h:∀k∈mO d e,(V k).2=.hid):Lt V S↔Lt V (iU S d e):=by constructor;{intro hl k;by_cases hk:k∈mO d e;{exact .inr (h k hk)};{rw[nM hk];exact hl k}};{intro hl k;by_cases hk:k∈mO d e;{exact .inr (h k hk)};{have:=hl k;rwa[nM hk]at this}}
theorem Rn.front{ops:Array Oper}{l:List (St×gT)}(hp:T9 C ops l){i:Nat}{B:List Nat}:∀{A:List Nat}{S S':St},Rn ops l (A++i::B) S S'->(∀j∈A,j≠i/\j∉(pK ops.toList).getD i []/\i∉(pK ops.toList).getD j [])->Rn ops l (i::(A++B)) S S'
 |[],_,_,h,_=>h
 |j::A,S,S',⟨V,e,o,h1,h2,h3,h4⟩,hA=>by obtain⟨V',e',o',k1,k2,k3,k4⟩:=Rn.front hp h4 λx hx=>hA x (List.mem_cons_of_mem _ hx);obtain⟨nc,ha,hb⟩:=hA j (List.mem_cons_self ..);have o1:=hp.off j i o o' V V' e e' nc h1 k1 h2 k2 hb ha;have o2:=hp.off i j o' o V' V e' e (Ne.symm nc) k1 h1 k2 h2 ha hb;refine⟨V',e',o',k1,k2,(Lt.QZ λk hk=>(o2 k hk).1).2 k3,V,e,o,h1,h2,(Lt.QZ λk hk=>(o1 k hk).1).1 h3,?_⟩;rwa[JH λk hk=>(o1 k hk).2]
def Ch:List Oper->List (St×gT)->St->St->Prop
 |[],[],S,S'=>S'=S
 |o::os,(V,e)::l,S,S'=>Lt V S/\Ch os l (iU S o.dst e) S'
 |_,_,_,_=>False
theorem Ch.rn{ops:Array Oper}{l:List (St×gT)}:∀(n i:Nat){S S':St},ops.toList.length=i+n->Ch (ops.toList.drop i) (l.drop i) S S'->Rn ops l (List.range' i n) S S'
 |0,i,S,S',hn,h=>by
  rw[List.drop_eq_nil_of_le (by omega)]at h;cases hl:l.drop i with
  |nil=>rw[hl]at h;exact h
  |cons p r=>rw[hl]at h;cases h
 |n+1,i,S,S',hn,h=>by
  have hi:i<ops.toList.length:=by{omega};rw[List.drop_eq_getElem_cons hi]at h;cases hl:l.drop i with
  |nil=>rw[hl]at h;cases h
  |cons p r=>obtain⟨V,e⟩:=p;rw[hl]at h;obtain⟨h1,h2⟩:=h;have hg:l[i]?=Bm (V,e):=by{have:(l.drop i)[0]?=Bm (V,e):=by{rw[hl];rfl};rwa[List.getElem?_drop,Nat.add_zero]at this};have hr:l.drop (i+1)=r:=by{rw[<-List.drop_drop,hl];rfl};exact⟨V,e,_,au hi,hg,h1,Ch.rn n (i+1) (by omega) (by rw[hr];exact h2)⟩
theorem Lp(ds:List Nat)(S:St):Lt (tm ds S) S:=λk=>by
 unfold tm;cases ds.contains k with
 |true=>exact .inr rfl
 |false=>exact .inl rfl
theorem I5{ds:List Nat}{S:St}{k:Nat}(h:k∈ds):(tm ds S k).2=.hid:=by unfold tm;have:ds.contains k=Qf:=by{simpa using h};rw[this];rfl
theorem Hb{X:Type}{ops:Array Oper}{W B:List (List Nat)}{K:St->Option X}{r:X}:∀{os:List Oper}{i:Nat}{S:St},IG C.P C.E C.nt ops W B i os S K=Bm r->
  ∃l S',l.length=os.length/\Ch os l S S'/\K S'=Bm r/\∀(n:Nat)(o:Oper)(V:St)(e:gT),os[n]?=Bm o->l[n]?=Bm (V,e)->(∃S0,V=tm (vH W B (i+n)) S0)/\po C.P C.E C.nt ops o V=Bm e/\(∀p,e.p=Bm p->p=Qf)/\mO o.dst e=W.getD (i+n) []/\∀k∈vH W B (i+n),k∉W.getD (i+n) []
 |[],i,S,h=>⟨[],S,rfl,rfl,h,by simp⟩
 |o::os,i,S,h=>by
  rw[IF]at h;split at h
  ·rename_i e he;obtain⟨h1,h2⟩:=bG.1 h;obtain⟨hp,h3⟩:=EN h2;obtain⟨l,S',k1,k2,k3,k4⟩:=Hb h3;simp only[ah,aC]at h1;refine⟨(tm (vH W B i) S,e)::l,S',by simp[k1],⟨Lp _ _,k2⟩,k3,λn o' V e' hn hl=>?_⟩;cases n with
   |zero=>cases hn;cases hl;refine⟨⟨S,rfl⟩,he,hp,h1.1,λk hk=>?_⟩;have:=aI.1 h1.2 k hk;simpa using this
   |succ n=>have:=k4 n o' V e' (by simpa using hn) (by simpa using hl);rwa[show i+1+n=i+(n+1) by omega]at this
  {cases h}
theorem TY(hE:ku C.P C.E)(hF:∀f,fX C.P C.gl f (C.E.fs f)){ops:Array Oper}{l:List (St×gT)}(hlen:l.length=ops.size)(zF:T9 C ops l)(Ur:xx ops.toList=Qf){S':St}(hQ:∀a' w',wx C S' a' w'->Q .normal a' w'):∀(fuel:Nat){listed:Array Bool}{S:St}{a:Act}{w:World},wx C S a w->listed.size=ops.size->(∀i o,ops.toList[i]?=Bm o->listed.getD i Qg=Qf->∀e∈wu o,listed.getD e Qg=Qf)->(gX ops.size listed).length<=fuel->Rn ops l (gX ops.size listed) S S'->wpAny C.P .any ops Q fuel listed a w:=by
 have ZH:∀{listed:Array Bool},listed.size=ops.size->Region.ready .any ops listed=[]->gX ops.size listed=[]:=by
  intro listed hs hr;cases L0:gX ops.size listed with
  |nil=>rfl
  |cons i rest=>
   exfalso;have qS:i∈gX ops.size listed:=by{rw[L0];exact List.mem_cons_self ..};have QN:=qS;simp only[gX,List.mem_filter,List.mem_range,Bool.not_eq_true']at QN;obtain⟨hi,hl⟩:=QN;have Ea:(gX ops.size listed).Pairwise (· <·):=List.Pairwise.filter _ List.pairwise_lt_range;have HM:ops.toList[i]?=Bm ops[i]:=by{simp[hi]};have hb:=N0 Ur HM;have:i∈Region.ready .any ops listed:=by
    simp only[Region.ready,List.mem_filter,List.mem_range];refine⟨hi,?_⟩;simp only[hl,aH,Bool.true_and,Array.getElem?_eq_getElem hi,Option.map_some,Option.getD_some,Array.all_eq_true_iff_forall_mem,Bool.or_eq_true,Bool.not_eq_true'];intro e he;cases V1:Region.binds .any e with
    |false=>exact .inl rfl
    |true=>
     right;have gS:e.on<i:=by{have:e.on∈wu ops[i]:=bo.2 ⟨e,List.mem_filter.2 ⟨by simpa using he,V1⟩,rfl⟩;have lu:=aI.1 hb _ this;simpa using lu};cases hle:listed.getD e.on Qg with
     |true=>rfl
     |false=>have Kc:e.on∈gX ops.size listed:=by{simp only[gX,List.mem_filter,List.mem_range,Bool.not_eq_true'];exact⟨by omega,by rw[yu hs (by omega)];exact hle⟩};rw[L0]at Kc Ea;rcases aS.1 Kc with h|h;{omega};{have:=(List.pairwise_cons.1 Ea).1 _ h;omega}
   rw[hr]at this;cases this
 intro fuel;induction fuel with
 |zero=>
  intro listed S a w h hs Cc hf hr;have h0:gX ops.size listed=[]:=by{simpa using hf};rw[h0]at hr;cases hr;refine⟨?_,hQ _ _ h⟩;cases SG:Region.ready .any ops listed with
  |nil=>rfl
  |cons i rest=>have:i∈Region.ready .any ops listed:=by{rw[SG];exact List.mem_cons_self ..};simp only[Region.ready,List.mem_filter,List.mem_range,ah]at this;have h1:i∈gX ops.size listed:=by{simp only[gX,List.mem_filter,List.mem_range];exact⟨this.1,this.2.1⟩};rw[h0]at h1;cases h1
 |succ fuel ih=>
  intro listed S a w h hs Cc hf hr;refine⟨λSG=>?_,λi hi=>?_⟩;{rw[ZH hs SG]at hr;cases hr;exact hQ _ _ h}
  ·simp only[Region.ready,List.mem_filter,List.mem_range,ah]at hi;obtain⟨Kc,Xi,hib⟩:=hi;have VM:i∈gX ops.size listed:=by{simp only[gX,List.mem_filter,List.mem_range];exact⟨Kc,Xi⟩};have HM:ops.toList[i]?=Bm ops[i]:=by{simp[Kc]};simp only[Array.getElem?_eq_getElem Kc,Option.map_some,Option.getD_some,Array.all_eq_true_iff_forall_mem,Bool.or_eq_true,Bool.not_eq_true']at hib;have Js:∀e∈wu ops[i],listed.getD e Qg=Qf:=by{intro e he;simp only[wu,bo,List.mem_filter]at he;obtain⟨x,⟨hx,hb⟩,rfl⟩:=he;rcases hib x (by simpa using hx)with h|h;{rw[hb]at h;cases h};{exact h}};obtain⟨A,B,S8⟩:=List.append_of_mem VM;have Ea:(gX ops.size listed).Pairwise (· <·):=List.Pairwise.filter _ List.pairwise_lt_range;rw[S8,List.pairwise_append]at Ea;obtain⟨-,hB,hA⟩:=Ea;have hAi:∀j∈A,j<i:=λj hj=>hA j hj i (List.mem_cons_self ..);have hBi:∀j∈B,i<j:=λj hj=>(List.pairwise_cons.1 hB).1 j hj;rw[S8]at hr;have SW:=hr.front zF (λj hj=>by
    have ZS:=hAi j hj;have VK:j∈gX ops.size listed:=by{rw[S8];exact List.mem_append_left _ hj};simp only[gX,List.mem_filter,List.mem_range,Bool.not_eq_true']at VK;refine⟨by omega,λhb=>?_,λhb=>?_⟩;{have h3:=zo (L:=λe=>listed.getD e Qg=Qf) Cc HM Js j hb;rw[yu hs VK.1,h3]at VK;cases VK.2}
    ·have hjo:ops.toList[j]?=Bm ops[j]:=by{simp[VK.1]};have:=GN Ur hjo hb;omega)
   obtain⟨V,e,o,k1,k2,k3,k4⟩:=SW;rw[HM]at k1;cases k1;obtain⟨s1,s2⟩:=zF.step i _ V e HM k2;obtain⟨R,τ,h⟩:=h;simp only[wpOp,Array.getElem?_eq_getElem Kc];refine abJ h k3 hE hF s2 s1 λa' w' h'=>?_;have hrs:gX ops.size (listed.setIfInBounds i Qf)=A++B:=by{rw[Du hs Kc,S8,List.filter_append,List.filter_cons];simp only[ne_eq,not_true_eq_false,decide_false,br,if_false];rw[List.filter_eq_self.2 (λj hj=>by have:=hAi j hj;simp;omega),List.filter_eq_self.2 (λj hj=>by have:=hBi j hj;simp;omega)]};refine ih h' (by simp[hs]) ?_ ?_ ?_;{intro j o hj VL e he;have Po:∀x,listed.getD x Qg=Qf->(listed.setIfInBounds i Qf).getD x Qg=Qf:=by{intro x hx;rw[En];split;{rename_i Uo;subst Uo;rw[ar (by rw[hs];exact Kc)]};{exact hx}};by_cases ZS:j=i;{subst ZS;rw[HM]at hj;cases hj;exact Po _ (Js e he)};{refine Po _ (Cc j o hj ?_ e he);have hij:i≠j:=λe=>ZS e.symm;rw[En,ak hij]at VL;exact VL}};{rw[hrs];rw[S8]at hf;simp at hf⊢;omega};{rw[hrs];exact k4}
theorem IL(hE:ku C.P C.E)(hF:∀f,fX C.P C.gl f (C.E.fs f)){X:Type}{id:Nat}{ops:Array Oper}{draw:Bool}{S:St}{a:Act}{w:World}{K:St->Option X}{r:X}(h:wx C S a w)(hr:BD C.P C.E C.nt ops draw S K=Bm r)(hQ:∀S' a' w',wx C S' a' w'->K S'=Bm r->Q .normal a' w'):(Code.region id ops draw).wp C.P Q a w:=by
 cases draw with
 |false=>exact wp_region_list (BR hE hF h hr hQ)
 |true=>
  simp only[BD]at hr;obtain⟨Ur,hr⟩:=bG.1 hr;split at hr
  ·rename_i W _;obtain⟨l,S',k1,k2,k3,k4⟩:=Hb hr;simp only[Nat.zero_add]at k4;have hlen:l.length=ops.size:=by{simpa using k1};have zF:T9 C ops l:=⟨λi o V e ho hl=>⟨(k4 i o V e ho hl).2.1,(k4 i o V e ho hl).2.2.1⟩,λi j o o' V V' e e' nc ho ho' hl VI hj hi k hk=>by
    obtain⟨⟨S0,rfl⟩,_,_,a1,a2⟩:=k4 i o V e ho hl;obtain⟨_,_,_,b1,_⟩:=k4 j o' V' e' ho' VI;rw[b1]at hk;have Kc:k∈vH W (pK ops.toList) i:=by
     unfold vH;rcases Nat.lt_or_ge j W.length with gS|L7
     ·refine List.mem_flatMap.2 ⟨(W[j],j),List.mem_filter.2 ⟨List.mem_zipIdx_iff_getElem?.2 (by simp[au gS]),?_⟩,?_⟩
      ·have e1:Nat.beq j i=Qg:=by
        cases hb:Nat.beq j i with
        |false=>rfl
        |true=>exact(nc (az hb).symm).elim
       simp only[e1,aH,Bool.true_and,ah,Bool.not_eq_true'];exact⟨by simpa using hj,by simpa using hi⟩
      {rwa[ai,au gS]at hk}
     {rw[ai,List.getElem?_eq_none L7]at hk;cases hk}
    exact⟨I5 Kc,by rw[a1];exact a2 k Kc⟩⟩
   have L0:gX ops.size (Array.replicate ops.size Qg)=List.range ops.size:=by{simp only[gX];apply List.filter_eq_self.2;intro i hi;have hi:i<ops.size:=by{simpa using hi};simp[Array.getD,hi]};obtain⟨R,τ,h⟩:=h;refine wp_region_any hE.mixed (TY hE hF hlen zF Ur (λa' w' h'=>hQ S' a' w' h' k3) ops.size ⟨R,τ,h.drew⟩ (by simp) ?_ (by rw[L0];simp) ?_);{intro i o _ hl;exfalso;by_cases hi:i<ops.size<;>simp[Array.getD,hi]at hl};{rw[L0,List.range_eq_range'];exact Ch.rn ops.size 0 (by simp) (by simpa using k2)}
  {cases hr}
end
theorem EE:∀{l:List Nat}{i j k:Nat},o8 l=Qf->l[i]?=Bm k->l[j]?=Bm k->i=j
 |x::l,0,0,k,_,_,_=>rfl
 |x::l,0,j+1,k,h,h1,h2=>by have e:x=k:=by{simpa using h1};subst e;simp only[o8,ah,aI]at h;have:=h.1 x (aP (by simpa using h2));simp at this
 |x::l,i+1,0,k,h,h1,h2=>by have e:x=k:=by{simpa using h2};subst e;simp only[o8,ah,aI]at h;have:=h.1 x (aP (by simpa using h1));simp at this
 |x::l,i+1,j+1,k,h,h1,h2=>by simp only[o8,ah]at h;exact congrArg (· +1) (EE (k:=k) h.2 (by simpa using h1) (by simpa using h2))
 |[],i,_,_,_,h,_=>by simp at h
theorem oy:∀{G:GL}{xs:List TV}(k:Nat),fE G xs k=(.dead,.no)\/∃(i:Nat)(g:Gh)(x:TV),G[i]?=Bm (k,g)/\xs[i]?=Bm x/\fE G xs k=(x,g)
 |[],_,_=>.inl rfl
 |_::_,[],_=>.inl rfl
 |(j,g)::G,x::xs,k=>by
  simp only[fE];cases hb:Nat.beq k j with
  |true=>exact .inr ⟨0,g,x,by rw[az hb];rfl,rfl,rfl⟩
  |false=>rcases oy (G:=G) (xs:=xs) k with h|⟨i,g',x',h1,h2,h3⟩;{exact .inl h};{exact .inr ⟨i+1,g',x',by simpa using h1,by simpa using h2,h3⟩}
theorem uO:∀{G:GL}{xs:List TV}{i k:Nat}{g:Gh}{x:TV},o8 (G.map (·.1))=Qf->G[i]?=Bm (k,g)->xs[i]?=Bm x->fE G xs k=(x,g)
 |(j,g)::G,x::xs,0,k,_,_,_,h1,h2=>by cases h1;cases h2;have:Nat.beq j j=Qf:=by{simp};simp only[fE,this,aj]
 |(j,g)::G,x::xs,i+1,k,_,_,hd,h1,h2=>by simp only[bc,o8,ah,aI]at hd;have hm:k∈G.map (·.1):=bo.2 ⟨_,aP (by simpa using h1),rfl⟩;have:=hd.1 k hm;simp only[Bool.not_eq_true']at this;simp only[fE,this,ae];exact uO hd.2 (by simpa using h1) (by simpa using h2)
 |[],_,_,_,_,_,_,h,_=>by simp at h
 |_::_,[],_,_,_,_,_,_,h=>by simp at h
def uT{ts us:List (Nat×Nat)}{p:Nat×Nat}(h:p∈us.filter λu=>(nL u.1 ts).isNone):p∈us:=(List.mem_filter.1 h).1
theorem dn.Ao{R:Reach}{w:World}:∀{ts:List (Nat×Nat)}{xs:List TV}{ys:List Value},dn R w xs ys->dn R w (Ao ts xs) ys
 |[],_,_,h=>h
 |t::ts,xs,ys,h=>by simp only[Go.Eng.Ao,List.foldl_cons];exact dn.Ao (ts:=ts) (h.set λy _=>.pt y)
section
variable{nt:Nat}{R R':Reach}{w:World}{dz:Nat->Prop}{τ:Nat->Value}{S S1:St}{G:GL}{ρ:List (Nat×Option Nat)}
def Fact(nt:Nat)(w:World)(τ:Nat->Value)(S:St)(ρ:List (Nat×Option Nat))(W:List (Nat×Cell))(R:Reach)(p:Nat×Gh)(x:TV):Prop:=
 match p.2 with
 |.no=>p.1<nt/\Rep R w x (τ p.1)
 |.dB _=>p.1<nt/\x=.pt/\((∃j,S p.1=(.pt,.dB j))\/∃t,S p.1=(.nl t,.no))
 |.ptr m o=>p.1<nt/\x=.pt/\S p.1=(.pt,.ptr m o)
 |.cl ts=>nt<=p.1/\∃cs us b ys e zs,S p.1=(.ag cs,.cl us)/\τ p.1=.pointer (Bm ⟨b,0,Kk⟩)/\w.heap[b]?=Bm (.cells ⟨ys⟩ e (0,0))/\x=.ag zs/\dn R w zs ys/\dn R w cs ys/\(∀t∈us,ys[t.1]?=Bm (τ t.2))/\∀t∈ts,(nL t.1 us).isSome=Qf\/∃y,cs[t.1]?=Bm (.nl y)
 |.pv=>nt<=p.1/\((∃j,lh ρ p.1=Bm j/\S j=(x,.pv))\/(lh ρ p.1=Kk/\∃t,x=.sl t []))
 |.lv=>nt<=p.1/\((∃j,lh ρ p.1=Bm j/\(S j=(x,.lv)\/(S j=(x,.pv)/\(j,(x,.lv))∈W)))\/(lh ρ p.1=Kk/\∃t,x=.sl t []))
 |_=>False
theorem Fact.mono{W W':List (Nat×Cell)}{p:Nat×Gh}{x:TV}(h:Fact nt w τ S ρ W R p x)(k:eH R w R' w)(hw:∀q∈W,q∈W'):Fact nt w τ S ρ W' R' p x:=by unfold Fact at h⊢;split at h;{exact⟨h.1,h.2.mono k⟩};{exact h};{exact h};{obtain⟨h0,cs,us,b,ys,e,zs,h1,h2,h3,h4,h5,h6,h7,h8⟩:=h;exact⟨h0,cs,us,b,ys,e,zs,h1,h2,h3,h4,h5.mono k,h6.mono k,h7,h8⟩};{exact h};{refine⟨h.1,h.2.imp (λ⟨j,a,b⟩=>⟨j,a,b.imp id λ⟨c,d⟩=>⟨c,hw _ d⟩⟩) id⟩};{exact h.elim}
def UG(nt:Nat)(ws:List (Nat×Cell)):Prop:=∀p∈ws,p.2.2=.lv
theorem Gu{V:St}{c:Cell}{x:TV}{ws:List (Nat×Cell)}(h:HV V c=Bm (x,ws)):UG nt ws:=by intro p hp;unfold HV at h;split at h;{split at h;{cases h;simp only[List.mem_singleton]at hp;subst hp;rfl};{cases h;cases hp};{obtain⟨_,h⟩:=bG.1 h;cases h;cases hp};{cases h}};{cases h;cases hp};{cases h}
theorem uS{V:St}{o n:Nat}:∀{ts:List (Nat×Nat)}{cs ds:List TV}{ws:List (Nat×Cell)},pH V o n ts cs=Bm (ds,ws)->UG nt ws
 |[],_,_,_,h=>by cases h;intro p hp;cases hp
 |(c,k)::ts,cs,ds,ws,h=>by
  simp only[pH]at h;split at h
  ·rename_i Cz Fa h1;cases hb:(Nat.ble o c&&Nat.blt c (o+n))with
   |true=>rw[hb,aj]at h;split at h;{rename_i h2;cases h;intro p hp;rcases List.mem_append.1 hp with hp|hp;{exact Gu (nt:=nt) h2 p hp};{exact uS h1 p hp}};{cases h}
   |false=>rw[hb,ae]at h;cases h;exact uS h1
  {cases h}
theorem Tg{V:St}{c:Cell}{x:TV}{ws:List (Nat×Cell)}(h:Cl V c=Bm (x,ws)):UG nt ws:=by unfold Cl at h;split at h;{split at h;{rename_i hf;cases h;exact uS hf};{cases h}};{exact Gu h}
theorem N7(h:Core nt R w dz τ S1)(hV:Lq S S1)(hS:∀k,k<nt->dP R w τ (S k).1 (S k).2 (τ k)/\∀m∈(S k).2.cQ,nt<=m)(hj:∀k j,lh ρ k=Bm j->nt<=k->nt<=j){p:Nat×Gh}{x:TV}{ws:List (Nat×Cell)}(he:C3 nt S G ρ p=Bm (x,ws)):∃R',Core nt R' w dz τ (eY S1 ws)/\Fz dz R w R'/\Fact nt w τ S ρ ws R' p x/\Lq S (eY S1 ws)/\UG nt ws:=by
 obtain⟨k,g⟩:=p;have Sd:UG nt []:=λp hp=>by{cases hp};unfold C3 at he;unfold Fact;simp only at he⊢;(cases g<;>simp only at he⊢<;>try(cases he;done));case no=>
  obtain⟨h1,h2⟩:=bG.1 he
  have hk:k<nt:=Nat.le_of_ble_eq_true h1
  obtain⟨a,b⟩:=hS k hk
  obtain⟨R',k1,k2,k3,k4⟩:=Ck h hV a b h2
  exact⟨R',k1,k2,⟨hk,k3⟩,k4,Tg h2⟩
 case dB i=>
  obtain⟨h1,h2⟩:=bG.1 he
  have hk:k<nt:=Nat.le_of_ble_eq_true h1
  split at h2<;>cases h2
  {exact⟨R,h,Fz.refl _ _ _,⟨hk,rfl,.inl ⟨_,by assumption⟩⟩,hV,Sd⟩}
  {exact⟨R,h,Fz.refl _ _ _,⟨hk,rfl,.inr ⟨_,by assumption⟩⟩,hV,Sd⟩}
 case ptr m o=>
  obtain⟨h1,h2⟩:=bG.1 he
  have hk:k<nt:=Nat.le_of_ble_eq_true h1
  split at h2
  {rename_i e;obtain⟨h3,h4⟩:=bG.1 h2;cases h4;simp only[ah]at h3;rw[az h3.1,az h3.2]at e;exact⟨R,h,Fz.refl _ _ _,⟨hk,rfl,e⟩,hV,Sd⟩}
  {cases h2}
 case cl ts=>
  obtain⟨h1,h2⟩:=bG.1 he
  have hk:nt<=k:=Nat.le_of_ble_eq_true h1
  split at h2
  {rename_i cs us e;obtain⟨h3,h4⟩:=bG.1 h2;split at h4;{rename_i Cz Fa hf;cases h4;have e1:S1 k=(.ag cs,.cl us):=by{rcases hV k with e'|e'|⟨e',_⟩;{rw[<-e',e]};{rw[e]at e';cases e'};{rw[e]at e';cases e'}};have hK:=h.key k;rw[e1]at hK;obtain⟨b,ys,el,xs,a1,a2,a3,a4,a5,a6⟩:=hK;cases a3;obtain⟨R',f1,f2,f3,f4,_⟩:=oY h hV a4 (λt ht=>⟨by have:=h.inv k t.2;rw[e1]at this;exact(this (List.mem_map_of_mem (f:=(·.2)) (uT ht))).1,a5 t (uT ht)⟩) hf;refine⟨R',f1,f2,⟨hk,cs,us,b,ys,el,_,e,a1,a2,rfl,dn.Ao (qa f3),a4.mono f2.1,a5,λt ht=>?_⟩,f4,uS hf⟩;have:=aI.1 h3 t ht;rcases Bool.or_eq_true _ _▸this with h|h;{exact .inl h};{right;unfold Vq at h;split at h;{exact⟨_,by assumption⟩};{cases h}}};{cases h4}}
  {cases h2}
 case pv=>
  obtain⟨h1,h2⟩:=bG.1 he
  have hk:nt<=k:=Nat.le_of_ble_eq_true h1
  split at h2
  {rename_i j wK;split at h2<;>cases h2;exact⟨R,h,Fz.refl _ _ _,⟨hk,.inl ⟨j,wK,by assumption⟩⟩,hV,Sd⟩}
  {rename_i wK;rw[aO]at h2;obtain⟨t,_,h2⟩:=h2;cases h2;exact⟨R,h,Fz.refl _ _ _,⟨hk,.inr ⟨wK,t,rfl⟩⟩,hV,Sd⟩}
 case lv=>
  obtain⟨h1,h2⟩:=bG.1 he
  have hk:nt<=k:=Nat.le_of_ble_eq_true h1
  split at h2
  {rename_i j wK;have hnj:=hj k j wK hk;split at h2<;>cases h2;{rename_i e;have hf:HV S (.pt,.dB j)=Bm (x,[(j,(x,.lv))]):=by{simp only[HV,e]};obtain⟨R',k1,k2,_,k4,_,_⟩:=Gt h hV hnj hf;exact⟨R',k1,k2,⟨hk,.inl ⟨j,wK,.inr ⟨e,List.mem_singleton.2 rfl⟩⟩⟩,k4,Gu hf⟩};{exact⟨R,h,Fz.refl _ _ _,⟨hk,.inl ⟨j,wK,.inl (by assumption)⟩⟩,hV,Sd⟩}}
  {rename_i wK;rw[aO]at h2;obtain⟨t,_,h2⟩:=h2;cases h2;exact⟨R,h,Fz.refl _ _ _,⟨hk,.inr ⟨wK,t,rfl⟩⟩,hV,Sd⟩}
theorem C0(V5:Core nt R w dz τ S)(hj:∀k j,lh ρ k=Bm j->nt<=k->nt<=j):∀{l:GL}{xs:List TV}{ws:List (Nat×Cell)},wz nt S G ρ l=Bm (xs,ws)->
  ∃R',Core nt R' w dz τ (eY S ws)/\Fz dz R w R'/\xs.length=l.length/\(∀(i:Nat)(p:Nat×Gh)(x:TV),l[i]?=Bm p->xs[i]?=Bm x->Fact nt w τ S ρ ws R' p x)/\Lq S (eY S ws)/\UG nt ws
 |[],_,_,h=>by cases h;exact⟨R,V5,Fz.refl _ _ _,rfl,by simp,(λk=>.inl rfl),λp hp=>by cases hp⟩
 |p::l,xs,ws,h=>by
  simp only[wz]at h;split at h
  ·rename_i x Fa h1;split at h
   ·rename_i NB us h2;cases h;obtain⟨R1,k1,k2,k3,k4,k5,k6⟩:=C0 V5 hj h2;obtain⟨R2,m1,m2,m3,m4,m5⟩:=N7 k1 k5 (λk hk=>by have hs:=V5.slt k hk;have hK:=V5.key k;rw[kt.slot hs]at hK;exact⟨hK.dr k2.1 λ_ _=>rfl,λm hm=>(V5.inv k m hm).1⟩) hj h1;rw[iY];refine⟨R2,m1,k2.trans m2,by simp[k3],λi p' x' hi hx=>?_,m4,λq hq=>?_⟩
    ·cases i with
     |zero=>cases hi;cases hx;exact m3.mono (eH.refl _ _) λq hq=>List.mem_append_left _ hq
     |succ i=>exact(k4 i p' x' (by simpa using hi) (by simpa using hx)).mono m2.1 λq hq=>List.mem_append_right _ hq
    {rcases List.mem_append.1 hq with hq|hq;{exact m5 q hq};{exact k6 q hq}}
   {cases h}
  {cases h}
theorem An:∀{ws:List (Nat×Cell)}{S:St}{k:Nat}{c:Cell},(k,c)∈ws->∃p∈ws,p.1=k/\eY S ws k=p.2
 |(j,x)::ws,S,k,c,h=>by simp only[eY];by_cases e:k=j;{subst e;exact⟨_,List.mem_cons_self ..,rfl,by rw[bR]⟩};{rw[cO _ _ e];rcases aS.1 h with h|h;{cases h;exact(e rfl).elim};{obtain⟨p,h1,h2,h3⟩:=An h (S:=S);exact⟨p,List.mem_cons_of_mem _ h1,h2,h3⟩}}
def nE(nt:Nat)(τ:Nat->Value)(ρ:List (Nat×Option Nat))(k:Nat):Value:=if k<nt then τ k else match lh ρ k with|some j=>τ j|none=>.slice Kk 0 0
end
theorem vM{k:Nat}{r:Option Nat}:∀{ρ:List (Nat×Option Nat)},rU k ρ=Bm r->(k,r)∈ρ
 |(i,j)::ρ,h=>by
  simp only[rU]at h;cases hb:Nat.beq i k with
  |true=>rw[hb]at h;cases h;rw[az hb];exact List.mem_cons_self ..
  |false=>rw[hb]at h;exact List.mem_cons_of_mem _ (vM h)
theorem Dt{S:St}{k i:Nat}:∀{G:GL},(k,.dB i)∈G->(∀j,S k=(.pt,.dB j)->(i,Bm j)∈rJ S G)/\∀t,S k=(.nl t,.no)->(i,Kk)∈rJ S G
 |(k',g)::G,h=>by rcases aS.1 h with h|h;{cases h;refine⟨λj hj=>?_,λt hj=>?_⟩<;>simp only[rJ,hj]<;>exact List.mem_append_left _ (List.mem_singleton.2 rfl)};{obtain⟨h1,h2⟩:=Dt h (S:=S);cases g<;>first|exact⟨λj hj=>List.mem_append_right _ (h1 j hj),λt hj=>List.mem_append_right _ (h2 t hj)⟩|exact⟨h1,h2⟩}
theorem He{S:St}{m:Nat}{ts us:List (Nat×Nat)}{cs:List TV}(hm:S m=(.ag cs,.cl us)):∀{G:GL},(m,.cl ts)∈G->∀t∈ts,(∀j,nL t.1 us=Bm j->(t.2,Bm j)∈rJ S G)/\(nL t.1 us=Kk->∀y,cs[t.1]?=Bm (.nl y)->(t.2,Kk)∈rJ S G)
 |(k',g)::G,h,t,ht=>by rcases aS.1 h with h|h;{cases h;refine⟨λj hj=>?_,λhj y hy=>?_⟩<;>simp only[rJ,hm]<;>refine List.mem_append_left _ (List.mem_filterMap.2 ⟨t,ht,?_⟩);{simp only[hj]};{simp only[hj,hy]}};{obtain⟨h1,h2⟩:=He hm h t ht;cases g<;>first|exact⟨λj hj=>List.mem_append_right _ (h1 j hj),λa b c=>List.mem_append_right _ (h2 a b c)⟩|exact⟨h1,h2⟩}
theorem uA{S:St}{i j:Nat}:∀{G:GL},(i,Bm j)∈rJ S G->∃q,j∈(S q).2.cQ
 |(k',g)::G,h=>by(cases g<;>first|exact uA (G:=G) h|skip);{simp only[rJ]at h;rcases List.mem_append.1 h with h|h;{refine⟨k',?_⟩;split at h;{rename_i e;simp only[List.mem_singleton,Prod.mk.injEq,aN]at h;rw[e,h.2];exact List.mem_singleton.2 rfl};{simp at h};{cases h}};{exact uA h}};{rename_i ts;simp only[rJ]at h;rcases List.mem_append.1 h with h|h;{refine⟨k',?_⟩;split at h;{rename_i cs us e;obtain⟨t,_,ht⟩:=List.mem_filterMap.1 h;split at ht;{rename_i hf;simp only[aN,Prod.mk.injEq]at ht;rw[e,<-ht.2];exact bo.2 ⟨_,nu hf,rfl⟩};{simp at ht};{cases ht}};{cases h}};{exact uA h}}
theorem EF{A:Type}{f:A->Option Nat}:∀{l:List A}{i j k:Nat}{x y:A},o8 (l.filterMap f)=Qf->l[i]?=Bm x->f x=Bm k->l[j]?=Bm y->f y=Bm k->i=j
 |a::l,0,0,_,_,_,_,_,_,_,_=>rfl
 |a::l,0,j+1,k,x,y,hd,h1,h2,h3,h4=>by have e:a=x:=by{simpa using h1};subst e;rw[List.filterMap_cons,h2]at hd;simp only[o8,ah,aI]at hd;have:=hd.1 k (List.mem_filterMap.2 ⟨y,aP (by simpa using h3),h4⟩);simp at this
 |a::l,i+1,0,k,x,y,hd,h1,h2,h3,h4=>by have e:a=y:=by{simpa using h3};subst e;rw[List.filterMap_cons,h4]at hd;simp only[o8,ah,aI]at hd;have:=hd.1 k (List.mem_filterMap.2 ⟨x,aP (by simpa using h1),h2⟩);simp at this
 |a::l,i+1,j+1,k,x,y,hd,h1,h2,h3,h4=>by have zU:o8 (l.filterMap f)=Qf:=by{rw[List.filterMap_cons]at hd;split at hd;{exact hd};{simp only[o8,ah]at hd;exact hd.2}};exact congrArg (· +1) (EF zU (by simpa using h1) h2 (by simpa using h3) h4)
 |[],_,_,_,_,_,_,h,_,_,_=>by simp at h
section
variable{C:Ctx}{S:St}{a:Act}{w:World}{R:Reach}{τ:Nat->Value}{G:GL}{xs:List TV}
theorem II(h:eI C S a w R τ)(he:vB C.nt G S=Bm xs):∃R',eI C (fE G xs) a w R' (nE C.nt τ (rJ S G))/\eH R w R' w:=by
 unfold vB at he;split at he
 ·rename_i NB ws hv;obtain⟨AW,he⟩:=bG.1 he;cases he;generalize Sx:rJ S G=ρ at*;simp only[WV,ah]at AW;obtain⟨⟨⟨⟨o1,o2⟩,o3⟩,o4⟩,o5⟩:=AW;have cons:∀i r,(i,r)∈ρ->rU i ρ=Bm r/\(i<1000000\/r=Bm i)/\C.nt<=i:=λi r hi=>by{have:=aI.1 o2 (i,r) hi;simp only[ah,Bool.or_eq_true,aC]at this;exact⟨this.1.1,this.1.2.imp (λh=>Nat.le_of_ble_eq_true h) id,Nat.le_of_ble_eq_true this.2⟩};have Zx:∀k j,lh ρ k=Bm j->C.nt<=k->C.nt<=j:=λk j hk hn=>by
   unfold lh at hk;cases hl:rU k ρ with
   |none=>rw[hl]at hk;cases hk;exact hn
   |some r=>rw[hl]at hk;simp only[Option.getD_some]at hk;subst hk;have hm:=vM hl;rw[<-Sx]at hm;obtain⟨q,hq⟩:=uA hm;exact(h.core.inv q j hq).1
  obtain⟨R',k1,k2,k3,k4,k5,k6⟩:=C0 h.core Zx hv;refine⟨R',⟨h.size,h.defers,?_,λt ht=>?_,⟨h.io.1,λk hk=>?_⟩,h.ext.reach k2.1 k2.2,h.gl.dr k2.1⟩,k2.1⟩
  ·have len:xs.length=G.length:=k3;have WR:∀i r,(i,r)∈ρ->nE C.nt τ ρ i=match r with|some j=>τ j|none=>.slice Kk 0 0:=λi r hi=>by obtain⟨c1,_,c2⟩:=cons i r hi;unfold nE lh;rw[ak (by omega),c1];cases r<;>rfl
   have Y2:∀k,C.nt<=k->rU k ρ=Kk->nE C.nt τ ρ k=τ k:=λk hk hl=>by{unfold nE lh;rw[ak (by omega),hl];rfl};have K1:∀k,k<C.nt->nE C.nt τ ρ k=τ k:=λk hk=>by{unfold nE;rw[ar hk]};have WS:∀k j,C.nt<=k->lh ρ k=Bm j->nE C.nt τ ρ k=τ j:=λk j hk hj=>by{unfold nE;rw[ak (by omega),hj]};have OA:∀k,C.nt<=k->lh ρ k=Kk->nE C.nt τ ρ k=.slice Kk 0 0:=λk hk hj=>by{unfold nE;rw[ak (by omega),hj]};have WW:∀p∈G,_:=aI.1 o5;have WT:∀k j x,(k,.pv)∈G->lh ρ k=Bm j->S j=(x,.pv)->eY S ws j=(x,.pv):=λk j x hm hn hs=>by{have:=WW _ hm;simp only[hn]at this;rw[ix (CF this),hs]};have WY:∀j x,(S j=(x,.lv)\/(S j=(x,.pv)/\(j,(x,.lv))∈ws))->eY S ws j=(x,.lv):=λj x hs=>by{rcases hs with hs|⟨hs,hm⟩;{rcases k5 j with e|e|⟨e,_⟩;{rw[<-e,hs]};{rw[hs]at e;cases e};{rw[hs]at e;cases e}};{obtain⟨p,hp,_,AV⟩:=An (S:=S) hm;rcases k5 j with e|e|⟨_,e⟩;{have:=k6 p hp;rw[<-AV,<-e,hs]at this;cases this};{rw[hs]at e;cases e};{rw[e,hs]}}};have X7:∀k cs us,S k=(.ag cs,.cl us)->eY S ws k=(.ag cs,.cl us):=λk cs us hs=>by{rcases k5 k with e|e|⟨e,_⟩;{rw[<-e,hs]};{rw[hs]at e;cases e};{rw[hs]at e;cases e}};have key:∀k i g x,G[i]?=Bm (k,g)->xs[i]?=Bm x->kt R' w (nE C.nt τ ρ) x g (nE C.nt τ ρ k):=λk i g x hG hx=>by
    have hm:=aP hG;have hf:=k4 i (k,g) x hG hx;unfold Fact at hf;(cases g<;>simp only at hf<;>try(exact hf.elim));case no=>
     rw[K1 k hf.1];exact dP.no hf.2
    case dB i'=>
     obtain⟨hk,rfl,hf⟩:=hf
     have hK:=h.core.key k
     rw[K1 k hk]
     rw[kt.slot (h.core.slt k hk)]at hK
     obtain⟨n1,n2⟩:=Dt (S:=S) hm
     rw[Sx]at n1 n2
     rcases hf with⟨j,hj⟩|⟨t,hj⟩
     {rw[hj]at hK;exact⟨by rw[WR _ _ (n1 j hj)];exact hK.1,hK.2⟩}
     ·rw[hj]at hK;have hv:τ k=.slice Kk 0 0:=by
       have:Rep R w (.nl t) (τ k):=jH.rep hK;generalize τ k=v at*;cases this with
       |sc h=>cases h
       |nl=>rfl
      exact⟨by rw[WR _ _ (n2 t hj)];exact hv,by rw[hv];rfl⟩
    case ptr m o=>
     obtain⟨hk,rfl,hj⟩:=hf
     have hK:=h.core.key k
     rw[K1 k hk]
     rw[kt.slot (h.core.slt k hk),hj]at hK
     have hi:=h.core.inv k m (by rw[hj];exact List.mem_singleton.2 rfl)
     have hl:=WW _ hm
     simp only[Option.isNone_iff_eq_none]at hl
     obtain⟨b,b1,b2⟩:∃b,τ m=.pointer (Bm ⟨b,0,Kk⟩)/\τ k=.pointer (Bm ⟨b,o,Kk⟩):=hK
     exact⟨b,by rw[Y2 m hi.1 hl];exact b1,b2⟩
    case cl ts=>
     obtain⟨hk,cs,us,b,ys,e,zs,a1,a2,a3,rfl,a5,a6,a7,a8⟩:=hf
     have hl:=WW _ hm
     simp only[Option.isNone_iff_eq_none]at hl
     have hK:=k1.key k
     rw[X7 k cs us a1]at hK
     obtain⟨b',_,_,_,c1,_,_,_,_,c2⟩:=hK
     rw[a2]at c1;cases c1
     refine⟨b,ys,e,zs,by rw[Y2 k hk hl];exact a2,a3,rfl,a5,λt ht=>?_,c2⟩
     obtain⟨n1,n2⟩:=He a1 hm t ht
     rw[Sx]at n1 n2
     cases Up:nL t.1 us with
     |some j=>rw[WR _ _ (n1 j Up)];exact a7 _ (nu Up)
     |none=>
      obtain⟨y,hy⟩:=(a8 t ht).resolve_left (by rw[Up];simp);rw[WR _ _ (n2 Up y hy)];obtain⟨v,hv,_,hr⟩:=a6.get _ _ hy;rw[hv];cases hr with
      |sc h=>cases h
      |nl=>rfl
    case pv=>
     obtain⟨hk,⟨j,hj,hs⟩|⟨hj,t,rfl⟩⟩:=hf
     {have hK:=k1.key j;rw[WT k j x hm hj hs]at hK;rw[WS k j hk hj];exact hK}
     {rw[OA k hk hj];exact⟨t,[],rfl,.inl ⟨rfl,rfl⟩⟩}
    case lv=>
     obtain⟨hk,⟨j,hj,hs⟩|⟨hj,t,rfl⟩⟩:=hf
     {have hK:=k1.key j;rw[WY j x hs]at hK;rw[WS k j hk hj];exact hK}
     {rw[OA k hk hj];exact⟨t,[],rfl,.inl ⟨rfl,rfl⟩⟩}
   have owner:∀k g,fP (nE C.nt τ ρ) (fE G xs) k=Bm g->∃(i:Nat)(g0:Gh)(j:Nat),G[i]?=Bm (k,g0)/\g0.own=Qf/\lh ρ k=Bm j/\fP τ (eY S ws) j=Bm g/\(eY S ws j).2.HF=Qg:=λk g hb=>by
    obtain⟨ho,hb⟩:=ft hb;rcases oy (G:=G) (xs:=xs) k with e|⟨i,g0,x,hG,hx,e⟩;{rw[e]at ho;cases ho}
    ·rw[e]at ho;have hm:=aP hG;have hf:=k4 i (k,g0) x hG hx;unfold Fact at hf;(cases g0<;>simp only at hf<;>try(first|exact hf.elim|(cases ho;done)));case cl ts=>
      obtain⟨hk,cs,us,b,ys,e,zs,a1,a2,a3,rfl,a5,a6,a7,a8⟩:=hf
      have hl:=WW _ hm
      simp only[Option.isNone_iff_eq_none]at hl
      have hn:lh ρ k=Bm k:=by unfold lh;rw[hl];rfl
      rw[Y2 k hk hl]at hb
      exact⟨i,_,k,hG,rfl,hn,gC (by rw[X7 k cs us a1];rfl) (by rw[X7 k cs us a1];rfl) hb,by rw[X7 k cs us a1];rfl⟩
     case pv=>
      obtain⟨hk,⟨j,hj,hs⟩|⟨hj,t,rfl⟩⟩:=hf
      {rw[WS k j hk hj]at hb;exact⟨i,_,j,hG,rfl,hj,gC (by rw[WT k j x hm hj hs];rfl) (by rw[WT k j x hm hj hs];rfl) hb,by rw[WT k j x hm hj hs];rfl⟩}
      {rw[OA k hk hj]at hb;cases hb}
     case lv=>
      obtain⟨hk,⟨j,hj,hs⟩|⟨hj,t,rfl⟩⟩:=hf
      {rw[WS k j hk hj]at hb;exact⟨i,_,j,hG,rfl,hj,gC (by rw[WY j x hs];rfl) (by rw[WY j x hs];rfl) hb,by rw[WY j x hs];rfl⟩}
      {rw[OA k hk hj]at hb;cases hb}
   refine⟨λk=>?_,λk k' g hb lu=>?_,λk g hb=>?_,λj k hk=>?_,k1.th,λk hk=>?_,λk d hk=>?_⟩;{rcases oy (G:=G) (xs:=xs) k with e|⟨i,g,x,hG,hx,e⟩;{rw[e];exact dP.no (τ:=nE C.nt τ ρ) (.dead _)};{rw[e];exact key k i g x hG hx}};{obtain⟨i,g0,j,e1,e2,e3,e4,e5⟩:=owner k g hb;obtain⟨i',g0',j',f1,f2,f3,f4,f5⟩:=owner k' g lu;have:=k1.sR e4 f4;subst this;have:=EF o3 e1 (by simp only[e2,aj];exact e3) f1 (by simp only[f2,aj];exact f3);subst this;rw[e1]at f1;cases f1;rfl};{obtain⟨i,g0,j,e1,e2,e3,e4,e5⟩:=owner k g hb;exact k1.dz j g e4};{rcases oy (G:=G) (xs:=xs) j with e|⟨i,g,x,hG,hx,e⟩;{rw[e]at hk;cases hk};{rw[e]at hk;have:=aI.1 (aI.1 o4 _ (aP hG)) k hk;obtain⟨q,hq,QM⟩:=List.any_eq_true.1 this;simp only[ah]at QM;obtain⟨QM,ZA⟩:=QM;obtain⟨i',pG⟩:=List.mem_iff_getElem?.1 hq;have gS:i'<xs.length:=by{rw[len];exact(aG.1 pG).1};have B5:xs[i']?=Bm xs[i']:=au gS;have hqk:=az QM;obtain⟨q1,q2⟩:=q;simp only at hqk ZA;subst hqk;have hf:=k4 i' _ _ pG B5;refine⟨?_,?_⟩;{unfold Fact at hf;cases q2<;>simp only at hf<;>first|exact hf.1|exact hf.elim|cases ZA};{rw[uO o1 pG B5];intro e;simp only at e;subst e;cases ZA}}};{rcases oy (G:=G) (xs:=xs) k with e|⟨i,g,x,hG,hx,e⟩;{rw[e];rfl};{rw[e];have hf:=k4 i (k,g) x hG hx;unfold Fact at hf;cases g<;>simp only at hf<;>first|rfl|exact hf.elim|(exfalso;have:=hf.1;omega)}};{rcases oy (G:=G) (xs:=xs) k with e|⟨i,g,x,hG,hx,e⟩;{rw[e]at hk;cases hk};{rw[e]at hk;simp only at hk;subst hk;have hf:=k4 i _ x hG hx;exact hf.elim}}
  {unfold nE;rw[ar ht];exact h.tmps t ht}
  ·unfold nE;have:=h.io.1;rw[ak (by omega)];unfold lh;cases hl:rU k ρ with
   |none=>simp only[Option.getD_none];exact h.io.2 k hk
   |some r=>have:=(cons k r (vM hl)).2.1.resolve_left (by omega);subst this;simp only[Option.getD_some];exact h.io.2 k hk
 {cases he}
theorem yb:∀{l:List Nat}{S:St},eI C S a w R τ->eI C (Dv l S) a w R τ
 |[],_,h=>h
 |k::r,S,h=>by unfold Dv;split;{rename_i x d hk;exact yb (h.recover hk)};{exact yb h}
theorem rH(h:eI C S a w R τ)(he:j0 C.nt G S=Bm xs):∃R' τ',eI C (fE G xs) a w R' τ'/\eH R w R' w:=by obtain⟨R',h1,h2⟩:=II (yb h) he;exact⟨R',_,h1,h2⟩
end
end Go.Eng
namespace Go.Eng
section
variable{R:Type}(P:Program)(E:cz)(nt:Nat)
theorem Mz(c:Code):Ki (R:=R) P E nt c=My P E nt c:=by
 induction c with
 |seq a b Gi CM=>show KU nt (Ki P E nt a) (Ki P E nt b) (Ki P E nt b).1=KU nt (My P E nt a) (My P E nt b) (o0 P E nt b);rw[<-Gi,<-CM];rfl
 |cond x a b Gi CM=>show H7 E nt x (Ki P E nt a) (Ki P E nt b)=H7 E nt x (My P E nt a) (My P E nt b);rw[Gi,CM]
 |block id a ih=>show(fI λh S K=>(Ki P E nt a).1 h.s1 S (nW id K))=(fI λh S K=>(My P E nt a).1 h.s1 S (nW id K):zX R);rw[ih]
 |scope a ih=>show BB nt (Ki P E nt a) (Ki P E nt a).2=BB nt (My P E nt a) (wY P E nt a);rw[<-ih];rfl
 |_=>rfl
theorem HW(c:Code):o0 (R:=R) P E nt c=ev P E nt c:=by show(Ki P E nt c).1=(My P E nt c).1;rw[Mz]
end
section
variable{R:Type}{nt:Nat}
abbrev ve:=List (Option (MX×St))
def zY(l:ve)(K:MX×St->Option R)(r:R):Prop:=∀q∈l,∃p,q=Bm p/\K p=Bm r
def N9(K:fH R)(q:MX×St):Option R:=K q.1 q.2
def ot(g:fH R->Option R):Prop:=∃l:ve,∀(K:fH R)(r:R),g K=Bm r↔zY l (N9 K) r
theorem ot.nil{g:fH R->Option R}(h:∀K,g K=Kk):ot g:=⟨[Kk],λK r=>by rw[h];exact⟨λh=>(by cases h),λh=>(by obtain⟨p,e,_⟩:=h Kk (List.mem_singleton.2 rfl);cases e)⟩⟩
theorem ot.one{g:fH R->Option R}(e:MX)(S:St)(h:∀K,g K=K e S):ot g:=⟨[Bm (e,S)],λK r=>by rw[h];exact⟨λh q hq=>⟨_,List.mem_singleton.1 hq,h⟩,λh=>by obtain⟨p,e,h⟩:=h _ (List.mem_singleton.2 rfl);cases e;exact h⟩⟩
theorem wq{x y:Option R}{r:R}:both x y=Bm r↔x=Bm r/\y=Bm r:=by unfold both;split;{rename_i e;rw[<-e];simp};{rename_i e;simp only[reduceCtorEq,false_iff];rintro⟨rfl,rfl⟩;exact e rfl}
theorem JW(x:Option R):both x x=x:=by simp[both]
theorem ot.bind{l:ve}{g:fH R->Option R}{F:fH R->MX×St->Option R}(hF:∀q,ot λK=>F K q)(h:∀K r,g K=Bm r↔zY l (F K) r):ot g:=by
 have key:∀l:ve,∃l':ve,∀K r,zY l (F K) r↔zY l' (N9 K) r:=by
  intro l;induction l with
  |nil=>exact⟨[],λK r=>by simp[zY]⟩
  |cons q t ih=>
   obtain⟨lt,ht⟩:=ih;cases q with
   |none=>exact⟨[Kk],λK r=>⟨λh=>(by obtain⟨p,e,_⟩:=h Kk (List.mem_cons_self ..);cases e),λh=>(by obtain⟨p,e,_⟩:=h Kk (List.mem_singleton.2 rfl);cases e)⟩⟩
   |some q=>obtain⟨lq,hq⟩:=hF q;refine⟨lq++lt,λK r=>?_⟩;have h1:=hq K r;have h2:=ht K r;constructor;{intro ha x hx;rcases List.mem_append.1 hx with hx|hx;{obtain⟨p,e,hp⟩:=ha _ (List.mem_cons_self ..);cases e;exact h1.1 hp x hx};{exact h2.1 (λy hy=>ha y (List.mem_cons_of_mem _ hy)) x hx}};{intro ha x hx;rcases aS.1 hx with rfl|hx;{exact⟨q,rfl,h1.2 λy hy=>ha y (List.mem_append_left _ hy)⟩};{exact h2.2 (λy hy=>ha y (List.mem_append_right _ hy)) x hx}}
 obtain⟨l',hl⟩:=key l;exact⟨l',λK r=>(h K r).trans (hl K r)⟩
def Bn(f:St->fH R->Option R):Prop:=∀S,ot (f S)
theorem yv{g:Nat->Option R}(hm:∀n r,g n=Bm r->g (n+1)=Bm r){r:R}:Ze g=Bm r↔∃n,g n=Bm r:=by
 have up:∀n k r,g n=Bm r->g (n+k)=Bm r:=by
  intro n k;induction k with
  |zero=>exact λr h=>h
  |succ k ih=>exact λr h=>hm _ _ (ih r h)
 unfold Ze;constructor;{intro h;split at h;{rename_i hx;exact⟨_,h⟩};{cases h}};{rintro⟨n,hn⟩;have hx:∃n r,g n=Bm r:=⟨n,r,hn⟩;rw[dif_pos hx];obtain⟨r',J9⟩:=hx.choose_spec;rw[J9];have h1:=up _ n _ J9;have h2:=up _ hx.choose _ hn;rw[Nat.add_comm]at h2;rw[h1]at h2;exact h2}
section
variable{ι:Type}{f:ι->fH R->Option R}{tr:MX->St->Option (Option ι)}
def uE(tr:MX->St->Option (Option ι))(g:ι->Option R)(K:fH R)(q:MX×St):Option R:=
 match tr q.1 q.2 with
 |none=>K q.1 q.2
 |some Kk=>Kk
 |some (Bm j)=>g j
theorem tI{g g':ι->Option R}{K:fH R}{q:MX×St}{r:R}(h:∀j,g j=Bm r->g' j=Bm r)(e:uE tr g K q=Bm r):uE tr g' K q=Bm r:=by unfold uE at e⊢;split at e;{exact e};{cases e};{exact h _ e}
theorem xt{K:fH R}{i:ι}{l:ve}(hp:∀(K:fH R)r,f i K=Bm r↔zY l (N9 K) r)(n:Nat)(r:R):oX f tr (n+1) i K=Bm r↔zY l (uE tr (λj=>oX f tr n j K) K) r:=by rw[oX,hp];rfl
theorem qj(hf:∀i,ot (f i)){K:fH R}:∀(n:Nat)(i:ι)(r:R),oX f tr n i K=Bm r->oX f tr (n+1) i K=Bm r
 |0,_,_,h=>by cases h
 |n+1,i,r,h=>by obtain⟨l,hp⟩:=hf i;rw[xt hp]at h⊢;intro q hq;obtain⟨p,e,h1⟩:=h q hq;exact⟨p,e,tI (λj hj=>qj hf n j r hj) h1⟩
theorem xr(hf:∀i,ot (f i)){K:fH R}{n:Nat}{i:ι}{r:R}(h:oX f tr n i K=Bm r):∀m,oX f tr (n+m) i K=Bm r
 |0=>h
 |m+1=>qj hf _ i r (xr hf h m)
theorem oz(hf:∀i,ot (f i))(i:ι)(K:fH R)(r:R):Jz f tr i K=Bm r↔∃n,oX f tr n i K=Bm r:=yv λn r=>qj hf n i r
theorem OM{x y:Option R}(h:∀r,x=Bm r↔y=Bm r):x=y:=by
 cases x with
 |none=>cases y with|none=>rfl|some b=>exact absurd ((h b).2 rfl) (by simp)
 |some a=>exact((h a).1 rfl).symm
theorem AX(hf:∀i,ot (f i)){K:fH R}{q:MX×St}{r:R}:N9 (yW f tr K) q=Bm r↔∃n,uE tr (λj=>oX f tr n j K) K q=Bm r:=by
 unfold N9 yW uE;cases tr q.1 q.2 with
 |none=>exact⟨λh=>⟨0,h⟩,λ⟨_,h⟩=>h⟩
 |some j=>cases j with
  |none=>exact⟨λh=>(by cases h),λ⟨_,h⟩=>(by cases h)⟩
  |some j=>exact oz hf j K r
theorem HU(hf:∀i,ot (f i))(i:ι)(K:fH R):Jz f tr i K=f i (yW f tr K):=by
 obtain⟨l,hp⟩:=hf i;refine OM λr=>?_;rw[oz hf,hp];constructor
 ·rintro⟨n,hn⟩ q hq;cases n with
  |zero=>cases hn
  |succ n=>obtain⟨p,e,h1⟩:=(xt hp n r).1 hn q hq;exact⟨p,e,(AX hf).2 ⟨n,h1⟩⟩
 ·intro h;have key:∀l:ve,(∀q∈l,∃p,q=Bm p/\N9 (yW f tr K) p=Bm r)->∃n,zY l (uE tr (λj=>oX f tr n j K) K) r:=by
   intro l;induction l with
   |nil=>exact λ_=>⟨0,λq hq=>by cases hq⟩
   |cons q t ih=>intro h;obtain⟨n,hn⟩:=ih λx hx=>h x (List.mem_cons_of_mem _ hx);obtain⟨p,e,h1⟩:=h q (List.mem_cons_self ..);obtain⟨m,hm⟩:=(AX hf).1 h1;refine⟨n+m,λx hx=>?_⟩;rcases aS.1 hx with rfl|hx;{exact⟨p,e,tI (λj hj=>by rw[Nat.add_comm];exact xr hf hj n) hm⟩};{obtain⟨p',e',h2⟩:=hn x hx;exact⟨p',e',tI (λj hj=>xr hf hj m) h2⟩}
  obtain⟨n,hn⟩:=key l h;exact⟨n+1,(xt hp n r).2 hn⟩
def nI(L:ι->ve)(tr:MX->St->Option (Option ι)):Nat->ι->ve
 |0,_=>[Kk]
 |n+1,i=>(L i).flatMap λq=>match q with|none=>[Kk]|some p=>match tr p.1 p.2 with|none=>[Bm p]|some Kk=>[Kk]|some (Bm j)=>nI L tr n j
theorem Eo(hf:∀i,ot (f i))(i:ι):ot (Jz f tr i):=by
 let L:=λi=>(hf i).choose;have hL:∀i(K:fH R)r,f i K=Bm r↔zY (L i) (N9 K) r:=λi=>(hf i).choose_spec;have hI:∀n i(K:fH R)r,oX f tr n i K=Bm r↔zY (nI L tr n i) (N9 K) r:=by
  intro n;induction n with
  |zero=>exact λi K r=>⟨λh=>(by cases h),λh=>by obtain⟨p,e,_⟩:=h Kk (List.mem_singleton.2 rfl);cases e⟩
  |succ n ih=>
   intro i K r;rw[xt (hL i)];constructor
   ·intro h q hq;obtain⟨x,hx,hq⟩:=List.mem_flatMap.1 hq;obtain⟨p,rfl,h1⟩:=h x hx;simp only at hq;unfold uE at h1;cases e:tr p.1 p.2 with
    |none=>rw[e]at h1 hq;exact⟨p,List.mem_singleton.1 hq,h1⟩
    |some j=>cases j with
     |none=>rw[e]at h1;cases h1
     |some j=>rw[e]at h1 hq;exact(ih j K r).1 h1 q hq
   ·intro h x hx;have sub:∀q,q∈(match x with
      |none=>[Kk]
      |some p=>match tr p.1 p.2 with
       |none=>[Bm p]
       |some Kk=>[Kk]
       |some (Bm j)=>nI L tr n j:ve)->∃p,q=Bm p/\N9 K p=Bm r:=λq hq=>h q (List.mem_flatMap.2 ⟨x,hx,hq⟩)
    cases x with
    |none=>obtain⟨p,e,_⟩:=sub Kk (List.mem_singleton.2 rfl);cases e
    |some p=>
     refine⟨p,rfl,?_⟩;simp only at sub;unfold uE;cases e:tr p.1 p.2 with
     |none=>rw[e]at sub;obtain⟨p',e',h1⟩:=sub _ (List.mem_singleton.2 rfl);cases e';exact h1
     |some j=>cases j with
      |none=>rw[e]at sub;obtain⟨p',e',_⟩:=sub _ (List.mem_singleton.2 rfl);cases e'
      |some j=>rw[e]at sub;exact(ih j K r).2 sub
 have stay:∀n i,Kk∉nI L tr n i->nI L tr (n+1) i=nI L tr n i:=by
  intro n;induction n with
  |zero=>intro i h;exact absurd (List.mem_singleton.2 rfl) h
  |succ n ih=>
   intro i h;rw[nI,nI];rw[nI]at h;have:∀l:ve,Kk∉(l.flatMap λq=>match q with
     |none=>[Kk]
     |some p=>match tr p.1 p.2 with|none=>[Bm p]|some Kk=>[Kk]|some (Bm j)=>nI L tr n j:ve)->(l.flatMap λq=>match q with
     |none=>[Kk]
     |some p=>match tr p.1 p.2 with|none=>[Bm p]|some Kk=>[Kk]|some (Bm j)=>nI L tr (n+1) j:ve)=(l.flatMap λq=>match q with
     |none=>[Kk]
     |some p=>match tr p.1 p.2 with
      |none=>[Bm p]
      |some Kk=>[Kk]
      |some (Bm j)=>nI L tr n j:ve):=by
    intro l
    induction l with
    |nil=>exact λ_=>rfl
    |cons q t iht=>intro h;rw[List.flatMap_cons,List.mem_append]at h;rw[List.flatMap_cons,List.flatMap_cons,iht λhx=>h (.inr hx)];congr 1;split;{rfl};{rename_i p;simp only at h;split;{rfl};{rfl};{rename_i j e;rw[e]at h;exact ih j λhx=>h (.inl hx)}}
   exact this _ h
 by_cases hx:∃n,Kk∉nI L tr n i
 ·obtain⟨n,hn⟩:=hx;have ups:∀m,nI L tr (n+m) i=nI L tr n i:=by
   intro m;induction m with
   |zero=>rfl
   |succ m ih=>rw[<-ih];exact stay (n+m) i (by rw[ih];exact hn)
  refine⟨nI L tr n i,λK r=>?_⟩;rw[oz hf,<-hI];refine⟨λ⟨m,hm⟩=>?_,λh=>⟨n,h⟩⟩;have h1:=xr hf hm n;rw[Nat.add_comm,hI,ups,<-hI]at h1;exact h1
 {refine⟨[Kk],λK r=>?_⟩;rw[oz hf];refine⟨λ⟨n,hn⟩=>?_,λh=>by obtain⟨p,e,_⟩:=h Kk (List.mem_singleton.2 rfl);cases e⟩;have:Kk∈nI L tr n i:=Classical.byContradiction λh=>hx ⟨n,h⟩;obtain⟨p,e,_⟩:=(hI n i K r).1 hn Kk this;cases e}
end
theorem xC{f:St->fH R->Option R}(hf:Bn f)(G:GL):∀xs,ot (TU f G xs):=λxs=>hf (fE G xs)
theorem Lv{f:St->fH R->Option R}(hf:Bn f)(G:GL)(xs:List TV)(K:fH R):Hv nt f G xs K=f (fE G xs) (zw nt f G K):=HU (xC hf G) xs K
theorem I7{f:St->fH R->Option R}(hf:Bn f)(G:GL):Bn (yr nt f G):=λS=>by
 unfold yr;cases j0 nt G S with
 |none=>exact .nil λK=>rfl
 |some xs=>exact Eo (xC hf G) xs
theorem xB{f:Nat->Option (Ev R)}(hf:∀l g,f l=Bm g->∀h,Bn (g h))(ls:List (Nat×GL))(a:Hint)(i:Nat×List TV):ot (J0 f ls a i):=by
 cases e1:f i.1 with
 |none=>exact .nil λK=>by simp only[J0,e1]
 |some g=>
  cases e2:yt i.1 ls with
  |none=>exact .nil λK=>by simp only[J0,e1,e2]
  |some G=>obtain⟨p,hp⟩:=hf _ g e1 a (fE G i.2);exact⟨p,λK r=>by simp only[J0,e1,e2];exact hp K r⟩
theorem IC{f:Nat->Option (Ev R)}(hf:∀l g,f l=Bm g->∀h,Bn (g h))(ls:List (Nat×GL))(a:Hint)(i:Nat×List TV)(K:fH R):FJ nt f ls a i K=J0 f ls a i (nk nt f ls a K):=HU (xB hf ls a) i K
theorem ot.then{g g':fH R->Option R}(hf:ot g)(F:fH R->fH R)(h:∀K,g' K=g (F K))(hF:∀e S,ot λK=>F K e S):ot g':=by obtain⟨l,hl⟩:=hf;exact ot.bind (F:=λK q=>F K q.1 q.2) (λq=>hF q.1 q.2) λK r=>by rw[h];exact hl (F K) r
theorem FL {f:Ev R} {o:Nat→Option (Ev R)} (hf:∀h,Bn (f h)) (ho:∀l g,o l=Bm g→∀h,Bn (g h)) (ls:List (Nat × GL)) (a:Hint):Bn fun S K=>f a S (nk nt o ls a K):=fun S =>
 (hf a S).then _ (fun K=>rfl) fun e S'=>by
  cases ht:Ip nt ls e S' with
  | none=>exact .one e S' fun K=>by simp only [nk,yW,ht]
  | some j =>
   cases j with
   | none=>exact .nil fun K=>by simp only [nk,yW,ht]
   | some j =>
    obtain ⟨p',SL⟩:=Eo (xB ho ls a) (tr:=Ip nt ls) j
    exact ⟨p',fun K r=>by simp only [nk,yW,ht];exact SL K r⟩
theorem Dm {f g:St→fH R→Option R} (hf:Bn f) (hg:Bn g):Bn fun S K=>f S (IB g K):=fun S =>
 (hf S).then _ (fun K=>rfl) fun e S'=>by
  cases e with
  | normal=>exact hg S'
  | _=>exact .one _ S' fun K=>rfl
theorem AH {f g:St→fH R→Option R} (hf:Bn f) (hg:Bn g) (G:GL):Bn fun S K=>f S (wI nt g G K):=fun S =>
 (hf S).then _ (fun K=>rfl) fun e S'=>by
  cases e with
  | normal =>
   cases hr:j0 nt G S' with
   | none=>exact .nil fun K=>by simp only [wI,hr]
   | some xs =>
    obtain ⟨p,hp⟩:=hg (fE G xs)
    exact ⟨p,fun K r=>by simp only [wI,hr];exact hp K r⟩
  | _=>exact .one _ S' fun K=>rfl
theorem GM {f:St→fH R→Option R} (hf:Bn f) (id:Nat):Bn fun S K=>f S (nW id K):=fun S =>
 (hf S).then _ (fun K=>rfl) fun e S'=>by
  cases e with
  | exit j =>
   cases hb:Nat.beq j id with
   | true=>exact .one .normal S' fun K=>by simp only [nW,hb]
   | false=>exact .one (.exit j) S' fun K=>by simp only [nW,hb]
  | _=>exact .one _ S' fun K=>rfl
variable(P:Program)(E:cz)
theorem xz{X:Type}{p:Option Bool}{f:(X->Option R)->Option R}(h:∃q:Option X,∀K,f K=q.bind K):∃q:Option X,∀K,NR p (f K)=q.bind K:=by
 obtain⟨q,hq⟩:=h;cases p with
 |none=>exact⟨q,hq⟩
 |some b=>cases b with|true=>exact⟨q,hq⟩|false=>exact⟨Kk,λK=>rfl⟩
theorem rG(ops:Array Oper):∀(os:List Oper)(S:St),∃p:Option St,∀K:St->Option R,FP P E nt ops os S K=p.bind K
 |[],S=>⟨Bm S,λK=>rfl⟩
 |o::os,S=>by
  show∃p:Option St,∀K:St->Option R,(match po P E nt ops o S with|some e=>CZ (vu E nt ops o S) o.dst e S (λS=>FP P E nt ops os S K)|none=>Kk)=p.bind K;cases po P E nt ops o S with
  |none=>exact⟨Kk,λK=>rfl⟩
  |some e=>
   cases vu E nt ops o S with
   |none=>exact xz (rG ops os _)
   |some c=>
    simp only[CZ];cases e.ws.isEmpty with
    |true=>exact xz (rG ops os _)
    |false=>
    cases c with
    |true=>exact xz (rG ops os _)
    |false=>
     cases o.dst with
     |none=>exact⟨Kk,λK=>rfl⟩
     |some d=>exact rG ops os _
theorem Dq(ops:Array Oper)(W B:List (List Nat)):∀(os:List Oper)(i:Nat)(S:St),∃p:Option St,∀K:St->Option R,IG P E nt ops W B i os S K=p.bind K
 |[],_,S=>⟨Bm S,λK=>rfl⟩
 |o::os,i,S=>by
  show∃p:Option St,∀K:St->Option R,(match po P E nt ops o (tm (vH W B i) S)with|some e=>dK (nP (mO o.dst e=W.getD i [])&&(vH W B i).all λk=>!((W.getD i []).contains k)) (NR e.p (IG P E nt ops W B (i+1) os (iU S o.dst e) K))|none=>Kk)=p.bind K;cases po P E nt ops o (tm (vH W B i) S)with
  |none=>exact⟨Kk,λK=>rfl⟩
  |some e=>
   simp only;generalize(nP (mO o.dst e=W.getD i [])&&(vH W B i).all λk=>!((W.getD i []).contains k))=b;cases b with
   |false=>exact⟨Kk,λK=>rfl⟩
   |true=>exact xz (Dq ops W B os (i+1) _)
theorem Dp(ops:Array Oper)(draw:Bool)(S:St):∃p:Option St,∀K:St->Option R,BD P E nt ops draw S K=p.bind K:=by
 cases draw with
 |false=>exact rG P E ops _ S
 |true=>
  simp only[BD];cases xx ops.toList with
  |false=>exact⟨Kk,λK=>rfl⟩
  |true=>
   cases LJ P E nt ops ops.toList S with
   |none=>exact⟨Kk,λK=>rfl⟩
   |some W=>exact Dq P E ops W _ _ 0 S
theorem sI(c:Code):(∀h,Bn (o0 (R:=R) P E nt c h))/\∀l g,wY (R:=R) P E nt c l=Bm g->∀h,Bn (g h):=by
 have xk:∀{f:Ev R},∀l g,(fI f).2 l=Bm g->∀h,Bn (g h):=λl g e=>by{cases e};induction c with
 |skip=>exact⟨λh S=>.one .normal S λK=>rfl,xk⟩
 |label l=>
  refine⟨λh S=>.one .normal S λK=>rfl,λl' g e=>?_⟩;have e:pR l l'=Bm g:=e;unfold pR at e;cases hb:Nat.beq l l' with
  |true=>rw[hb]at e;cases e;exact λh S=>.one .normal S λK=>rfl
  |false=>rw[hb]at e;cases e
 |exit id=>exact⟨λh S=>.one (.exit id) S λK=>rfl,xk⟩
 |goto l=>exact⟨λh S=>.one (.goto l) S λK=>rfl,xk⟩
 |ret=>exact⟨λh S=>.one .ret S λK=>rfl,xk⟩
 |region id ops draw=>
  refine⟨λh S=>?_,xk⟩;obtain⟨p,hp⟩:=Dp (R:=R) P E (nt:=nt) ops draw S;cases p with
  |none=>exact .nil λK=>hp _
  |some S'=>exact .one .normal S' λK=>hp _
 |seq a b Gi CM=>refine⟨λh=>?_,λl g e=>?_⟩;{cases h<;>first|exact Dm (Gi.1 _) (CM.1 _)|exact AH (Gi.1 _) (CM.1 _) _};{have e:zL nt (wY P E nt a) (wY P E nt b) (o0 P E nt b) (o0 P E nt b) l=Bm g:=e;unfold zL at e;split at e;{rename_i ga ea;cases e;intro h;cases h<;>first|exact Dm (Gi.2 l ga ea _) (CM.1 _)|exact AH (Gi.2 l ga ea _) (CM.1 _) _};{split at e;{rename_i gb eb;cases e;exact λh=>CM.2 l gb eb _};{cases e}}}
 |cond x a b Gi CM=>
  refine⟨λh S=>?_,xk⟩;obtain⟨p,hp⟩:=Gi.1 h.s1 S;obtain⟨p',SL⟩:=CM.1 h.s2 S;have two:ot (R:=R) λK=>both (o0 P E nt a h.s1 S K) (o0 P E nt b h.s2 S K):=by{refine⟨p++p',λK r=>?_⟩;rw[wq,hp,SL];refine⟨λ⟨h1,h2⟩q hq=>(List.mem_append.1 hq).elim (h1 q) (h2 q),λh=>⟨λq hq=>h q (List.mem_append_left _ hq),λq hq=>h q (List.mem_append_right _ hq)⟩⟩};show ot λK:fH R=>(match gU E nt S 0 x with|some (.b t,.no)=>cond t (o0 P E nt a h.s1 S K) (o0 P E nt b h.s2 S K)|some (.ub e,.no)=>cond e (both (o0 P E nt a h.s1 S K) (o0 P E nt b h.s2 S K)) (o0 P E nt b h.s2 S K)|_=>Kk);split
  ·rename_i t _;cases t with
   |true=>exact⟨p,hp⟩
   |false=>exact⟨p',SL⟩
  ·rename_i t _;cases t with
   |true=>exact two
   |false=>exact⟨p',SL⟩
  {exact .nil λK=>rfl}
 |block id a ih=>exact⟨λh=>GM (ih.1 _) id,xk⟩
 |loop a ih=>refine⟨λh=>?_,xk⟩;cases h<;>first|exact I7 (ih.1 _) _|exact λS=>.nil λK=>rfl
 |rangeFunc _ _ _ _ _ _=>exact⟨λh S=>.nil λK=>rfl,xk⟩
 |scope a ih=>refine⟨λh=>?_,xk⟩;cases h<;>first|exact FL ih.1 ih.2 _ _|exact λS=>.nil λK=>rfl
 |refuse _=>exact⟨λh S=>.nil λK=>rfl,xk⟩
theorem PK(c:Code)(h:Hint)(G:GL)(xs:List TV)(K:fH R):Hv nt (o0 P E nt c h) G xs K=ev P E nt c h (fE G xs) (zw nt (o0 P E nt c h) G K):=by rw[Lv ((sI P E c).1 h),HW]
theorem Mx(c:Code)(ls:List (Nat×GL))(a:Hint)(i:Nat×List TV)(K:fH R):FJ nt (wY P E nt c) ls a i K=J0 (My P E nt c).2 ls a i (nk nt (wY P E nt c) ls a K):=by rw[IC (sI P E c).2,<-Mz];rfl
end
open Go.RowKit
def Of:MX->Exit
 |.normal=>.normal
 |.exit id=>.exit id
 |.goto l=>.goto l
 |.ret=>.ret
section
variable{C:Ctx}{R:Type}
theorem wx.j0{S:St}{a:Act}{w:World}{G:GL}{xs:List TV}(h:wx C S a w)(he:j0 C.nt G S=Bm xs):wx C (fE G xs) a w:=by obtain⟨R,τ,h⟩:=h;obtain⟨R',τ',h',_⟩:=rH h he;exact⟨R',_,h'⟩
theorem zG{P:Program}{a:Act}{w:World}{Q:Exit->Act->World->Prop}{c:Code}(I:Nat->Nat->Act->World->Prop)(first:c.wp P (λe a w=>match e with|.goto l=>∃n,I n l a w|e=>Q e a w) a w)(pass:∀n l a w,I n l a w->∃rest,findLabel c l=Bm rest/\rest.wp P (λe a' w'=>match e with|.goto l'=>∃m,m<n/\I m l' a' w'|e=>Q e a' w') a w):(Code.scope c).wp P Q a w:=by
 intro b k cs;have key:∀n l a w,I n l a w->∀rest,findLabel c l=Bm rest->∃e a' w',Q e a' w'/\Arrives P (lone (b.at a (.code rest::.inScope c::k)) cs w) b k cs e a' w':=by
  intro n;induction n using Nat.strongRecOn with
  |_ n ih=>
   intro l a w hI rest hf;obtain⟨rest',CR,hp⟩:=pass n l a w hI;rw[hf]at CR;cases CR;obtain⟨e,tZ,tt,hq,vR⟩:=hp b (.inScope c::k) cs;cases e with
   |normal=>exact⟨.normal,tZ,tt,hq,Steps.trans vR (.one step_inScope)⟩
   |exit id=>exact⟨.exit id,tZ,tt,hq,λk' hk=>vR k' (by simp[exitTo,hk])⟩
   |goto l'=>obtain⟨m,gS,hJ⟩:=hq;obtain⟨Ds,VS,_⟩:=pass m l' tZ tt hJ;have hg:gotoIn l' (.inScope c::k)=Bm (.code Ds::.inScope c::k):=by{simp[gotoIn,VS]};obtain⟨Tm,TS,Rs,L1,Cd⟩:=ih m gS l' tZ tt hJ Ds VS;exact⟨Tm,TS,Rs,L1,.of_steps (vR _ hg) Cd⟩
   |ret=>exact⟨_,tZ,tt,hq,vR⟩
   |panic ch=>exact⟨_,tZ,tt,hq,vR⟩
   |outgrown=>exact⟨_,tZ,tt,hq,vR⟩
 obtain⟨e,tZ,tt,hq,vR⟩:=first b (.inScope c::k) cs
 cases e with
 |normal=>exact⟨.normal,tZ,tt,hq,.head step_scope (Steps.trans vR (.one step_inScope))⟩
 |exit id=>exact⟨.exit id,tZ,tt,hq,λk' hk=>.head step_scope (vR k' (by simp[exitTo,hk]))⟩
 |goto l'=>obtain⟨m,hJ⟩:=hq;obtain⟨Ds,VS,_⟩:=pass m l' tZ tt hJ;have hg:gotoIn l' (.inScope c::k)=Bm (.code Ds::.inScope c::k):=by{simp[gotoIn,VS]};obtain⟨Tm,TS,Rs,L1,Cd⟩:=key m l' tZ tt hJ Ds VS;exact⟨Tm,TS,Rs,L1,.of_steps (.head step_scope (vR _ hg)) Cd⟩
 |ret=>exact⟨_,tZ,tt,hq,.of_steps (.one step_scope) vR⟩
 |panic ch=>exact⟨_,tZ,tt,hq,.of_steps (.one step_scope) vR⟩
 |outgrown=>exact⟨_,tZ,tt,hq,.of_steps (.one step_scope) vR⟩
def E9(C:Ctx)(R:Type)(c:Code)(g:Ev R):Prop:=∀{h:Hint}{S:St}{a:Act}{w:World}{K:fH R}{r:R}{Q:Exit->Act->World->Prop},wx C S a w->g h S K=Bm r->(∀e S' a' w',wx C S' a' w'->K e S'=Bm r->Q (Of e) a' w')->c.wp C.P Q a w
theorem E9.seq{x y:Code}{g:Ev R}{o:Ev R}(hx:E9 C R x g)(hy:E9 C R y o):E9 C R (.seq x y) (KV C.nt g o o):=by
 intro h S a w K r Q hs he hQ;have plain:∀{h1 h2:Hint},g h1 S (IB (o h2) K)=Bm r->(Code.seq x y).wp C.P Q a w:=λhe=>by
  refine wp_seq (hx hs he λe S' a' w' h' hk=>?_);cases e with
  |normal=>exact hy h' hk hQ
  |exit id=>exact hQ (.exit id) S' a' w' h' hk
  |goto l=>exact hQ (.goto l) S' a' w' h' hk
  |ret=>exact hQ .ret S' a' w' h' hk
 (cases h<;>first|exact plain he|skip);rename_i G h1 h2;have he:g h1 S (wI C.nt (o h2) G K)=Bm r:=he;refine wp_seq (hx hs he λe S' a' w' h' hk=>?_);cases e with
 |normal=>simp only[wI]at hk;split at hk;{rename_i xs hr;exact hy (h'.j0 hr) hk hQ};{cases hk}
 |exit id=>exact hQ (.exit id) S' a' w' h' hk
 |goto l=>exact hQ (.goto l) S' a' w' h' hk
 |ret=>exact hQ .ret S' a' w' h' hk
theorem To(hE:ku C.P C.E)(hF:∀f,fX C.P C.gl f (C.E.fs f))(c:Code):E9 C R c (o0 C.P C.E C.nt c)/\(∀l g,wY (R:=R) C.P C.E C.nt c l=Bm g->∃rest,findLabel c l=Bm rest/\E9 C R rest g)/\∀l,wY (R:=R) C.P C.E C.nt c l=Kk->findLabel c l=Kk:=by
 have xk:∀{f:Ev R}{c:Code},∀l g,(fI f).2 l=Bm g->∃rest,findLabel c l=Bm rest/\E9 C R rest g:=λl g e=>by{cases e};induction c with
 |skip=>exact⟨λhs he hQ=>wp_skip (hQ .normal _ _ _ hs he),xk,λ_ _=>rfl⟩
 |label l=>
  refine⟨λhs he hQ=>wp_label (hQ .normal _ _ _ hs he),λl' g e=>?_,λl' e=>?_⟩
  ·have e:pR l l'=Bm g:=e;unfold pR at e;cases hb:Nat.beq l l' with
   |true=>rw[hb]at e;cases e;exact⟨.skip,by rw[az hb];simp[findLabel],λhs he hQ=>wp_skip (hQ .normal _ _ _ hs he)⟩
   |false=>rw[hb]at e;cases e
  ·have e:pR (R:=R) l l'=Kk:=e;unfold pR at e;cases hb:Nat.beq l l' with
   |true=>rw[hb]at e;cases e
   |false=>have:¬l=l':=λe=>by{rw[e]at hb;simp at hb};simp[findLabel,this]
 |exit id=>exact⟨λhs he hQ=>wp_exit (hQ (.exit id) _ _ _ hs he),xk,λ_ _=>rfl⟩
 |goto l=>exact⟨λhs he hQ=>wp_goto (hQ (.goto l) _ _ _ hs he),xk,λ_ _=>rfl⟩
 |ret=>exact⟨λhs he hQ=>wp_ret (hQ .ret _ _ _ hs he),xk,λ_ _=>rfl⟩
 |region id ops draw=>exact⟨λhs he hQ=>IL hE hF hs he λS' a' w' h' hk=>hQ .normal S' a' w' h' hk,xk,λ_ _=>rfl⟩
 |seq x y Sv QE=>refine⟨E9.seq Sv.1 QE.1,λl g e=>?_,λl e=>?_⟩;{have e:zL C.nt (wY C.P C.E C.nt x) (wY C.P C.E C.nt y) (o0 C.P C.E C.nt y) (o0 C.P C.E C.nt y) l=Bm g:=e;unfold zL at e;split at e;{rename_i gx ex;cases e;obtain⟨rest,hr,hd⟩:=Sv.2.1 l gx ex;exact⟨.seq rest y,by simp[findLabel,hr],hd.seq QE.1⟩};{rename_i ex;split at e;{rename_i gy ey;cases e;obtain⟨rest,hr,hd⟩:=QE.2.1 l gy ey;exact⟨rest,by simp[findLabel,Sv.2.2 l ex,hr],λhs he hQ=>hd hs he hQ⟩};{cases e}}};{have e:zL C.nt (wY C.P C.E C.nt x) (wY C.P C.E C.nt y) (o0 C.P C.E C.nt y) (o0 C.P C.E C.nt y) l=Kk:=e;unfold zL at e;split at e;{cases e};{rename_i ex;split at e;{cases e};{rename_i ey;simp[findLabel,Sv.2.2 l ex,QE.2.2 l ey]}}}
 |cond o x y Sv QE=>
  refine⟨?_,xk,λ_ _=>rfl⟩;intro h S a w K r Q hs he hQ;have he:(match gU C.E C.nt S 0 o with|some (.b t,.no)=>cond t (o0 C.P C.E C.nt x h.s1 S K) (o0 C.P C.E C.nt y h.s2 S K)|some (.ub e,.no)=>cond e (both (o0 C.P C.E C.nt x h.s1 S K) (o0 C.P C.E C.nt y h.s2 S K)) (o0 C.P C.E C.nt y h.s2 S K)|_=>Kk)=Bm r:=he;split at he;{rename_i t ho;have Zv:=hs;obtain⟨R0,τ,h0⟩:=Zv;have hv:=(fe h0 (Lt.refl S) ho).cq rfl;refine wp_cond_split hv (λe=>?_) (λe=>?_);{subst e;exact Sv.1 hs he hQ};{subst e;exact QE.1 hs he hQ}}
  ·rename_i e ho;have Zv:=hs;obtain⟨R0,τ,h0⟩:=Zv;obtain⟨b,hv,hb⟩:∃b,a.eval o=.bool b/\(b=Qf->e=Qf):=by
    have hv:=fe h0 (Lt.refl S) ho;generalize a.eval o=v at hv;cases hv with
    |sc h=>cases h
    |ub h=>exact⟨_,rfl,h⟩
   refine wp_cond_split hv (λe1=>?_) (λe1=>?_);{rw[hb e1]at he;exact Sv.1 hs (wq.1 he).1 hQ}
   ·cases e with
    |false=>exact QE.1 hs he hQ
    |true=>exact QE.1 hs (wq.1 he).2 hQ
  {cases he}
 |block id x ih=>
  refine⟨?_,xk,λ_ _=>rfl⟩;intro h S a w K r Q hs he hQ;have he:o0 C.P C.E C.nt x h.s1 S (nW id K)=Bm r:=he;refine wp_block (ih.1 hs he λe S' a' w' h' hk=>?_);cases e with
  |normal=>exact hQ .normal S' a' w' h' hk
  |exit j=>
   simp only[nW]at hk;cases hb:Nat.beq j id with
   |true=>rw[hb]at hk;have:=az hb;simp only[Of,Exit.inBlock,this,if_true];exact hQ .normal S' a' w' h' hk
   |false=>rw[hb]at hk;have:j≠id:=λe=>by{rw[e]at hb;simp at hb};simp only[Of,Exit.inBlock,this,if_false];exact hQ (.exit j) S' a' w' h' hk
  |goto l=>exact hQ (.goto l) S' a' w' h' hk
  |ret=>exact hQ .ret S' a' w' h' hk
 |loop x ih=>
  refine⟨?_,xk,λ_ _=>rfl⟩;intro h S a w K r Q hs he hQ;(cases h<;>try(cases he;done));rename_i G h1;have he:yr C.nt (o0 C.P C.E C.nt x h1) G S K=Bm r:=he;unfold yr at he;split at he
  ·rename_i xs hr;obtain⟨n,hn⟩:=(yv (λn r=>qj (xC ((sI C.P C.E x).1 h1) G) (tr:=Rz C.nt G) n xs r)).1 he;refine wp_loop_ghost (λn a w=>∃xs,wx C (fE G xs) a w/\oX (TU (o0 C.P C.E C.nt x h1) G) (Rz C.nt G) n xs K=Bm r) n ⟨xs,hs.j0 hr,hn⟩ ?_;rintro n a w ⟨xs,hs,hn⟩;cases n with
   |zero=>cases hn
   |succ n=>
    rw[oX]at hn;refine ih.1 hs hn λe S' a' w' h' hk=>?_;cases e with
    |normal=>
     simp only[Rz]at hk;split at hk;{rename_i e;cases e};{cases hk}
     ·rename_i ys hr;cases J9:j0 C.nt G S' with
      |none=>rw[J9]at hr;cases hr
      |some zs=>rw[J9]at hr;cases hr;exact⟨n,Nat.lt_succ_self n,_,h'.j0 J9,hk⟩
    |exit id=>exact hQ (.exit id) S' a' w' h' hk
    |goto l=>exact hQ (.goto l) S' a' w' h' hk
    |ret=>exact hQ .ret S' a' w' h' hk
  {cases he}
 |rangeFunc _ _ _ _ _ _=>exact⟨λ_ he=>(by cases he),xk,λ_ _=>rfl⟩
 |scope x ih=>
  refine⟨?_,xk,λ_ _=>rfl⟩;intro h S a w K r Q hs he hQ;(cases h<;>try(cases he;done));rename_i ls h1;have he:o0 C.P C.E C.nt x h1 S (nk C.nt (wY C.P C.E C.nt x) ls h1 K)=Bm r:=he;let F:=wY (R:=R) C.P C.E C.nt x;have hm:=λi=>λn r=>qj (xB (f:=F) (sI C.P C.E x).2 ls h1) (tr:=Ip C.nt ls) (K:=K) n i r;have go:∀{S' a' w'}l,wx C S' a' w'->∀j,Ip C.nt ls (.goto l) S'=Bm (Bm j)->j.1=l/\∃G,yt l ls=Bm G/\wx C (fE G j.2) a' w':=by
   intro S' a' w' l h' j hj;simp only[Ip]at hj;split at hj
   ·rename_i G hl;cases hr:j0 C.nt G S' with
    |none=>rw[hr]at hj;cases hj
    |some ys=>rw[hr]at hj;cases hj;exact⟨rfl,G,hl,h'.j0 hr⟩
   {cases hj}
  refine zG (λn l a w=>∃xs G,yt l ls=Bm G/\wx C (fE G xs) a w/\oX (J0 F ls h1) (Ip C.nt ls) n (l,xs) K=Bm r) ?_ ?_
  ·refine ih.1 hs he λe S' a' w' h' hk=>?_;cases e with
   |goto l=>simp only[nk,yW]at hk;split at hk;{rename_i e;simp[Ip]at e};{cases hk};{rename_i j hj;obtain⟨e1,G,hG,hS⟩:=go l h' j hj;obtain⟨n,hn⟩:=(yv (hm j)).1 hk;exact⟨n,j.2,G,hG,hS,by rw[<-e1];exact hn⟩}
   |normal=>exact hQ .normal S' a' w' h' hk
   |exit id=>exact hQ (.exit id) S' a' w' h' hk
   |ret=>exact hQ .ret S' a' w' h' hk
  ·rintro n l a w ⟨xs,G,hG,hS,hn⟩;cases n with
   |zero=>cases hn
   |succ n=>
    rw[oX]at hn;simp only[J0,hG]at hn;cases hF:F l with
    |none=>rw[hF]at hn;cases hn
    |some g=>
     rw[hF]at hn;obtain⟨rest,hr,hd⟩:=ih.2.1 l g hF;refine⟨rest,hr,hd hS hn λe S' a' w' h' hk=>?_⟩;cases e with
     |goto l'=>split at hk;{rename_i e;simp[Ip]at e};{cases hk};{rename_i j hj;obtain⟨e1,G',hG',Gq⟩:=go l' h' j hj;exact⟨n,Nat.lt_succ_self n,j.2,G',hG',Gq,by rw[<-e1];exact hk⟩}
     |normal=>exact hQ .normal S' a' w' h' hk
     |exit id=>exact hQ (.exit id) S' a' w' h' hk
     |ret=>exact hQ .ret S' a' w' h' hk
 |refuse _=>exact⟨λ_ he=>(by cases he),xk,λ_ _=>rfl⟩
theorem Gw(hE:ku C.P C.E)(hF:∀f,fX C.P C.gl f (C.E.fs f))(c:Code):∀{h:Hint}{S:St}{a:Act}{w:World}{K:fH R}{r:R}{Q:Exit->Act->World->Prop},wx C S a w->o0 C.P C.E C.nt c h S K=Bm r->(∀e S' a' w',wx C S' a' w'->K e S'=Bm r->Q (Of e) a' w')->c.wp C.P Q a w:=λhs he hQ=>(To hE hF c).1 hs he hQ
end
def mW(xs:List Value)(k:Nat):Value:=if k<1000000 then xs.getD k undef else xs.getD (k -1000000) undef
def yM{n:Nat}{ms:List Md}{pV:List TV}{k:Nat}(h:k<n):LR n ms pV k=match ms.getD k .pl with|.pl=>(pV.getD k .dead,.no)|.rf=>(.pt,.ptr (1000000+k) 0)|_=>(.pt,.dB (1000000+k)):=by have:Nat.blt k n=Qf:=Nat.ble_eq_true_of_le h;unfold LR;simp only[this,aj];rfl
def yN{n:Nat}{ms:List Md}{pV:List TV}{k:Nat}(hn:n<=1000000)(h:k<n):LR n ms pV (1000000+k)=match ms.getD k .pl with|.pl=>(.dead,.no)|.rf=>(pV.getD k .dead,.cl [])|_=>(pV.getD k .dead,.pv):=by
 have h1:Nat.blt (1000000+k) n=Qg:=by
  cases hb:Nat.blt (1000000+k) n with
  |false=>rfl
  |true=>exact absurd (Nat.le_of_ble_eq_true hb:1000000+k+1<=n) (by omega)
 have h2:Nat.ble 1000000 (1000000+k)=Qf:=Nat.ble_eq_true_of_le (by omega);have h3:Nat.blt (1000000+k) (1000000+n)=Qf:=Nat.ble_eq_true_of_le (by omega);unfold LR;simp only[h1,h2,h3,aj,ae,aM,Nat.add_sub_cancel_left];rfl
def uN{n:Nat}{ms:List Md}{pV:List TV}{k:Nat}(h1:n<=k)(h2:k<1000000\/1000000+n<=k):LR n ms pV k=(.dead,.no):=by
 have e1:Nat.blt k n=Qg:=by
  cases hb:Nat.blt k n with
  |false=>rfl
  |true=>exact absurd (Nat.le_of_ble_eq_true hb:k+1<=n) (by omega)
 have e2:(Nat.ble 1000000 k&&Nat.blt k (1000000+n))=Qg:=by
  cases hb:(Nat.ble 1000000 k&&Nat.blt k (1000000+n))with
  |false=>rfl
  |true=>simp only[ah]at hb;have a:=Nat.le_of_ble_eq_true hb.1;have b:k+1<=1000000+n:=Nat.le_of_ble_eq_true hb.2;omega
 unfold LR;simp only[e1,e2,ae]
def sa{n:Nat}(hn:n<=1000000)(k:Nat):k<n\/(∃j,j<n/\k=1000000+j)\/(n<=k/\(k<1000000\/1000000+n<=k)):=by by_cases h1:k<n;{exact .inl h1};{by_cases h2:k<1000000\/1000000+n<=k;{exact .inr (.inr ⟨by omega,h2⟩)};{exact .inr (.inl ⟨k -1000000,by omega,by omega⟩)}}
def EX{P:Program}{E:cz}{gl:Nat->Option (List Value)}{nt:Nat}{w:World}{R:Reach}{ins:List TV}{xs:List Value}{ms:List Md}(hn:xs.length<=nt)(NH:nt<=1000000)(hR:∀b o,R b o->b<w.heap.size)(CQ:GlOK gl R w)(ha:CJ R w ms ins xs)(hs:T6 (· ≠.pl) ms xs):eI ⟨P,E,nt,w,R,B3 ms xs,mW xs,gl⟩ (LR xs.length ms ins) {tmps:=(⟨xs⟩:Array Value)++Array.replicate (nt -xs.length) undef,defers:=[]} w R (mW xs):=by
 have hx:xs.length<=1000000:=Nat.le_trans hn NH;have arg:∀k,k<xs.length->Ih R w (ms.getD k .pl) (ins.getD k .dead) (xs.getD k undef):=λk hk=>by
  have h1:xs[k]?=Bm xs[k]:=au hk;have h2:ins[k]?=Bm (ins[k]'(by rw[ha.1];exact hk)):=au _
  have:=ha.2 k _ _ h2 h1;rw[ai,ai,ai,h1,h2]at*;simpa using this
 have t1:∀k,k<xs.length->mW xs k=xs.getD k undef:=λk hk=>by{unfold mW;rw[ar (by omega)]};have t2:∀k,mW xs (1000000+k)=xs.getD k undef:=λk=>by{unfold mW;rw[ak (by omega),Nat.add_sub_cancel_left]};have own:∀k,(LR xs.length ms ins k).2.own=Qf->∃j,j<xs.length/\k=1000000+j/\ms.getD j .pl≠.pl:=λk ho=>by{rcases sa hx k with h|⟨j,hj,rfl⟩|⟨h1,h2⟩;{rw[yM h]at ho;cases hm:ms.getD k .pl<;>rw[hm]at ho<;>cases ho};{refine⟨j,hj,rfl,λhm=>?_⟩;rw[yN hx hj,hm]at ho;cases ho};{rw[uN h1 h2]at ho;cases ho}};have val:∀k,k<xs.length->xs[k]?=Bm (xs.getD k undef):=λk hk=>by{rw[ai,au hk];rfl};refine⟨by simp;omega,rfl,⟨λk=>?_,λk k' g hb lu=>?_,λk g hb=>?_,λj k hk=>?_,hR,λk hk=>?_,λk d hk=>?_⟩,λt ht=>?_,⟨NH,λk _=>rfl⟩,Ext.refl _ _ _,CQ⟩;{rcases sa hx k with h|⟨j,hj,rfl⟩|⟨h1,h2⟩;{have hA:=arg k h;rw[yM h,t1 k h];cases hm:ms.getD k .pl<;>rw[hm]at hA;{exact dP.no (τ:=mW xs) hA};{obtain⟨b,cs,e,zs,e1,_⟩:=hA;exact⟨b,by rw[t2,e1],e1⟩};all_goals exact⟨(t2 k).symm,fi.one hA⟩};{have hA:=arg j hj;rw[yN hx hj,t2];cases hm:ms.getD j .pl<;>rw[hm]at hA;{exact dP.no (τ:=mW xs) (.dead _)};{obtain⟨b,cs,e,zs,e1,e2,e3,e4,e5,e6⟩:=hA;exact⟨b,cs,e,zs,e1,e2,e3,e4,by simp,e6⟩};all_goals exact hA};{rw[uN h1 h2];exact dP.no (τ:=mW xs) (.dead _)}};{obtain⟨o1,b1⟩:=ft hb;obtain⟨o2,b2⟩:=ft lu;obtain⟨j,hj,rfl,m1⟩:=own k o1;obtain⟨j',wK,rfl,m2⟩:=own k' o2;rw[t2]at b1 b2;rw[hs j j' _ _ g m1 m2 (val j hj) (val j' wK) b1 b2]};{obtain⟨o1,b1⟩:=ft hb;obtain⟨j,hj,rfl,m1⟩:=own k o1;rw[t2]at b1;exact .inl ⟨j,_,m1,val j hj,b1⟩};{rcases sa hx j with h|⟨i,hi,rfl⟩|⟨h1,h2⟩;{rw[yM h]at hk;have key:ms.getD j .pl≠.pl->k=1000000+j->nt<=k/\(LR xs.length ms ins k).2≠.no:=λhm e=>by{subst e;refine⟨by omega,?_⟩;rw[yN hx h];cases Jq:ms.getD j .pl<;>first|exact(hm Jq).elim|simp};cases hm:ms.getD j .pl<;>rw[hm]at hk key<;>simp only[Gh.cQ,List.mem_singleton,List.not_mem_nil]at hk;all_goals exact key (by simp) hk};{rw[yN hx hi]at hk;cases hm:ms.getD i .pl<;>rw[hm]at hk<;>simp[Gh.cQ]at hk};{rw[uN h1 h2]at hk;cases hk}};{rcases sa hx k with h|⟨j,hj,rfl⟩|⟨h1,h2⟩;{rw[yM h];cases ms.getD k .pl<;>rfl};{have:1000000+j<nt:=hk;omega};{rw[uN h1 h2];rfl}};{rcases sa hx k with h|⟨j,hj,rfl⟩|⟨h1,h2⟩;{rw[yM h]at hk;cases hm:ms.getD k .pl<;>rw[hm]at hk<;>cases hk};{rw[yN hx hj]at hk;cases hm:ms.getD j .pl<;>rw[hm]at hk<;>cases hk};{rw[uN h1 h2]at hk;cases hk}};{have ht:t<nt:=ht;unfold mW;rw[ar (by omega)];simp only[Array.getD_eq_getD_getElem?,Array.getElem?_append,List.size_toArray];by_cases h:t<xs.length;{simp[h,ai]};{have Un:t -xs.length<nt -xs.length:=by{omega};rw[ak h,ai,List.getElem?_eq_none (by omega)];simp[Un]}}
def BF(tmps:Array Value):ResultVar->Sem Value
 |.tmp t=>pure (tmps.getD t undef)
 |.cell a t=>do loadVar t (<-asAddr (tmps.getD a undef))
def pq{P:Program}{w:World}{fn:Func}{tmps:Array Value}{vs:List Value}(h:(fn.results.toList.mapM (BF tmps)).run P w=.ok vs w):(results fn tmps).run P w=.ok (if vs.length=1 then vs.headD undef else .tuple ⟨vs⟩) w:=by
 have e:results fn tmps=(do
   let vs<-fn.results.mapM (BF tmps)
   pure (if h:vs.size=1 then vs[0]else .tuple vs)):=by
  unfold results
  congr 2
 rw[e,Array.mapM_eq_mapM_toList];simp only[Sem.run_bind,Sem.run_map,h,Result.andThen_ok,Sem.run_pure];match vs with
 |[]=>simp
 |[x]=>simp
 |_::_::_=>simp
section
variable{C:Ctx}{a:Act}{w:World}{τ:Nat->Value}
theorem qp{own:List Nat}:∀{rs:List ResultVar}{i:Nat}{S S':St}{xs:List TV}{R:Reach},eI C S a w R τ->so C.P C.nt own i rs S=Bm (xs,S')->
  ∃R' vs,eI C S' a w R' τ/\eH R w R' w/\(rs.mapM (BF a.tmps)).run C.P w=.ok vs w/\xs.length=rs.length/\vs.length=rs.length/\∀(q:Nat)(r:ResultVar)(x:TV)(v:Value),rs[q]?=Bm r->xs[q]?=Bm x->vs[q]?=Bm v->match r with|.tmp t=>v=a.tmps.getD t undef|.cell _ _=>Rep R' w x v/\(i+q)∉own
 |[],i,S,S',xs,R,h,he=>by cases he;exact⟨R,[],h,eH.refl _ _,rfl,rfl,rfl,by simp⟩
 |.tmp t::rs,i,S,S',xs,R,h,he=>by
  simp only[so]at he;split at he
  ·rename_i NB S'' h1;cases he;obtain⟨R',vs,k1,k2,k3,k4,k5,k6⟩:=qp h h1;refine⟨R',a.tmps.getD t undef::vs,k1,k2,?_,by simp[k4],by simp[k5],λq r x v hr hx hv=>?_⟩;{simp only[List.mapM_cons,BF,Sem.run_bind,Sem.run_pure,Result.andThen_ok,k3]}
   ·cases q with
    |zero=>cases hr;cases hv;rfl
    |succ q=>have:=k6 q r x v (by simpa using hr) (by simpa using hx) (by simpa using hv);rwa[show i+1+q=i+(q+1) by omega]at this
  {cases he}
 |.cell b t::rs,i,S,S',xs,R,h,he=>by
  simp only[so]at he;obtain⟨h0,he⟩:=bG.1 he;simp only[ah,Bool.not_eq_true']at h0;have hb:b<C.nt:=Nat.le_of_ble_eq_true h0.1;split at he
  ·rename_i m o n agg hS hs;obtain⟨h1,he⟩:=bG.1 he;have h1:agg=Qf\/n=1:=by{rcases Bool.or_eq_true _ _▸h1 with h|h;{exact .inl h};{exact .inr (az h)}};split at he
   ·rename_i cs ts hm;split at he
    ·rename_i Cz ws hf;split at he
     ·rename_i x hp;split at he
      ·rename_i NB S'' Zy;cases he;obtain⟨bb,ys,e,c1,c2,c3,c4,c5,c6,_⟩:=oB h (Lt.refl S) hm;obtain⟨R1,f1,f2,f3,f4,_⟩:=oY h.core (Lt.refl S).q c3 (λt ht=>⟨(c6 t ht).1,c4 t ht⟩) hf;have Ff:=qA h hb;rw[hS]at Ff;obtain⟨b',p1,hv⟩:∃b',τ m=.pointer (Bm ⟨b',0,Kk⟩)/\a.tmps.getD b undef=.pointer (Bm ⟨b',o,Kk⟩):=Ff;rw[c1]at p1;cases p1;obtain⟨inf,hi,rfl,ha⟩:=ig hs;obtain⟨hlen,j7⟩:=rM f3 hp h1;have hc:∀j y,((ys.drop o).take inf.size)[j]?=Bm y->w.cell? ⟨bb,o+j,Kk⟩=Bm y:=λj y hj=>by{rw[bg]at hj;split at hj;{rw[List.getElem?_drop]at hj;simp only[World.cell?,c2];simpa using hj};{cases hj}};obtain⟨R2,vs,k1,k2,k3,k4,k5,k6⟩:=qp (h.fz f1 f2) Zy;refine⟨R2,(if agg then .agg ⟨(ys.drop o).take inf.size⟩else((ys.drop o).take inf.size).headD undef)::vs,k1,f2.1.trans k2,?_,by simp[k4],by simp[k5],λq r x' v hr hx AP=>?_⟩;{simp only[List.mapM_cons,BF,hv,asAddr,Sem.run_bind,Sem.run_pure,Result.andThen_ok,j9 hi ha h1 hlen hc,k3]}
       ·cases q with
        |zero=>cases hr;cases hx;cases AP;exact⟨(BN j7).mono k2,by simpa using h0.2⟩
        |succ q=>have:=k6 q r x' v (by simpa using hr) (by simpa using hx) (by simpa using AP);rwa[show i+1+q=i+(q+1) by omega]at this
      {cases he}
     {cases he}
    {cases he}
   {cases he}
  {cases he}
end
theorem hO.of{R:Reach}{w:World}:∀{xs:List TV}{ys:List Value},xs.length=ys.length->(∀(i:Nat)(x:TV)(y:Value),xs[i]?=Bm x->ys[i]?=Bm y->Rep R w x y)->hO R w xs ys
 |[],[],_,_=>.nil
 |x::xs,y::ys,h,k=>.cons (k 0 x y rfl rfl) (hO.of (by simpa using h) λi a b ha hb=>k (i+1) a b (by simpa using ha) (by simpa using hb))
 |[],_::_,h,_=>by simp at h
 |_::_,[],h,_=>by simp at h
theorem ux{own:List Nat}:∀{rs:List ResultVar}{i q t:Nat},rs[q]?=Bm (.tmp t)->(own.contains (i+q)=Qg->(t,.no)∈pZ own i rs)/\(own.contains (i+q)=Qf->(t,.dB (900000+(i+q)))∈pZ own i rs/\(900000+(i+q),.pv)∈pZ own i rs)
 |r::rs,i,0,t,h=>by cases h;refine⟨λh=>?_,λh=>?_⟩<;>simp only[Nat.add_zero]at h⊢<;>simp only[pZ,h,aj,ae];{exact List.mem_append_left _ (List.mem_singleton.2 rfl)};{exact⟨List.mem_append_left _ (List.mem_cons_self ..),List.mem_append_left _ (List.mem_cons_of_mem _ (List.mem_singleton.2 rfl))⟩}
 |r::rs,i,q+1,t,h=>by
  obtain⟨h1,h2⟩:=ux (own:=own) (rs:=rs) (i:=i+1) (q:=q) (t:=t) (by simpa using h);rw[show i+1+q=i+(q+1) by omega]at h1 h2;cases r with
  |tmp u=>exact⟨λh=>List.mem_append_right _ (h1 h),λh=>⟨List.mem_append_right _ (h2 h).1,List.mem_append_right _ (h2 h).2⟩⟩
  |cell u v=>exact⟨h1,h2⟩
theorem Bi:∀{ms:List Md}{k q:Nat},(ms[q]?=Bm .rf->(1000000+(k+q),.cl [])∈re k ms)/\((ms[q]?=Bm .sl\/ms[q]?=Bm .sm)->(1000000+(k+q),.pv)∈re k ms)
 |[],k,q=>by simp
 |m::ms,k,0=>by refine⟨λh=>?_,λh=>?_⟩;{cases h;exact List.mem_cons_self ..};{rcases h with h|h<;>cases h<;>exact List.mem_cons_self ..}
 |m::ms,k,q+1=>by obtain⟨h1,h2⟩:=Bi (ms:=ms) (k:=k+1) (q:=q);rw[show k+1+q=k+(q+1) by omega]at h1 h2;refine⟨λh=>?_,λh=>?_⟩;{have:=h1 (by simpa using h);cases m<;>first|exact List.mem_cons_of_mem _ this|exact this};{have:=h2 (by simpa using h);cases m<;>first|exact List.mem_cons_of_mem _ this|exact this}
theorem pY{own:List Nat}{H:St}:∀{rs:List ResultVar}{i:Nat}{xs:List TV},xs.length=rs.length->(qC own H i rs xs).length=rs.length
 |[],_,_,_=>by simp[qC]
 |.tmp _::rs,i,x::xs,h=>by simp[qC,pY (rs:=rs) (i:=i+1) (xs:=xs) (by simpa using h)]
 |.cell _ _::rs,i,x::xs,h=>by simp[qC,pY (rs:=rs) (i:=i+1) (xs:=xs) (by simpa using h)]
 |_::_,_,[],h=>by simp at h
theorem uw{own:List Nat}{H:St}:∀{rs:List ResultVar}{i q:Nat}{xs:List TV}{r:ResultVar}{x:TV},rs[q]?=Bm r->xs[q]?=Bm x->(qC own H i rs xs)[q]?=Bm (match r with|.tmp t=>cond (own.contains (i+q)) (H (900000+(i+q))).1 (H t).1|.cell _ _=>x)
 |r::rs,i,0,x::xs,_,_,h1,h2=>by cases h1;cases h2;cases r<;>simp[qC]
 |r::rs,i,q+1,x::xs,r',x',h1,h2=>by have:=uw (own:=own) (H:=H) (rs:=rs) (i:=i+1) (q:=q) (xs:=xs) (r:=r') (x:=x') (by simpa using h1) (by simpa using h2);rw[show i+1+q=i+(q+1) by omega]at this;cases r<;>simp only[qC,List.getElem?_cons_succ]<;>exact this
 |[],_,_,_,_,_,h,_=>by simp at h
 |_::_,_,_,[],_,_,_,h=>by simp at h
def pf(H:St):Nat->List Md->List TV->List TV
 |k,.rf::ms,_::ins=>(H (1000000+k)).1::pf H (k+1) ms ins
 |k,.sl::ms,_::ins=>(H (1000000+k)).1::pf H (k+1) ms ins
 |k,_::ms,y::ins=>y::pf H (k+1) ms ins
 |_,_,_=>[]
theorem zp{H:St}:∀{ms:List Md}{k:Nat}{ins:List TV},ms.length<=ins.length->ng ms ins (vc H k ms)=Bm (pf H k ms ins)
 |[],k,ins,_=>by cases ins<;>simp[ng,vc,pf,dK]
 |m::ms,k,y::ins,h=>by have:=zp (H:=H) (ms:=ms) (k:=k+1) (ins:=ins) (by simpa using h);cases m<;>simp[ng,vc,pf,this]
 |_::_,_,[],h=>by simp at h
theorem Bg{H:St}:∀{ms:List Md}{k q:Nat}{ins:List TV}{y:TV},(pf H k ms ins)[q]?=Bm y->(ms.getD q .pl=.rf\/ms.getD q .pl=.sl->y=(H (1000000+(k+q))).1)/\(ms.getD q .pl=.sm->ins[q]?=Bm y)/\q<ms.length
 |m::ms,k,0,x::ins,y,h=>by cases m<;>simp only[pf,List.getElem?_cons_zero,aN]at h<;>subst h<;>simp
 |m::ms,k,q+1,x::ins,y,h=>by have h':(pf H (k+1) ms ins)[q]?=Bm y:=by{cases m<;>simpa[pf]using h};obtain⟨h1,h2,h3⟩:=Bg h';rw[show k+1+q=k+(q+1) by omega]at h1;exact⟨h1,h2,by simp;omega⟩
 |[],k,q,ins,y,h=>by cases ins<;>simp[pf]at h
 |m::_,_,_,[],_,h=>by cases m<;>simp[pf]at h
theorem Az{H:St}:∀{ms:List Md}{k q:Nat}{ins:List TV}{y:TV},rV H k ms=mN ms ins->ms.length<=ins.length->ms[q]?=Bm .sm->ins[q]?=Bm y->y=(H (1000000+(k+q))).1
 |m::ms,k,0,x::ins,y,h,_,h1,h2=>by cases h1;cases h2;simp only[rV,mN,bw]at h;exact h.1.symm
 |m::ms,k,q+1,x::ins,y,h,hl,h1,h2=>by have h':rV H (k+1) ms=mN ms ins:=by{cases m<;>simp only[rV,mN,bw]at h<;>first|exact h|exact h.2};have:=Az h' (by simpa using hl) (by simpa using h1) (by simpa using h2);rwa[show k+1+q=k+(q+1) by omega]at this
 |[],_,_,_,_,_,_,h,_=>by simp at h
 |_::_,_,_,[],_,_,h,_,_=>by simp at h
theorem yw{H:St}:∀{ms:List Md}{k:Nat}{ins:List TV},ms.length<=ins.length->(rV H k ms).length=(mN ms ins).length
 |[],_,ins,_=>by cases ins<;>rfl
 |m::ms,k,x::ins,h=>by have:=yw (H:=H) (ms:=ms) (k:=k+1) (ins:=ins) (by simpa using h);cases m<;>simp[rV,mN,this]
 |_::_,_,[],h=>by simp at h
theorem su{nt:Nat}{S:St}{G:GL}{ρ:List (Nat×Option Nat)}:∀{l:GL}{xs:List TV}{ws:List (Nat×Cell)},wz nt S G ρ l=Bm (xs,ws)->xs.length=l.length
 |[],_,_,h=>by cases h;rfl
 |p::l,xs,ws,h=>by simp only[wz]at h;split at h;{split at h;{rename_i h2;cases h;simp[su h2]};{cases h}};{cases h}
theorem sv{nt:Nat}{S:St}{G:GL}{ρ:List (Nat×Option Nat)}:∀{l:GL}{xs:List TV}{ws:List (Nat×Cell)}{i:Nat}{p:Nat×Gh}{x:TV},wz nt S G ρ l=Bm (xs,ws)->l[i]?=Bm p->xs[i]?=Bm x->∃us,C3 nt S G ρ p=Bm (x,us)
 |p::l,xs,ws,i,p',x',h,h1,h2=>by
  simp only[wz]at h;split at h
  ·rename_i hv;split at h
   ·rename_i h3;cases h;cases i with
    |zero=>cases h1;cases h2;exact⟨_,hv⟩
    |succ i=>exact sv h3 (by simpa using h1) (by simpa using h2)
   {cases h}
  {cases h}
 |[],_,_,_,_,_,_,h,_=>by simp at h
def oG{nt:Nat}{G:GL}{S:St}{xs:List TV}(h:j0 nt G S=Bm xs){k:Nat}{g:Gh}(hm:(k,g)∈G):∃x,fE G xs k=(x,g)/\(g=.no->k<nt)/\∀i,g=.dB i->k<nt/\x=.pt:=by unfold j0 vB at h;split at h;{rename_i hv;obtain⟨AW,he⟩:=bG.1 h;cases he;simp only[WV,ah]at AW;obtain⟨i,hi⟩:=List.mem_iff_getElem?.1 hm;have gS:i<xs.length:=by{rw[su hv];exact(aG.1 hi).1};have hx:xs[i]?=Bm xs[i]:=au gS;obtain⟨us,hu⟩:=sv hv hi hx;refine⟨_,uO AW.1.1.1.1 hi hx,λe=>?_,λj e=>?_⟩;{subst e;simp only[C3]at hu;exact Nat.le_of_ble_eq_true (bG.1 hu).1};{subst e;simp only[C3]at hu;obtain⟨h1,h2⟩:=bG.1 hu;refine⟨Nat.le_of_ble_eq_true h1,?_⟩;split at h2;{simp only[aN,Prod.mk.injEq]at h2;exact h2.1.symm};{simp only[aN,Prod.mk.injEq]at h2;exact h2.1.symm};{cases h2}}};{cases h}
section
variable{P:Program}{E:cz}{gl:Nat->Option (List Value)}{nt:Nat}{ms:List Md}{w w0:World}{R0 R2:Reach}{ins outs:List TV}{xs:List Value}{H:St}{a:Act}{vf:Nat->Value}
theorem yx(hs:eI ⟨P,E,nt,w0,R0,B3 ms xs,mW xs,gl⟩ H a w R2 vf)(hG:∀p∈re 0 ms,∃x,H p.1=(x,p.2)){q:Nat}{v:Value}(hm:(ms.getD q .pl).Ja)(hv:xs[q]?=Bm v):∃x g,H (1000000+q)=(x,g)/\(ms.getD q .pl=.rf->g=.cl [])/\(ms.getD q .pl≠.rf->g=.pv)/\v=vf (1000000+q):=by
 have L5:ms[q]?=Bm (ms.getD q .pl):=by
  cases e:ms[q]? with
  |none=>rw[ai,e]at hm;exact(hm.1 rfl).elim
  |some m=>rw[ai,e];rfl
 have AP:v=vf (1000000+q):=by{have:vf (1000000+q)=mW xs (1000000+q):=hs.io.2 _ (Nat.le_add_right _ _);rw[this];unfold mW;rw[ak (by omega),Nat.add_sub_cancel_left,ai,hv];rfl};obtain⟨g1,g2⟩:=Bi (ms:=ms) (k:=0) (q:=q);rw[Nat.zero_add]at g1 g2;cases e:ms.getD q .pl<;>rw[e]at hm L5;{exact(hm.1 rfl).elim};{obtain⟨x,c1⟩:=hG _ (g1 L5);exact⟨x,_,c1,λ_=>rfl,λh=>(h rfl).elim,AP⟩};{obtain⟨x,c1⟩:=hG _ (g2 (.inl L5));exact⟨x,_,c1,λh=>by(try cases h),λ_=>rfl,AP⟩};{obtain⟨x,c1⟩:=hG _ (g2 (.inr L5));exact⟨x,_,c1,λh=>by(try cases h),λ_=>rfl,AP⟩};{exact(hm.2 rfl).elim}
theorem E1(hs:eI ⟨P,E,nt,w0,R0,B3 ms xs,mW xs,gl⟩ H a w R2 vf)(hG:∀p∈re 0 ms,∃x,H p.1=(x,p.2))(Jp:ms.length<=ins.length)(e2:rV H 0 ms=mN ms ins){q:Nat}{y:TV}{v:Value}(hy:(pf H 0 ms ins)[q]?=Bm y)(hv:xs[q]?=Bm v):NA R2 w (ms.getD q .pl) y v:=by obtain⟨y1,y2,y3⟩:=Bg hy;rw[Nat.zero_add]at y1;by_cases hm:(ms.getD q .pl).Ja;{obtain⟨x,g,c1,c2,c3,c4⟩:=yx hs hG hm hv;have hK:=hs.core.key (1000000+q);rw[c1]at hK;cases e:ms.getD q .pl<;>rw[e]at hm;{exact(hm.1 rfl).elim};{have Fe:=y1 (.inl e);rw[c1]at Fe;have:=c2 e;subst this;obtain⟨b,cs,el,zs,p1,p2,p3,p4,p5,p6⟩:=hK;exact⟨b,cs,el,zs,by rw[c4];exact p1,p2,by rw[Fe];exact p3,p4,by simp,p6⟩};{have Fe:=y1 (.inr e);rw[c1]at Fe;have:=c3 (by rw[e];simp);subst this;rw[Fe,c4];exact hK};{have L5:ms[q]?=Bm .sm:=by{rw[ai,au y3]at e;rw[au y3];exact congrArg Bm e};have Fe:=Az e2 Jp L5 (y2 e);rw[Nat.zero_add,c1]at Fe;have:=c3 (by rw[e];simp);subst this;rw[Fe,c4];exact hK};{exact(hm.2 rfl).elim}};{cases e:ms.getD q .pl<;>rw[e]at hm<;>first|trivial|exact(hm ⟨by simp,by simp⟩).elim}
theorem DO{q:Nat}{g:Gh}(c2:ms.getD q .pl=.rf->g=.cl [])(c3:ms.getD q .pl≠.rf->g=.pv):g.own=Qf/\g.HE=Qg:=by by_cases e:ms.getD q .pl=.rf;{rw[c2 e];exact⟨rfl,rfl⟩};{rw[c3 e];exact⟨rfl,rfl⟩}
end
def Ah{nt:Nat}{G:GL}{S:St}{xs:List TV}(h:j0 nt G S=Bm xs){k m o:Nat}(hm:(k,.ptr m o)∈G):(fE G xs k).1=.pt:=by unfold j0 vB at h;split at h;{rename_i hv;obtain⟨AW,he⟩:=bG.1 h;cases he;simp only[WV,ah]at AW;obtain⟨i,hi⟩:=List.mem_iff_getElem?.1 hm;have gS:i<xs.length:=by{rw[su hv];exact(aG.1 hi).1};have hx:xs[i]?=Bm xs[i]:=au gS;obtain⟨us,hu⟩:=sv hv hi hx;rw[uO AW.1.1.1.1 hi hx];simp only[C3]at hu;obtain⟨_,h2⟩:=bG.1 hu;split at h2;{obtain⟨_,h3⟩:=bG.1 h2;simp only[aN,Prod.mk.injEq]at h3;exact h3.1.symm};{cases h2}};{cases h}
def Tu{P:Program}{E:cz}{gl:Nat->Option (List Value)}{fn:Func}{sg:fU}{w w0:World}{R0:Reach}{ins outs:List TV}{xs:List Value}{S:St}{a:Act}(hlen:ins.length=xs.length)(hp:xs.length=fn.params.size)(nq:Co fn sg=Qf)(h:wx ⟨P,E,fn.ntmps,w0,R0,B3 sg.md xs,mW xs,gl⟩ S a w)(ho:IQ fn sg=Kk)(he:JF P fn.ntmps fn sg S=Bm (outs++mN sg.md ins)):a.defers=[]/\∃x R' jt ys,(results fn a.tmps).run P w=.ok x w/\Ext w0 R0 (B3 sg.md xs) w R'/\(∀b o,R' b o->b<w.heap.size)/\CI sg R' w (λb=>B3 sg.md xs b\/w0.heap.size<=b) ins xs outs x jt ys:=by
 simp only[Co,ah]at nq;obtain⟨⟨⟨⟨⟨⟨⟨b1,b2⟩,b3⟩,b4⟩,b5⟩,b6⟩,b7⟩,b8⟩:=nq;have b1:fn.ntmps<900000:=Nat.le_of_ble_eq_true b1;have b2:=Nat.le_of_ble_eq_true b2;have b3:=Nat.le_of_ble_eq_true b3;have b4:=az b4;have b5:fn.results.size<1000:=Nat.le_of_ble_eq_true b5;have Jp:sg.md.length<=ins.length:=by{omega};rw[ho,Option.isSome_none,Bool.false_or]at b6;have blt:∀q∈sg.own,q<sg.b9:=λq hq=>Nat.le_of_ble_eq_true (aI.1 b6 q hq);have bs:∀q∈sg.own,Nat.blt q 1000=Qf:=λq hq=>Nat.ble_eq_true_of_le (show q+1<=1000 by have:=blt q hq;omega);have bsm:nj sg.own=Qf:=aI.2 bs;have oV:∀q∈sg.own,∀l,qG l q=l[q]?:=λq hq l=>by{unfold qG;rw[bs q hq,aj]};have oT:∀q∈sg.own,∀l,sS l q=l[q]?:=λq hq l=>by{unfold sS;rw[bs q hq,aj]};obtain⟨R,τ,h⟩:=h;simp only[JF,ho]at he;split at he
 ·rename_i cx S1 hc;split at he
  ·rename_i ys hr;obtain⟨R1,vs,k1,k2,k3,k4,k5,k6⟩:=qp h hc;obtain⟨R2,vf,hs,vO⟩:=rH k1 hr;have he:=Option.some.inj he;have ob:=λ{k g}=>oG hr (k:=k) (g:=g);generalize hH:fE (MC fn sg) ys=H at*;have hl:=yw (H:=H) (ms:=sg.md) (k:=0) Jp;obtain⟨e1,e2⟩:=List.append_inj' he hl;have CO:(qC sg.own H 0 fn.results.toList cx).length=sg.b9:=by{rw[pY k4,b4,Array.length_toList]};have SA:vs.length=sg.b9:=by{rw[k5,b4,Array.length_toList]};have QJ:outs.take sg.b9=qC sg.own H 0 fn.results.toList cx:=by{rw[<-e1,<-CO,List.take_left]};have VT:outs.drop sg.b9=vc H 0 sg.md:=by{rw[<-e1,<-CO,List.drop_left]};have QS:∀q,sg.own.contains q=Qf↔q∈sg.own:=λq=>by{simp};have res:∀q v,vs[q]?=Bm v->∃(r:ResultVar)(x:TV),fn.results.toList[q]?=Bm r/\cx[q]?=Bm x/\(match r with|ResultVar.tmp t=>v=a.tmps.getD t undef|ResultVar.cell _ _=>Rep R1 w x v/\q∉sg.own):=λq v hv=>by
    have gS:=(aG.1 hv).1;have h1:fn.results.toList[q]?=Bm (fn.results.toList[q]'(by omega)):=au _
    have h2:cx[q]?=Bm (cx[q]'(by omega)):=au _
    have:=k6 q _ _ v h1 h2 hv;rw[Nat.zero_add]at this;exact⟨_,_,h1,h2,this⟩
   have KH:∀k x g,H k=(x,g)->k<fn.ntmps->dP R2 w vf x g (a.tmps.getD k undef):=λk x g hk gS=>by{have:=qA hs (t:=k) gS;rw[hk]at this;exact this};have Y7:∀q,q<sg.b9->outs[q]?=(qC sg.own H 0 fn.results.toList cx)[q]?:=λq hq=>by{rw[<-QJ,bg,ar hq]};have own:∀q∈sg.own,∀v,vs[q]?=Bm v->∃y,outs[q]?=Bm y/\v=vf (900000+q)/\H (900000+q)=(y,.pv)/\fi R2 w Qg v y:=λq hq v hv=>by
    obtain⟨r,x,r1,r2,r3⟩:=res q v hv;have gS:=(aG.1 hv).1;cases r with
    |cell=>exact(r3.2 hq).elim
    |tmp t=>obtain⟨m1,m2⟩:=(ux (own:=sg.own) (i:=0) r1).2 (by rw[Nat.zero_add];exact(QS q).2 hq);rw[Nat.zero_add]at m1 m2;obtain⟨x1,c1,_,c2⟩:=ob (List.mem_append_left _ m1);obtain⟨x2,d1,_⟩:=ob (List.mem_append_left _ m2);obtain⟨c3,rfl⟩:=c2 _ rfl;have Ff:=KH t _ _ c1 c3;have hK:=hs.core.key (900000+q);rw[d1]at hK;have AP:v=vf (900000+q):=r3.trans Ff.1;refine⟨x2,?_,AP,d1,by rw[AP];exact hK⟩;rw[Y7 q (by omega),uw r1 r2,Nat.zero_add];simp only[(QS q).2 hq,aj,d1]
   have V6:∀p∈re 0 sg.md,∃x,H p.1=(x,p.2):=λp hp=>by{obtain⟨x,c,_⟩:=ob (List.mem_append_right _ hp);exact⟨x,c⟩};refine⟨hs.defers,_,R2,vs,pf H 0 sg.md ins,pq k3,hs.ext,hs.core.th,⟨SA,?_,by rw[SA],?_,λq hq v y hv hy=>?_,by rw[VT];exact zp Jp,λq y v hy hv=>?_,λq hq v b hv hb=>?_,λj j' i i' v v' b hj wK hv AP hb lu=>?_,λi hi v b hv hb q u hm hu VZ=>?_⟩⟩;{rw[<-e1];simp only[af,CO];omega}
   ·refine hO.of (by simp only[tE,bsm,aj,List.length_mapIdx,aJ];rw[SA,<-e1,af,CO];omega) λq x v hx hv=>?_;simp only[tE,bsm,aj,List.getElem?_mapIdx,aO]at hx;obtain⟨y,hy,rfl⟩:=hx;cases hcq:sg.own.contains q with
    |true=>exact .pt _
    |false=>
     rw[ae];obtain⟨r,x,r1,r2,r3⟩:=res q v hv;rw[QJ,uw r1 r2,Nat.zero_add]at hy;cases r with
     |cell=>cases hy;exact r3.1.mono vO
     |tmp t=>simp only[hcq,ae,aN]at hy;subst hy;have m1:=(ux (own:=sg.own) (i:=0) r1).1 (by rw[Nat.zero_add];exact hcq);obtain⟨x1,c1,c2,_⟩:=ob (List.mem_append_left _ m1);rw[c1,r3];exact jH.rep (KH t _ _ c1 (c2 rfl))
   {rw[oV q hq]at hv;rw[oT q hq]at hy;obtain⟨y',o1,_,_,o2⟩:=own q hq v hv;rw[o1]at hy;cases hy;exact o2};{exact E1 hs V6 Jp e2 hy hv};{rw[oV q hq]at hv;obtain⟨y,_,o1,o2,_⟩:=own q hq v hv;rw[o1]at hb;exact hs.core.dz (900000+q) b (gC (by rw[o2];rfl) (by rw[o2];rfl) hb)};{rw[oV i (aP hj)]at hv;rw[oV i' (aP wK)]at AP;obtain⟨y,_,o1,o2,_⟩:=own i (aP hj) v hv;obtain⟨y',_,o1',o2',_⟩:=own i' (aP wK) v' AP;rw[o1]at hb;rw[o1']at lu;have:=hs.core.sR (gC (by rw[o2];rfl) (by rw[o2];rfl) hb) (gC (by rw[o2'];rfl) (by rw[o2'];rfl) lu);have:i=i':=by{omega};subst this;exact EE b7 hj wK};{rw[oV i hi]at hv;obtain⟨y,_,o1,o2,_⟩:=own i hi v hv;obtain⟨x,g,c1,c2,c3,c4⟩:=yx hs V6 hm hu;rw[o1]at hb;rw[c4]at VZ;have Vz:=DO c2 c3;have:=hs.core.sR (gC (by rw[o2];rfl) (by rw[o2];rfl) hb) (gC (by rw[c1];exact Vz.1) (by rw[c1];exact Vz.2) VZ);have gS:=(aG.1 hv).1;have:fn.results.size=sg.b9:=b4.symm;omega}
  {cases he}
 {cases he}
def Tr{P:Program}{E:cz}{gl:Nat->Option (List Value)}{fn:Func}{sg:fU}{w w0:World}{R0:Reach}{ins outs:List TV}{xs:List Value}{S:St}{a:Act}{r c:Nat}{t:TypeId}(hlen:ins.length=xs.length)(hp:xs.length=fn.params.size)(nq:Co fn sg=Qf)(h:wx ⟨P,E,fn.ntmps,w0,R0,B3 sg.md xs,mW xs,gl⟩ S a w)(ho:IQ fn sg=Bm ((r,t),c))(he:JF P fn.ntmps fn sg S=Bm (outs++mN sg.md ins)):a.defers=[]/\∃x R' jt ys,(results fn a.tmps).run P w=.ok x w/\Ext w0 R0 (B3 sg.md xs) w R'/\(∀b o,R' b o->b<w.heap.size)/\CI sg R' w (λb=>B3 sg.md xs b\/w0.heap.size<=b) ins xs outs x jt ys:=by
 simp only[Co,ah]at nq;obtain⟨⟨⟨⟨⟨⟨⟨b1,b2⟩,b3⟩,b4⟩,b5⟩,b6⟩,b7⟩,b8⟩:=nq;have b1:fn.ntmps<900000:=Nat.le_of_ble_eq_true b1;have b3:=Nat.le_of_ble_eq_true b3;have b4:=az b4;have Jp:sg.md.length<=ins.length:=by{omega};obtain⟨R,τ,h⟩:=h;simp only[JF,ho]at he;obtain⟨LZ,Jm⟩:fn.results.toList=[.cell r t]/\sg.own=[1000+c]:=by
  unfold IQ at ho;split at ho
  ·rename_i a' t' j h1 h2;cases hb:Nat.blt j 1000 with
   |true=>rw[hb]at ho;cases ho
   |false=>rw[hb]at ho;cases ho;have:1000<=j:=Nat.le_of_not_lt λgS=>by{rw[show Nat.blt j 1000=Qf from Nat.ble_eq_true_of_le gS]at hb;cases hb};rw[h1,h2,show 1000+(j -1000)=j by omega];exact⟨rfl,rfl⟩
  {cases ho}
 have xq:sg.b9=1:=by{rw[b4,<-Array.length_toList,LZ];rfl};unfold Wb at he;split at he
 ·rename_i m n hSa SF;split at he
  ·rename_i ys hr;obtain⟨R2,vf,hs,vO⟩:=rH h hr;have ob:=λ{k g}=>oG hr (k:=k) (g:=g);generalize hH:fE (JG r m c sg) ys=H at*;obtain⟨x1,c1,_,_⟩:=ob (k:=r) (g:=.ptr m 0) (List.mem_cons_self ..);obtain⟨x2,c2,_,_⟩:=ob (k:=m) (g:=.cl [(c,900000)]) (List.mem_cons_of_mem _ (List.mem_cons_self ..));obtain⟨y,c3,_,_⟩:=ob (k:=900000) (g:=.pv) (List.mem_cons_of_mem _ (List.mem_cons_of_mem _ (List.mem_cons_self ..)));have V6:∀p∈re 0 sg.md,∃x,H p.1=(x,p.2):=λp hp=>by{obtain⟨x,c,_⟩:=ob (List.mem_cons_of_mem _ (List.mem_cons_of_mem _ (List.mem_cons_of_mem _ hp)));exact⟨x,c⟩};rw[c2]at he;split at he
   ·rename_i cs g e;cases e;obtain⟨hh,he⟩:=bG.1 he;simp only[ah]at hh;have hn:=az hh.1;have CO:r<fn.ntmps:=Nat.le_of_ble_eq_true hh.2;have he:=Option.some.inj he;have hl:=yw (H:=H) (ms:=sg.md) (k:=0) Jp;rw[<-List.cons_append]at he;obtain⟨e1,e2⟩:=List.append_inj' he hl;rw[c3]at e1;have AQ:=qA hs (t:=r) CO;rw[c1]at AQ;have hV:=hs.core.key m;rw[c2]at hV;obtain⟨b,zs,el,NB,p1,p2,p3,p4,p5,p6⟩:=hV;cases p3;have hv:a.tmps.getD r undef=.pointer (Bm ⟨b,0,Kk⟩):=by{have Jj:=Ah hr (List.mem_cons_self ..);rw[hH,c1]at Jj;simp only at Jj;subst Jj;obtain⟨b',q1,q2⟩:∃b',vf m=.pointer (Bm ⟨b',0,Kk⟩)/\a.tmps.getD r undef=.pointer (Bm ⟨b',0,Kk⟩):=AQ;rw[p1]at q1;cases q1;exact q2};have hy:=p5 (c,900000) (List.mem_singleton.2 rfl);simp only at hy;have hK:=hs.core.key 900000;rw[c3]at hK;obtain⟨inf,hi,rk,ha⟩:=ig SF;have HK:=p4.length;have Fh:c<zs.length:=(aG.1 hy).1;have lr:(fn.results.toList.mapM (BF a.tmps)).run P w=.ok [.agg ⟨zs⟩] w:=by{rw[LZ];simp only[List.mapM_cons,List.mapM_nil,BF,hv,asAddr,Sem.run_bind,Sem.run_pure,Result.andThen_ok,j9 hi ha (.inl rfl) (w:=w) (b:=b) (off:=0) (ys:=zs) (by omega) (λj y hj=>by simp only[World.cell?,p2];simpa using hj),if_true]};have VD:Nat.blt (1000+c) 1000=Qg:=by
     cases hb:Nat.blt (1000+c) 1000 with
     |false=>rfl
     |true=>have:1000+c+1<=1000:=Nat.le_of_ble_eq_true hb;omega
    have oV:∀q∈sg.own,∀v,qG [.agg ⟨zs⟩] q=Bm v->v=vf 900000:=λq hq v hv=>by{rw[Jm,List.mem_singleton]at hq;subst hq;unfold qG at hv;simp only[VD,ae,List.getElem?_cons_zero,Nat.add_sub_cancel_left]at hv;rw[hy]at hv;cases hv;rfl};have hob:∀{v b},v=vf 900000->Value.fP v=Bm b->fP vf H 900000=Bm b:=λe hb=>by{subst e;exact gC (by rw[c3];rfl) (by rw[c3];rfl) hb};refine⟨hs.defers,_,R2,[.agg ⟨zs⟩],pf H 0 sg.md ins,pq lr,hs.ext,hs.core.th,⟨xq.symm,?_,by rw[xq];rfl,?_,λq hq v y' hv Fe=>?_,by rw[xq,<-e1];exact zp Jp,λq y v hy hv=>?_,λq hq v b hv hb=>?_,λj j' i i' v v' b hj wK hv AP hb lu=>?_,λi hi v b hv hb q u hm hu VZ=>?_⟩⟩;{rw[xq,<-e1];simp};{have Vx:nj [1000+c]=Qg:=by{unfold nj;rw[List.all_cons,VD];rfl};rw[xq,<-e1,Jm];simp only[List.take_succ_cons,List.take_zero,tE,Vx,ae,bc,bt,WU];refine .cons (.ag ?_) .nil;have:((cs.set c y).mapIdx λk z=>cond ([1000+c].contains (1000+k)) TV.pt z)=cs.set c .pt:=by{apply List.ext_getElem?;intro k;rw[List.getElem?_mapIdx,List.getElem?_set,List.getElem?_set];by_cases e:c=k;{subst e;simp[show c<cs.length by omega]};{have e':¬k=c:=λh=>e h.symm;simp[e,e']}};rw[this];exact p4.set λ_ _=>.pt _};{rw[oV q hq v hv];rw[Jm,List.mem_singleton]at hq;subst hq;unfold sS at Fe;rw[<-e1]at Fe;simp only[VD,ae,List.getElem?_cons_zero,Nat.add_sub_cancel_left,List.getElem?_set,if_true,show c<cs.length by omega]at Fe;cases Fe;exact hK};{exact E1 hs V6 Jp e2 hy hv};{exact hs.core.dz 900000 b (hob (oV q hq v hv) hb)};{rw[Jm]at hj wK;have:=(aG.1 hj).1;have:=(aG.1 wK).1;simp at*;omega};{obtain⟨x,g,d1,d2,d3,d4⟩:=yx hs V6 hm hu;rw[d4]at VZ;have Vz:=DO d2 d3;have:=hs.core.sR (hob (oV i hi v hv) hb) (gC (by rw[d1];exact Vz.1) (by rw[d1];exact Vz.2) VZ);omega}
   {cases he}
  {cases he}
 {cases he}
def Ts{P:Program}{E:cz}{gl:Nat->Option (List Value)}{fn:Func}{sg:fU}{w w0:World}{R0:Reach}{ins outs:List TV}{xs:List Value}{S:St}{a:Act}(hlen:ins.length=xs.length)(hp:xs.length=fn.params.size)(nq:Co fn sg=Qf)(h:wx ⟨P,E,fn.ntmps,w0,R0,B3 sg.md xs,mW xs,gl⟩ S a w)(he:JF P fn.ntmps fn sg S=Bm (outs++mN sg.md ins)):a.defers=[]/\∃x R' jt ys,(results fn a.tmps).run P w=.ok x w/\Ext w0 R0 (B3 sg.md xs) w R'/\(∀b o,R' b o->b<w.heap.size)/\CI sg R' w (λb=>B3 sg.md xs b\/w0.heap.size<=b) ins xs outs x jt ys:=by
 cases ho:IQ fn sg with
 |none=>exact Tu hlen hp nq h ho he
 |some p=>obtain⟨⟨r,t⟩,c⟩:=p;exact Tr hlen hp nq h ho he
def FT:∀{rs:List ResultVar}{i q t:Nat},rs[q]?=Bm (.tmp t)->(t,.no)∈pZ [] i rs:=λ{rs i q t}h=>(ux (own:=[]) (i:=i) h).1 (by simp)
theorem AA(ins:List TV):mN [] ins=[]:=by cases ins<;>rfl
def Hd{C:Ctx}{a:Act}{w:World}{R1 R2:Reach}{vf:Nat->Value}{G:GL}{ys cx:List TV}{S:St}{rs:List ResultVar}{i:Nat}{vs:List Value}(hr:j0 C.nt G S=Bm ys)(hs:eI C (fE G ys) a w R2 vf)(dr:eH R1 w R2 w)(hG:∀p∈pZ [] i rs,p∈G)(k4:cx.length=rs.length)(k5:vs.length=rs.length)(k6:∀(q:Nat)(r:ResultVar)(x:TV)(v:Value),rs[q]?=Bm r->cx[q]?=Bm x->vs[q]?=Bm v->match r with|.tmp t=>v=a.tmps.getD t undef|.cell _ _=>Rep R1 w x v/\(i+q)∉([]:List Nat)):hO R2 w (qC [] (fE G ys) i rs cx) vs:=by
 refine hO.of (by rw[pY k4,k5]) λq x v hx hv=>?_;have gS:=(aG.1 hv).1;have h1:rs[q]?=Bm (rs[q]'(by omega)):=au _
 have h2:cx[q]?=Bm (cx[q]'(by omega)):=au _
 have h3:=k6 q _ _ v h1 h2 hv;rw[uw h1 h2]at hx;generalize rs[q]'(by omega)=r at*
 cases r with
 |cell=>cases hx;exact h3.1.mono dr
 |tmp t=>simp only[List.contains_nil,ae,aN]at hx;subst hx;obtain⟨x1,c1,c2,_⟩:=oG hr (hG _ (FT h1));have Ff:=qA hs (t:=t) (c2 rfl);rw[c1]at Ff;rw[c1,h3];exact jH.rep Ff
def GX(xs:List Value)(i:Nat)(u:Value)(k:Nat):Value:=if k<1000000 then xs.getD k undef else if k=1000000 then xs.getD i undef else if k=1000001 then u else undef
def W6(b:Nat)(e:Bool)(u:Value)(g:Nat):Prop:=g=b\/(e=Qf/\Value.fP u=Bm g)
def Nl{P:Program}{E:cz}{gl:Nat->Option (List Value)}{nt i c b:Nat}{e:Bool}{w:World}{R:Reach}{ins x:List TV}{xs zs:List Value}{u:Value}{y:TV}{el:TypeId}(hn:xs.length<=nt)(NH:nt<=1000000)(hR:∀b o,R b o->b<w.heap.size)(CQ:GlOK gl R w)(hl:ins.length=xs.length+1)(zF:∀j x v,j≠i->ins[j]?=Bm x->xs[j]?=Bm v->Rep R w x v)(Ul:xs[i]?=Bm (.pointer (Bm ⟨b,0,Kk⟩)))(QO:ins[i]?=Bm (.ag x))(hb:w.heap[b]?=Bm (.cells ⟨zs⟩ el (0,0)))(hL:dn R w x zs)(S5:∀o,¬R b o)(hu:zs[c]?=Bm u)(hy:ins[xs.length]?=Bm y)(he:e=Qf->fi R w Qg u y/\Value.fP u≠Bm b):eI ⟨P,E,nt,w,R,W6 b e u,GX xs i u,gl⟩ (J6 xs.length i c e ins) {tmps:=(⟨xs⟩:Array Value)++Array.replicate (nt -xs.length) undef,defers:=[]} w R (GX xs i u):=by
 have hi:i<xs.length:=(aG.1 Ul).1;have blt:∀{k n:Nat},¬k<n->Nat.blt k n=Qg:=λ{k n}h=>by
  cases hb:Nat.blt k n with
  |false=>rfl
  |true=>exact absurd (Nat.le_of_ble_eq_true hb:k+1<=n) (by omega)
 have bne:∀{k n:Nat},k≠n->Nat.beq k n=Qg:=λ{k n}h=>by
  cases hb:Nat.beq k n with
  |false=>rfl
  |true=>exact absurd (az hb) h
 have s1:∀k,k<xs.length->J6 xs.length i c e ins k=if k=i then(.pt,.ptr 1000000 0)else(ins.getD k .dead,.no):=λk hk=>by{unfold J6;rw[show Nat.blt k xs.length=Qf from Nat.ble_eq_true_of_le hk,aj];by_cases h:k=i;{subst h;simp};{rw[bne h,ae,ak h]}};have s2:J6 xs.length i c e ins 1000000=(.ag x,.cl (cond e [(c,1000001)] [])):=by{unfold J6;rw[blt (by omega),ae];simp only[Nat.beq_refl,aj];rw[ai,QO];rfl};have s3:e=Qf->J6 xs.length i c e ins 1000001=(y,.pv):=λhe=>by{unfold J6;rw[blt (by omega),ae,bne (by omega),ae,he];simp only[Nat.beq_refl,Bool.true_and,aj];rw[ai,hy];rfl};have s4:∀k,xs.length<=k->k≠1000000->(k=1000001->e=Qg)->J6 xs.length i c e ins k=(.dead,.no):=λk h1 h2 h3=>by{unfold J6;rw[blt (by omega),ae,bne h2,ae];by_cases h:k=1000001;{rw[h3 h];rfl};{rw[bne h,Bool.and_false,ae]}};have cs:∀k,k<xs.length\/k=1000000\/(k=1000001/\e=Qf)\/(xs.length<=k/\k≠1000000/\(k=1000001->e=Qg)):=λk=>by
  by_cases h1:k<xs.length;{exact .inl h1};by_cases h2:k=1000000;{exact .inr (.inl h2)};cases e with
  |true=>by_cases h3:k=1000001;{exact .inr (.inr (.inl ⟨h3,rfl⟩))};{exact .inr (.inr (.inr ⟨by omega,h2,λh=>(h3 h).elim⟩))}
  |false=>exact .inr (.inr (.inr ⟨by omega,h2,λ_=>rfl⟩))
 have t1:∀k,k<xs.length->GX xs i u k=xs.getD k undef:=λk hk=>by{unfold GX;rw[ar (by omega)]};have t2:GX xs i u 1000000=.pointer (Bm ⟨b,0,Kk⟩):=by{unfold GX;rw[ak (by omega),ar rfl,ai,Ul];rfl};have t3:GX xs i u 1000001=u:=by{unfold GX;rw[ak (by omega),ak (by omega),ar rfl]};have own:∀k,(J6 xs.length i c e ins k).2.own=Qf->k=1000000\/(k=1000001/\e=Qf):=λk ho=>by{rcases cs k with h|h|h|⟨h1,h2,h3⟩;{rw[s1 k h]at ho;split at ho<;>cases ho};{exact .inl h};{exact .inr h};{rw[s4 k h1 h2 h3]at ho;cases ho}};have bk:∀k g,fP (GX xs i u) (J6 xs.length i c e ins) k=Bm g->(k=1000000/\g=b)\/(k=1000001/\e=Qf/\Value.fP u=Bm g):=λk g hb=>by{obtain⟨o1,b1⟩:=ft hb;rcases own k o1 with rfl|⟨rfl,h⟩;{rw[t2]at b1;cases b1;exact .inl ⟨rfl,rfl⟩};{rw[t3]at b1;exact .inr ⟨rfl,h,b1⟩}};refine⟨by simp;omega,rfl,⟨λk=>?_,λk k' g hb lu=>?_,λk g hb=>?_,λj k hk=>?_,hR,λk hk=>?_,λk d hk=>?_⟩,λt ht=>?_,⟨NH,λk _=>rfl⟩,Ext.refl _ _ _,CQ⟩
 ·rcases cs k with h|rfl|⟨rfl,h⟩|⟨h1,h2,h3⟩;{rw[s1 k h,t1 k h];by_cases hk:k=i;{subst hk;rw[ar rfl];exact⟨b,t2,by rw[ai,Ul];rfl⟩};{rw[ak hk];have e1:xs[k]?=Bm (xs.getD k undef):=by{rw[ai,au h];rfl};have e2:ins[k]?=Bm (ins.getD k .dead):=by{rw[ai,au (by omega:k<ins.length)];rfl};exact dP.no (zF k _ _ hk e2 e1)}}
  ·rw[s2,t2];refine⟨b,zs,el,x,rfl,hb,rfl,hL,λt ht=>?_,S5⟩;cases e with
   |false=>cases ht
   |true=>rw[aj,List.mem_singleton]at ht;subst ht;rw[t3];exact hu
  {rw[s3 h,t3];exact(he h).1};{rw[s4 k h1 h2 h3];exact dP.no (τ:=GX xs i u) (.dead _)}
 {rcases bk k g hb with⟨rfl,rfl⟩|⟨rfl,h,e1⟩<;>rcases bk k' _ lu with⟨rfl,h2⟩|⟨rfl,h2,e2⟩;{rfl};{exact((he h2).2 e2).elim};{subst h2;exact((he h).2 e1).elim};{rfl}};{rcases bk k g hb with⟨_,rfl⟩|⟨_,h,e1⟩;{exact .inl (.inl rfl)};{exact .inl (.inr ⟨h,e1⟩)}}
 ·rcases cs j with h|rfl|⟨rfl,h⟩|⟨h1,h2,h3⟩;{rw[s1 j h]at hk;split at hk;{simp only[Gh.cQ,List.mem_singleton]at hk;subst hk;exact⟨NH,by rw[s2];simp⟩};{cases hk}}
  ·rw[s2]at hk;cases e with
   |false=>cases hk
   |true=>simp only[aj,Gh.cQ,bc,bt,List.mem_singleton]at hk;subst hk;exact⟨by show nt<=1000001;omega,by rw[s3 rfl];simp⟩
  {rw[s3 h]at hk;cases hk};{rw[s4 j h1 h2 h3]at hk;cases hk}
 {have hk:k<nt:=hk;rcases cs k with h|rfl|⟨rfl,h⟩|⟨h1,h2,h3⟩;{rw[s1 k h];split<;>rfl};{omega};{omega};{rw[s4 k h1 h2 h3];rfl}};{rcases cs k with h|rfl|⟨rfl,h⟩|⟨h1,h2,h3⟩;{rw[s1 k h]at hk;split at hk<;>cases hk};{rw[s2]at hk;cases hk};{rw[s3 h]at hk;cases hk};{rw[s4 k h1 h2 h3]at hk;cases hk}};{have ht:t<nt:=ht;unfold GX;rw[ar (by omega)];simp only[Array.getD_eq_getD_getElem?,Array.getElem?_append,List.size_toArray];by_cases h:t<xs.length;{simp[h,ai]};{have Un:t -xs.length<nt -xs.length:=by{omega};rw[ak h,ai,List.getElem?_eq_none (by omega)];simp[Un]}}
def Tq{P:Program}{E:cz}{gl:Nat->Option (List Value)}{fn:Func}{c b:Nat}{e:Bool}{u:Value}{Ug:Nat->Value}{w w0:World}{R0:Reach}{outs:List TV}{S:St}{a:Act}(ht0:Ug 1000000=.pointer (Bm ⟨b,0,Kk⟩))(h:wx ⟨P,E,fn.ntmps,w0,R0,W6 b e u,Ug,gl⟩ S a w)(he:Tk P fn.ntmps fn c S=Bm outs):a.defers=[]/\∃R' jt GY NQ x' u' y',(results fn a.tmps).run P w=.ok (if jt.length=1 then jt.headD undef else .tuple ⟨jt⟩) w/\Ext w0 R0 (W6 b e u) w R'/\(∀b o,R' b o->b<w.heap.size)/\jt.length=fn.results.size/\outs.drop fn.results.size=[.ag x',y']/\hO R' w (outs.take fn.results.size) jt/\w.heap[b]?=Bm (.cells ⟨GY⟩ NQ (0,0))/\dn R' w x' GY/\(∀o,¬R' b o)/\GY[c]?=Bm u'/\fi R' w Qg u' y'/\∀g,Value.fP u'=Bm g->g≠b/\((e=Qf/\Value.fP u=Bm g)\/w0.heap.size<=g):=by obtain⟨R,τ,h⟩:=h;unfold Tk at he;(split at he<;>try(cases he;done));rename_i cx S1 hc;(split at he<;>try(cases he;done));rename_i ys hr;obtain⟨R1,vs,k1,k2,k3,k4,k5,k6⟩:=qp h hc;obtain⟨R2,vf,hs,vO⟩:=rH k1 hr;have he:=Option.some.inj he;have ob:=λ{k g}=>oG hr (k:=k) (g:=g);have j7:=Hd hr hs vO (i:=0) (rs:=fn.results.toList) (λp hp=>List.mem_cons_of_mem _ (List.mem_cons_of_mem _ hp)) k4 k5 k6;obtain⟨x1,c1,_,_⟩:=ob (k:=1000000) (g:=.cl [(c,910000)]) (List.mem_cons_self ..);obtain⟨y1,c2,_,_⟩:=ob (k:=910000) (g:=.pv) (List.mem_cons_of_mem _ (List.mem_cons_self ..));generalize hH:fE ((1000000,.cl [(c,910000)])::(910000,.pv)::pZ [] 0 fn.results.toList) ys=H at*;rw[c1,c2]at he;have CO:(qC [] H 0 fn.results.toList cx).length=fn.results.size:=by{rw[pY k4,Array.length_toList]};have SA:vs.length=fn.results.size:=by{rw[k5,Array.length_toList]};have NN:=hs.core.key 1000000;rw[c1]at NN;obtain⟨b',zs,el,x2,p1,p2,p3,p4,p5,p6⟩:=NN;have lu:vf 1000000=.pointer (Bm ⟨b,0,Kk⟩):=(hs.io.2 1000000 (Nat.le_refl _)).trans ht0;rw[lu]at p1;cases p1;simp only at p3;subst p3;have Kf:=hs.core.key 910000;rw[c2]at Kf;have vQ:fP vf H 1000000=Bm b:=gC (by rw[c1];rfl) (by rw[c1];rfl) (by rw[lu];rfl);refine⟨hs.defers,R2,vs,zs,el,x2,vf 910000,y1,pq k3,hs.ext,hs.core.th,SA,?_,?_,p2,p4,p6,p5 _ (List.mem_singleton.2 rfl),Kf,λg hg=>?_⟩;{rw[<-he,<-CO,List.drop_left]};{rw[<-he,<-CO,List.take_left];exact j7};{have wX:fP vf H 910000=Bm g:=gC (by rw[c2];rfl) (by rw[c2];rfl) hg;have nc:g≠b:=λe=>by{subst e;have:=hs.core.sR vQ wX;omega};refine⟨nc,?_⟩;rcases hs.core.dz 910000 g wX with(h|h)|h;{exact(nc h).elim};{exact .inl h};{exact .inr h}}
def Tt{P:Program}{E:cz}{gl:Nat->Option (List Value)}{fn:Func}{oc:Option Nat}{Ug:Nat->Value}{io:Nat->Prop}{w w0:World}{R0:Reach}{outs:List TV}{S:St}{a:Act}(HM:∀b,¬io b)(NH:fn.ntmps<900000)(h:wx ⟨P,E,fn.ntmps,w0,R0,io,Ug,gl⟩ S a w)(he:Tl P fn.ntmps fn oc S=Bm outs):a.defers=[]/\∃R' jt b zs el x rs,(results fn a.tmps).run P w=.ok (if jt.length+1=1 then .pointer (Bm ⟨b,0,Kk⟩)else .tuple ⟨.pointer (Bm ⟨b,0,Kk⟩)::jt⟩) w/\Ext w0 R0 (λ_=>False) w R'/\(∀b o,R' b o->b<w.heap.size)/\jt.length+1=fn.results.size/\outs.take fn.results.size=.ag x::rs/\hO R' w rs jt/\w0.heap.size<=b/\w.heap[b]?=Bm (.cells ⟨zs⟩ el (0,0))/\dn R' w x zs/\(∀o,¬R' b o)/\WB R' w w0.heap.size b zs (outs.drop fn.results.size) oc:=by
 obtain⟨R,τ,h⟩:=h;unfold Tl at he;(split at he<;>try(cases he;done));rename_i t RV LZ;(split at he<;>try(cases he;done));rename_i m hSt;(split at he<;>try(cases he;done));rename_i cx S1 hc;(split at he<;>try(cases he;done));rename_i ys hr;obtain⟨R1,vs,k1,k2,k3,k4,k5,k6⟩:=qp h hc;obtain⟨R2,vf,hs,vO⟩:=rH k1 hr;have he:=Option.some.inj he;have ob:=λ{k g}=>oG hr (k:=k) (g:=g);have j7:=Hd hr hs vO (i:=1) (rs:=RV) (λp hp=>List.mem_append_right _ hp) k4 k5 k6;have rk:fn.results.size=RV.length+1:=by{rw[<-Array.length_toList,LZ];rfl};have g1:(t,.ptr m 0)∈gN t m oc:=by{cases oc<;>exact List.mem_cons_self ..};have g2:∃ts,(m,.cl ts)∈gN t m oc/\(match oc with|none=>ts=[]|some c=>ts=[(c,910000)]/\(910000,.pv)∈gN t m oc):=by
  cases oc with
  |none=>exact⟨_,List.mem_cons_of_mem _ (List.mem_cons_self ..),rfl⟩
  |some c=>exact⟨_,List.mem_cons_of_mem _ (List.mem_cons_self ..),rfl,List.mem_cons_of_mem _ (List.mem_cons_of_mem _ (List.mem_cons_self ..))⟩
 obtain⟨ts,g2,g3⟩:=g2;obtain⟨x0,c0,_,_⟩:=ob (List.mem_append_left _ g1);obtain⟨x1,c1,_,_⟩:=ob (List.mem_append_left _ g2);have Ym:=Ah hr (List.mem_append_left _ g1);rw[c0]at Ym;simp only at Ym;subst Ym;generalize hH:fE (gN t m oc++pZ [] 1 RV) ys=H at*;have CO:(qC [] H 1 RV cx).length=RV.length:=pY k4;have NN:=hs.core.key m;rw[c1]at NN;obtain⟨b,zs,el,x2,p1,p2,p3,p4,p5,p6⟩:=NN;simp only at p3;subst p3;have Xs:=hs.core.key t;rw[c0]at Xs;have QI:t<fn.ntmps\/¬t<fn.ntmps:=Nat.lt_or_ge ..|>.imp id Nat.not_lt.2;have vQ:fP vf H m=Bm b:=gC (by rw[c1];rfl) (by rw[c1];rfl) (by rw[p1];rfl);have Uv:w0.heap.size<=b:=(hs.core.dz m b vQ).resolve_left (HM b);have hv:a.tmps.getD t undef=.pointer (Bm ⟨b,0,Kk⟩):=by{have htn:t<fn.ntmps:=by{have hh:=hr;unfold j0 vB at hh;split at hh;{rename_i hvv;obtain⟨i,hi⟩:=List.mem_iff_getElem?.1 (List.mem_append_left (pZ [] 1 RV) g1);obtain⟨us,hu⟩:=sv hvv hi (x:=_) (au (by rw[su hvv];exact(aG.1 hi).1));simp only[C3]at hu;exact Nat.le_of_ble_eq_true (bG.1 hu).1};{cases hh}};have Ff:=qA hs (t:=t) htn;rw[c0]at Ff;obtain⟨b',q1,q2⟩:∃b',vf m=.pointer (Bm ⟨b',0,Kk⟩)/\a.tmps.getD t undef=.pointer (Bm ⟨b',0,Kk⟩):=Ff;rw[p1]at q1;cases q1;exact q2};have lr:(fn.results.toList.mapM (BF a.tmps)).run P w=.ok (.pointer (Bm ⟨b,0,Kk⟩)::vs) w:=by{rw[LZ];simp only[List.mapM_cons,BF,Sem.run_bind,Sem.run_pure,Result.andThen_ok,k3,hv]};have Zw:=pq lr;rw[c1]at he;refine⟨hs.defers,R2,vs,b,zs,el,x2,qC [] H 1 RV cx,?_,⟨hs.ext.os,hs.ext.tape,hs.ext.output,hs.ext.size,λg hg _=>hs.ext.heap g hg (HM g),hs.ext.dr,λg o hg=>(hs.ext.BE g o hg).imp id λh=>h.imp id (HM g)⟩,hs.core.th,by rw[k5,rk],?_,j7,Uv,p2,p4,p6,?_⟩;{rw[Zw];simp only[av];split<;>rfl};{rw[<-he,rk,List.take_succ_cons,<-CO,List.take_left]}
 ·cases oc with
  |none=>show outs.drop fn.results.size=[];rw[<-he,rk,List.drop_succ_cons,<-CO,List.drop_left]
  |some k=>obtain⟨rfl,g4⟩:=g3;obtain⟨y1,c2,_,_⟩:=ob (List.mem_append_left _ g4);have Kf:=hs.core.key 910000;rw[c2]at Kf;refine⟨y1,vf 910000,?_,p5 _ (List.mem_singleton.2 rfl),Kf,λg hg=>?_⟩;{rw[<-he,rk,List.drop_succ_cons,<-CO,List.drop_left];simp only[c2]};{have wX:fP vf H 910000=Bm g:=gC (by rw[c2];rfl) (by rw[c2];rfl) hg;have nc:g≠b:=λe=>by{subst e;have:=hs.core.sR vQ wX;rw[this]at c1;rw[c1]at c2;cases c2};exact⟨nc,(hs.core.dz 910000 g wX).resolve_left (HM g)⟩}
def G5{P:Program}{E:cz}{gl:Nat->Option (List Value)}(hE:ku P E)(hF:∀f,fX P gl f (E.fs f)){f:Nat}{c:cX}{sg:fU}(hint:Hint)(hG:∀ins outs,(c ins).holds outs->bT P E f sg hint ins=Bm (outs++mN sg.md ins)):fX P gl f (c,sg):=by
 have base:∀{ins outs:List TV},(c ins).holds outs->∃fn body,P.funcs[f]?=Bm fn/\fn.body=Bm body/\Co fn sg=Qf/\JE fn sg ins=Qf/\om P f=Qf/\fn.ntmps<900000/\fn.params.size<=fn.ntmps/\fn.results.size=sg.b9/\o0 P E fn.ntmps body hint (Uj fn.params.size sg ins) (GC P fn.ntmps fn sg)=Bm (outs++mN sg.md ins):=λ{ins outs}hc=>by{have hr:=hG ins outs hc;unfold bT at hr;(split at hr<;>try(cases hr;done));rename_i fn hf;(split at hr<;>try(cases hr;done));rename_i body hb;obtain⟨h1,hr⟩:=bG.1 hr;simp only[ah]at h1;obtain⟨nq,hl⟩:=h1;have QQ:=nq;simp only[Co,ah]at QQ;obtain⟨⟨⟨⟨⟨⟨⟨b1,b2⟩,b3⟩,b4⟩,b5⟩,b6⟩,b7⟩,b8⟩:=QQ;refine⟨fn,body,hf,hb,nq,hl,?_,Nat.le_of_ble_eq_true b1,Nat.le_of_ble_eq_true b2,(az b4).symm,by rw[HW];exact hr⟩;unfold om;rw[hf];simp only[Option.any_some,hb,Option.isSome_some,Bool.true_and];exact b8};unfold fX;split<;>rename_i hk<;>simp only at hk
 ·intro ins outs hc;obtain⟨fn,body,hf,hb,nq,hl,L2,b1,b2,b3,hr⟩:=base hc;simp only[JE,Uj,GC,hk]at hl hr;have hl:=az hl;refine⟨L2,λw R xs hR CQ ha hs=>?_⟩;have hx:xs.length=fn.params.size:=by{rw[<-ha.1,hl]};refine calls_of_wp hf hb ?_;have rk:(⟨xs⟩:Array Value).size=xs.length:=rfl;rw[rk];have Mb:=EX (P:=P) (E:=E) (nt:=fn.ntmps) (by omega) (by omega) hR CQ ha hs;rw[<-hx]at hr;refine Gw (C:=⟨P,E,fn.ntmps,w,R,B3 sg.md xs,mW xs,gl⟩) hE hF body ⟨R,_,Mb⟩ hr λe S' a' w' h' hq=>?_;have fin:Ex P fn.ntmps fn sg S'=Bm (outs++mN sg.md ins)->_:=λhq=>by{simp only[Ex,hk]at hq;exact Ts ha.1 hx nq h' hq};cases e with
  |ret=>obtain⟨d,x,R',jt,ys,k1,k2,k3,k4⟩:=fin hq;exact⟨d,x,k1,x,R',jt,ys,rfl,k2,k3,k4⟩
  |normal=>obtain⟨d,x,R',jt,ys,k1,k2,k3,k4⟩:=fin hq;exact⟨d,x,k1,x,R',jt,ys,rfl,k2,k3,k4⟩
  |_=>cases hq
 ·rename_i i k e;intro ins outs hc;obtain⟨fn,body,hf,hb,nq,hl,L2,b1,b2,b3,hr⟩:=base hc;simp only[JE,Uj,GC,hk,ah]at hl hr;obtain⟨hm,hl⟩:=hl;have hl:=az hl;have L5:sg.md=[]:=by{simpa using hm};rw[L5,AA,aR]at hr;refine⟨L2,λw R xs b zs el x u y hR CQ Pj zF Ul QO hbb hL S5 hu hy he=>?_⟩;have hx:xs.length=fn.params.size:=by{omega};refine calls_of_wp hf hb ?_;have rk:(⟨xs⟩:Array Value).size=xs.length:=rfl;rw[rk];have Mb:=Nl (P:=P) (E:=E) (nt:=fn.ntmps) (by omega) (by omega) hR CQ Pj zF Ul QO hbb hL S5 hu hy he;rw[<-hx]at hr;refine Gw (C:=⟨P,E,fn.ntmps,w,R,W6 b e u,GX xs i u,gl⟩) hE hF body ⟨R,_,Mb⟩ hr λe' S' a' w' h' hq=>?_;have ht0:GX xs i u 1000000=.pointer (Bm ⟨b,0,Kk⟩):=by{unfold GX;rw[ak (by omega),ar rfl,ai,Ul];rfl};have fin:Ex P fn.ntmps fn sg S'=Bm outs->_:=λhq=>by{simp only[Ex,hk]at hq;exact Tq ht0 h' hq};rw[<-b3];cases e' with
  |ret=>obtain⟨d,R',jt,GY,NQ,x',u',y',k1,k2⟩:=fin hq;exact⟨d,_,k1,R',jt,GY,NQ,x',u',y',rfl,k2⟩
  |normal=>obtain⟨d,R',jt,GY,NQ,x',u',y',k1,k2⟩:=fin hq;exact⟨d,_,k1,R',jt,GY,NQ,x',u',y',rfl,k2⟩
  |_=>cases hq
 ·rename_i oc;intro ins outs hc;obtain⟨fn,body,hf,hb,nq,hl,L2,b1,b2,b3,hr⟩:=base hc;simp only[JE,Uj,GC,hk,ah]at hl hr;obtain⟨hm,hl⟩:=hl;have hl:=az hl;have L5:sg.md=[]:=by{simpa using hm};rw[L5,AA,aR]at hr;refine⟨L2,λw R xs hR CQ ha=>?_⟩;have hx:xs.length=fn.params.size:=by{rw[<-ha.length,hl]};refine calls_of_wp hf hb ?_;have rk:(⟨xs⟩:Array Value).size=xs.length:=rfl;rw[rk];have pl:∀i,([]:List Md).getD i .pl=.pl:=λi=>by{simp};have Mb:=EX (P:=P) (E:=E) (nt:=fn.ntmps) (ms:=[]) (by omega) (by omega) hR CQ ⟨ha.length,λi x v hi hv=>by obtain⟨v',h1,h2⟩:=ha.get i x hi;rw[hv]at h1;cases h1;rw[pl i];exact h2⟩ (λi j v v' b hi=>(hi (pl i)).elim);rw[<-hx]at hr;refine Gw (C:=⟨P,E,fn.ntmps,w,R,B3 [] xs,mW xs,gl⟩) hE hF body ⟨R,_,Mb⟩ hr λe' S' a' w' h' hq=>?_;have fin:=λhq:Ex P fn.ntmps fn sg S'=Bm outs=>Tt (oc:=oc) (outs:=outs) (by rintro b ⟨i,v,hm,_⟩;exact hm (pl i)) b1 h' (by simpa only[Ex,hk]using hq);rw[<-b3];cases e' with
  |ret=>obtain⟨d,R',jt,b,zs,el,x,rs,k1,k2⟩:=fin hq;exact⟨d,_,k1,R',jt,b,zs,el,x,rs,rfl,k2⟩
  |normal=>obtain⟨d,R',jt,b,zs,el,x,rs,k1,k2⟩:=fin hq;exact⟨d,_,k1,R',jt,b,zs,el,x,rs,rfl,k2⟩
  |_=>cases hq
def Hr:cX×fU:=(λ_=>.err,{})
def Iy{P:Program}{gl:Nat->Option (List Value)}{f:Nat}:fX P gl f Hr:=λ_ _ h=>h.elim
def look{A:Type}(z:A):List (Nat×A)->Nat->A
 |[],_=>z
 |(k,c)::r,n=>cond (Nat.beq n k) c (look z r n)
abbrev Qb:=List (Nat×(eu×Nat))
abbrev Zs:=List (Nat×List TV)
def uG{A:Type}:List (Nat×A)->Nat->Option A
 |[],_=>Kk
 |(k,c)::r,n=>cond (Nat.beq n k) (Bm c) (uG r n)
def cP(ty:Qb)(z:Zs)(l:List (Nat×(cX×fU)))(ld:List Nat:=[]):cz:=⟨look Hr l,uG ty,uG z,ld⟩
def Gy{P:Program}{gl:Nat->Option (List Value)}{l:List (Nat×(cX×fU))}(h:∀p∈l,fX P gl p.1 p.2):∀f,fX P gl f (look Hr l f):=by
 intro f;induction l with
 |nil=>exact Iy
 |cons p r ih=>
  obtain⟨k,c⟩:=p;simp only[look];cases hb:Nat.beq f k with
  |true=>rw[az hb];exact h (k,c) (List.mem_cons_self ..)
  |false=>exact ih λq hq=>h q (List.mem_cons_of_mem _ hq)
theorem vN{A:Type}{n:Nat}{x:A}:∀{l:List (Nat×A)},uG l n=Bm x->(n,x)∈l
 |(k,c)::r,h=>by
  simp only[uG]at h;cases hb:Nat.beq n k with
  |true=>rw[hb]at h;cases h;rw[az hb];exact List.mem_cons_self ..
  |false=>rw[hb]at h;exact List.mem_cons_of_mem _ (vN h)
def Q6:Value->TV->Bool
 |.slice Kk 0 0,.sl _ []=>Qf
 |v,x=>GZ v x
def we:List Value->List TV->Bool
 |[],[]=>Qf
 |x::xs,y::ys=>Q6 x y&&we xs ys
 |_,_=>Qg
theorem Ba{R:Reach}{w:World}:∀{vs:List Value}{xs:List TV},we vs xs=Qf->dn R w xs vs
 |[],[],_=>.nil
 |v::vs,x::xs,h=>by simp only[we,ah]at h;have h1:Rep R w x v/\v.oneCell'=Qf:=by{have:=h.1;unfold Q6 at this;split at this;{exact⟨.sn _,rfl⟩};{exact xF this}};exact .cons h1.2 h1.1 (Ba h.2)
 |[],_::_,h=>by simp[we]at h
 |_::_,[],h=>by simp[we]at h
def Aa(P:Program)(ty:Qb):Bool:=ty.all λp=>match P.underlying p.1 with
 |some (.slice e)=>match P.info? e with
  |some i=>Nat.beq i.size p.2.1.size&&Nat.beq i.bytes p.2.2&&(match i.zero with
   |some z=>we z.cells.toList (p.2.1.tv p.2.1.dH).cells
   |none=>Qg)
  |none=>Qg
 |_=>Qg
def Ii(P:Program)(z:Zs):Bool:=z.all λp=>si P p.1&&match(P.info? p.1).bind (·.zero)with|some v=>rp v.cells.toList p.2|none=>Qg
def Gx{P:Program}{ty:Qb}{z:Zs}{l:List (Nat×(cX×fU))}{ld:List Nat}(hm:P.follows .mixedOrders=Qf)(h1:Aa P ty=Qf)(h2:Ii P z=Qf):ku P (cP ty z l ld):=by refine⟨hm,λt st b he=>?_,λt c he=>?_⟩;{have:=aI.1 h1 _ (vN (l:=ty) he);simp only at this;split at this;{rename_i e hu;split at this;{rename_i i hi;simp only[ah]at this;obtain⟨⟨k1,k2⟩,k3⟩:=this;split at k3;{rename_i zv hz;have hL:∀R w,dn R w (st.tv st.dH).cells zv.cells.toList:=λR w=>Ba k3;refine⟨e,i,zv,hu,hi,az k1,az k2,hz,?_,hL⟩;have:=(hL (λ_ _=>False) default).length;rw[eu.nv]at this;simpa using this.symm};{cases k3}};{cases this}};{cases this}};{have:=aI.1 h2 _ (vN (l:=z) he);simp only[ah]at this;refine⟨this.1,?_⟩;have h:=this.2;split at h;{rename_i v hv;exact⟨v,hv,h⟩};{cases h}}
def Rr{P:Program}{gl:Nat->Option (List Value)}{ty:Qb}{z:Zs}{l:List (Nat×(cX×fU))}{ld:List Nat}(hm:P.follows .mixedOrders=Qf/\Aa P ty=Qf/\Ii P z=Qf)(hE:∀p∈l,fX P gl p.1 p.2){f:Nat}(hint:Hint){c:cX}{sg:fU}
  (hG:∀ins outs,(c ins).holds outs->bT P (cP ty z l ld) f sg hint ins=Bm (outs++mN sg.md ins)):fX P gl f (c,sg):=
 G5 (Gx hm.1 hm.2.1 hm.2.2) (Gy hE) hint hG
def Fit(F:List TV->OT)(l:List TV->List TV)(ins:List TV):qw->Prop
 |.ok outs=>F ins=Bm (outs++l ins)
 |.dG p outs=>p=Qf->F ins=Bm (outs++l ins)
 |.err=>True
def T7{c:cX}{F:List TV->OT}{l:List TV->List TV}(h:∀ins,Fit F l ins (c ins)):∀ins outs,(c ins).holds outs->F ins=Bm (outs++l ins):=λins outs hc=>by
 have h:=h ins;cases e:c ins with
 |ok ws=>rw[e]at h hc;obtain rfl:outs=ws:=hc;exact h
 |dG p ws=>rw[e]at h hc;obtain⟨hp,rfl⟩:p=Qf/\outs=ws:=hc;exact h hp
 |err=>rw[e]at hc;exact hc.elim
def iv{P:Program}{gl:Nat->Option (List Value)}{f:Nat}{sg:fU}{c':cX}(h:∀ti iA,(c' ti).holds iA->∃c:cX,fX P gl f (c,sg)/\(c ti).holds iA):fX P gl f (c',sg):=by unfold fX at*;cases hk:sg.kd<;>simp only[hk]at*<;>exact λins outs hc=>by obtain⟨c,hs,hc⟩:=h ins outs hc;exact hs ins outs hc
def eh{P:Program}{gl:Nat->Option (List Value)}{f:Nat}{sg:fU}{c:cX}(h:∀ti iA,¬(c ti).holds iA):fX P gl f (c,sg):=by unfold fX;cases hk:sg.kd<;>simp only<;>exact λins outs hc=>(h ins outs hc).elim
def all_nil{A:Type}{p:A->Prop}:∀x∈([]:List A),p x:=λ_ h=>by cases h
theorem all_cons{A:Type}{p:A->Prop}{a:A}{l:List A}(h:p a)(t:∀x∈l,p x):∀x∈a::l,p x:=λx hx=>by rcases aS.1 hx with rfl|hx;{exact h};{exact t x hx}
def Old(w:World):Reach:=λb _=>b<w.heap.size
def calls_of_spec{P:Program}{gl:Nat->Option (List Value)}{f:Nat}{c:cX}(h:fX P gl f (c,{})){ti:List TV}{xs:List Value}{w:World}(CQ:GlOK gl (Old w) w)(hc:(c ti).holds [.b Qf])(ha:hO (Old w) w ti xs):Calls P f ⟨xs⟩ w λe w'=>e=.returned (.bool Qf)/\Below w.heap.size w w':=by
 refine((h ti [.b Qf] hc).2 w (Old w) xs (λb o hb=>hb) CQ ⟨ha.length,λi x v hx hv=>?_⟩ λi j v v' b hi=>(hi (by simp)).elim).mono ?_;{obtain⟨y,h1,h2⟩:=ha.get i x hx;rw[hv]at h1;cases h1;exact h2}
 ·rintro e w' ⟨x,R',jt,ys,rfl,hx,hr,ho⟩;refine⟨?_,hx.os,hx.tape,hx.output,hx.size,λk hk=>hx.heap k hk ?_⟩
  ·congr 1;have hl:jt.length=1:=ho.len;have j7:=ho.rep;rw[ho.val];match jt,hl with
   |[y],_=>
    simp only[if_true,List.headD_cons];have j7:hO R' w' [.b Qf] [y]:=j7;cases j7 with
    |cons a _=>exact a.cq rfl
  {rintro⟨i,v,hm,_⟩;exact hm (by simp)}
def Jg{n:Int}{l:Nat}:bH n l=Qf↔0<=n/\n<l:=by simp[bH]
def JP{a b:Int}{l:Nat}:iF a b l=Qf↔0<=a/\a<=b/\b<=l:=by simp[iF,and_assoc]
def Np{n b:Nat}:dU n b=Qf↔n<=maxLen/\n*b<=140737488355328:=by simp[dU]
theorem nF{l c:Int}{b:Nat}:tJ l c b=Qf↔0<=l/\l<=c/\c*b<=140737488355328/\c<=maxLen:=by simp[tJ,and_assoc]
def qh{n:Nat}:mZ n=Qf↔n<=maxLen:=by simp[mZ]
end Go.Eng
namespace Go.Eng
open Go.IntWalk
def bA{R:Type}{p:Bool}{x:Option R}(h:p=Qf):ck p x=x:=by rw[h];rfl
theorem ja:maxLen=9223372036854775807:=by decide
def sL{n:Nat}(h:n<=1099511627776):mZ n=Qf:=qh.2 (by rw[ja];omega)
def dD{n b:Nat}(h:n*b<=140737488355328)(h2:n<=140737488355328):dU n b=Qf:=Np.2 ⟨by rw[ja];omega,h⟩
def ez{n:Int}{l:Nat}(h0:0<=n)(h1:n<l):bH n l=Qf:=Jg.2 ⟨h0,h1⟩
def GH{a b:Int}{l:Nat}(h0:0<=a)(h1:a<=b)(h2:b<=l):iF a b l=Qf:=JP.2 ⟨h0,h1,h2⟩
theorem j5{p:Prop}[Decidable p]{R:Type}{x:Option R}(h:p:=by omega):ck (nP p) x=x:=bA (aa h)
theorem ll{n:Int}{l:Nat}{R:Type}{x:Option R}(h0:0<=n:=by omega)(h1:n<l:=by omega):ck (bH n l) x=x:=bA (ez h0 h1)
theorem JV{a b:Int}{l:Nat}{R:Type}{x:Option R}(h0:0<=a:=by omega)(h1:a<=b:=by omega)(h2:b<=l:=by omega):ck (iF a b l) x=x:=bA (GH h0 h1 h2)
theorem UD{n b:Nat}{R:Type}{x:Option R}(h:n*b<=140737488355328:=by omega)(h2:n<=140737488355328:=by omega):ck (dU n b) x=x:=bA (dD h h2)
theorem mV{a:Bool}{R:Type}{x:Option R}:ck (!a||a) x=x:=by cases a<;>rfl
theorem TC{a:Bool}{R:Type}{x:Option R}:ck (a||!a) x=x:=by cases a<;>rfl
theorem iw{x:Int}(h:-9223372036854775808<=x/\x<=9223372036854775807:=by omega):IntKind.i64.wrap x=x:=i64_in x h
theorem cT{p:Prop}[Decidable p]{α:Type}{a b:α}(h:p:=by omega):cond (nP p) a b=a:=by rw[aa h];rfl
theorem cF{p:Prop}[Decidable p]{α:Type}{a b:α}(h:¬p:=by omega):cond (nP p) a b=b:=by rw[ab h];rfl
theorem nO{c:Prop}[Decidable c]{α:Type}{a b:α}(h:¬c:=by omega):(if c then a else b)=b:=ak h
theorem pO{c:Prop}[Decidable c]{α:Type}{a b:α}(h:c:=by omega):(if c then a else b)=a:=ar h
theorem dT{p:Prop}[Decidable p](h:p:=by omega):nP p=Qf:=aa h
theorem dF{p:Prop}[Decidable p](h:¬p:=by omega):nP p=Qg:=ab h
theorem pz(n:Nat):(BitVec.ofInt 64 (n:Int))=BitVec.ofNat 64 n:=by apply BitVec.eq_of_toNat_eq;rw[BitVec.toNat_ofInt,BitVec.toNat_ofNat];omega
def Qa(a b:Nat)(ha:a<9223372036854775808)(hb:b<9223372036854775808):da .and .i64 a b=((a&&&b:Nat):Int):=by have h1:a&&&b<=a:=Nat.and_le_left;have e:da .and .i64 a b=IntKind.i64.wrap (((BitVec.ofInt 64 (a:Int)&&&BitVec.ofInt 64 (b:Int)).toNat:Nat):Int):=rfl;rw[e,pz,pz,BitVec.toNat_and,BitVec.toNat_ofNat,BitVec.toNat_ofNat,Nat.mod_eq_of_lt (by omega),Nat.mod_eq_of_lt (by omega)];exact iw
def Vd{a b k:Nat}(ha:a<2^k)(hb:b<2^k):a|||b<2^k:=Nat.or_lt_two_pow ha hb
def R4(a b:Nat)(ha:a<9223372036854775808)(hb:b<9223372036854775808):da .or .i64 a b=((a|||b:Nat):Int):=by have h1:a|||b<9223372036854775808:=Vd (k:=63) (by simpa using ha) (by simpa using hb);have e:da .or .i64 a b=IntKind.i64.wrap (((BitVec.ofInt 64 (a:Int)|||BitVec.ofInt 64 (b:Int)).toNat:Nat):Int):=rfl;rw[e,pz,pz,BitVec.toNat_or,BitVec.toNat_ofNat,BitVec.toNat_ofNat,Nat.mod_eq_of_lt (by omega),Nat.mod_eq_of_lt (by omega)];exact iw
def qI{a b k:Nat}(hb:b<2^k):(a*2^k)|||b=a*2^k+b:=by rw[<-Nat.shiftLeft_eq,Nat.shiftLeft_add_eq_or_of_lt hb]
def Ua{α:Type}{l:List α}{i:Nat}(hi:i<l.length)(d:α):l.drop i=l.getD i d::l.drop (i+1):=by rw[List.drop_eq_getElem_cons hi,ai,au hi];rfl
theorem uh(n:Nat):(UInt64.ofInt (n:Int)).toNat=n%18446744073709551616:=by have h:=mj (n:Int);rw[jY]at h;omega
theorem Fx(n:Nat):(UInt8.ofInt (n:Int)).toNat=n%256:=by have h:=ug (n:Int);rw[Ud]at h;omega
end Go.Eng
namespace Go.Eng
def bits:Nat->Nat->List Bool
 |0,_=>[]
 |f+1,n=>cond (Nat.ble n 1) [] (Nat.beq (n%2) 1::bits f (n/2))
section
variable{R:Type}(P:Program)(E:cz)(nt:Nat)
def walk:List Bool->Code->Hint->fH R->Code×Hint×fH R
 |[],c,h,K=>(c,h,K)
 |false::p,.seq a b,.j G h1 h2,K=>walk p a h1 (wI nt (o0 P E nt b h2) G K)
 |true::p,.seq _ b,.j _ _ h2,K=>walk p b h2 K
 |false::p,.seq a b,h,K=>walk p a h.s1 (IB (ev P E nt b h.s2) K)
 |true::p,.seq _ b,h,K=>walk p b h.s2 K
 |false::p,.cond _ a _,h,K=>walk p a h.s1 K
 |true::p,.cond _ _ b,h,K=>walk p b h.s2 K
 |_::p,.block id a,h,K=>walk p a h.s1 (nW id K)
 |_::p,.loop a,.l G h,K=>walk p a h (zw nt (o0 P E nt a h) G K)
 |_::p,.scope a,.sc ls h,K=>walk p a h (nk nt (wY P E nt a) ls h K)
 |_::_,_,_,_=>(.skip,.o,λ_ _=>Kk)
end
def Qt(P:Program)(E:cz)(f:Nat)(sg:fU)(h:Hint)(p:Nat):Nat×Code×Hint×fH (List TV):=
 match P.funcs[f]? with
 |some fn=>match fn.body with|some c=>(fn.ntmps,walk P E fn.ntmps (bits 500 p) c h (GC P fn.ntmps fn sg))|none=>(0,.skip,.o,λ_ _=>Kk)
 |none=>(0,.skip,.o,λ_ _=>Kk)
def dj(P:Program)(E:cz)(f:Nat)(sg:fU)(h:Hint)(p:Nat)(xs:List TV):OT:=
 match Qt P E f sg h p with
 |(nt,.seq _ b,.j G _ h2,K)=>o0 P E nt b h2 (fE G xs) K
 |_=>Kk
def de(P:Program)(E:cz)(f:Nat)(sg:fU)(h:Hint)(p:Nat)(xs:List TV):OT:=
 match Qt P E f sg h p with
 |(nt,.loop a,.l G h1,K)=>Hv nt (o0 P E nt a h1) G xs K
 |_=>Kk
def B0(P:Program)(E:cz)(f:Nat)(sg:fU)(h:Hint)(p l:Nat)(xs:List TV):OT:=
 match Qt P E f sg h p with
 |(nt,.scope a,.sc ls h1,K)=>FJ nt (wY P E nt a) ls h1 (l,xs) K
 |_=>Kk
def fD(P:Program)(E:cz)(f:Nat)(sg:fU)(h:Hint)(p:Nat)(xs:List TV):dj P E f sg h p xs=match Qt P E f sg h p with
  |(nt,.seq _ b,.j G _ h2,K)=>ev P E nt b h2 (fE G xs) K
  |_=>Kk:=by
 unfold dj
 split
 {rw[HW]}
 {rfl}
def gJ(P:Program)(E:cz)(f:Nat)(sg:fU)(h:Hint)(p:Nat)(xs:List TV):de P E f sg h p xs=match Qt P E f sg h p with
  |(nt,.loop a,.l G h1,K)=>ev P E nt a h1 (fE G xs) (zw nt (o0 P E nt a h1) G K)
  |_=>Kk:=by
 unfold de
 split
 {rw[PK]}
 {rfl}
def AG(P:Program)(E:cz)(f:Nat)(sg:fU)(h:Hint)(p l:Nat)(xs:List TV):B0 P E f sg h p l xs=match Qt P E f sg h p with
  |(nt,.scope a,.sc ls h1,K)=>J0 (My P E nt a).2 ls h1 (l,xs) (nk nt (wY P E nt a) ls h1 K)
  |_=>Kk:=by
 unfold B0
 split
 {rw[Mx]}
 {rfl}
def oa{P:Program}{E:cz}{f:Nat}{sg:fU}{h:Hint}{p:Nat}{xs:List TV}{x y:OT}(a:(match Qt P E f sg h p with
  |(nt,.seq _ b,.j G _ h2,K)=>ev P E nt b h2 (fE G xs) K
  |_=>Kk)=x)(b:x=y):dj P E f sg h p xs=y:=(fD P E f sg h p xs).trans (a.trans b)
def mY{P:Program}{E:cz}{f:Nat}{sg:fU}{h:Hint}{p:Nat}{xs:List TV}{x y:OT}(a:(match Qt P E f sg h p with
  |(nt,.loop a,.l G h1,K)=>ev P E nt a h1 (fE G xs) (zw nt (o0 P E nt a h1) G K)
  |_=>Kk)=x)(b:x=y):de P E f sg h p xs=y:=(gJ P E f sg h p xs).trans (a.trans b)
def qv{xa:Type}{e1:xa}{P:xa->Prop}(K:∀v1,v1=e1->P v1):P e1:=K _ rfl
def nY{xa CS:Type}{e1:xa}{e2:xa->CS}{P:xa->CS->Prop}(K:∀v1,v1=e1->∀v2,v2=e2 v1->P v1 v2):P e1 (e2 e1):=K _ rfl _ rfl
def uJ{xa CS Kl:Type}{e1:xa}{e2:xa->CS}{e3:xa->CS->Kl}{P:xa->CS->Kl->Prop}(K:∀v1,v1=e1->∀v2,v2=e2 v1->∀v3,v3=e3 v1 v2->P v1 v2 v3):P e1 (e2 e1) (e3 e1 (e2 e1)):=K _ rfl _ rfl _ rfl
def vg{xa CS Kl Uh:Type}{e1:xa}{e2:xa->CS}{e3:xa->CS->Kl}{e4:xa->CS->Kl->Uh}{P:xa->CS->Kl->Uh->Prop}(K:∀v1,v1=e1->∀v2,v2=e2 v1->∀v3,v3=e3 v1 v2->∀v4,v4=e4 v1 v2 v3->P v1 v2 v3 v4):P e1 (e2 e1) (e3 e1 (e2 e1)) (e4 e1 (e2 e1) (e3 e1 (e2 e1))):=K _ rfl _ rfl _ rfl _ rfl
def jL{xa CS Kl Uh α5:Type}{e1:xa}{e2:xa->CS}{e3:xa->CS->Kl}{e4:xa->CS->Kl->Uh}{e5:xa->CS->Kl->Uh->α5}{P:xa->CS->Kl->Uh->α5->Prop}(K:∀v1,v1=e1->∀v2,v2=e2 v1->∀v3,v3=e3 v1 v2->∀v4,v4=e4 v1 v2 v3->∀v5,v5=e5 v1 v2 v3 v4->P v1 v2 v3 v4 v5):P e1 (e2 e1) (e3 e1 (e2 e1)) (e4 e1 (e2 e1) (e3 e1 (e2 e1))) (e5 e1 (e2 e1) (e3 e1 (e2 e1)) (e4 e1 (e2 e1) (e3 e1 (e2 e1)))):=K _ rfl _ rfl _ rfl _ rfl _ rfl
end Go.Eng
