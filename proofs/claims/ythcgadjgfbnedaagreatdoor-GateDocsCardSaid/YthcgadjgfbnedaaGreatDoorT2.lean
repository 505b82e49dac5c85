/- Texts of my own, one behind the other: XW, XX, XY, XT, VA, XZ, YA, YB, YC, YD, YE, YF, YG, VB, YH, XArithP, YI, YJ. -/
import Derived.Test.YthcgadjgfbnedaaGreatDoorT1
import Derived.Laws.Externs
import Derived.Lib.BytesEntry
import Derived.Deep.LoopGhost
import Derived.ScopeJumps
import Derived.IntWalk
import Derived.Below
import Derived.Lib.LaidTab
import Derived.Lib.ItoaNum
import Derived.Sort.Grow
import Derived.Deep.Draws
set_option linter.unusedVariables false
set_option linter.unusedSimpArgs false
namespace Go.Eng
open Go.RowKit
section
variable {C:Ctx} {S V:St} {a:Act} {w w':World} {R:Reach} {τ:Nat→Value} {o:Oper} {d:Nat}
theorem cC.Db (h:cC C S a w R τ) {k2:Nat} {v:Value} {x:TV} {R':Reach} (lW:(S k2).2 = .no∧k2<1000000∧C.nt≤k2) (cj:cD R w R' w') (hn:∀b o,R' b o→R b o∨Value.dq v=some b) (os:w'.os=w.os) (tape:w'.tape=w.tape) (out:w'.output=w.output) (size:w.heap.size≤w'.heap.size)
  (heap:∀b,Value.dq v≠some b→b<w.heap.size→w'.heap[b]?=w.heap[b]?) (hb:∀b,Value.dq v=some b→w.heap.size≤b∧b<w'.heap.size) (new:fi R' w' τ x .pv v):cC C (bL S k2 (x,.pv)) a w' R' (ky τ k2 v):=by
 have Cq:∀b,b<w.heap.size→Value.dq v≠some b:=fun b h1 h2=>by have:=(hb b h2).1;omega
 refine ⟨h.size,h.defers,h.core.tO lW.2.2 cj (fun j b _ r7=>?_) new (.inr lW.1) ⟨by rw [lW.1];rfl,rfl⟩ (by simp) (fun _ => .inr lW.1) (fun b _ hv=>⟨.inr (Nat.le_trans h.ext.size (hb b hv).1),.inl (hb b hv).1⟩) (by simp [Gh.bN]) (fun b o hr=>?_),
  fun t ht=>by rw [dm _ _ (by omega)];exact h.tmps t ht,⟨h.io.1,fun j hj=>by rw [dm _ _ (by omega)];exact h.io.2 j hj⟩,
  h.ext.trans (io':=fun b=>Value.dq v=some b) ⟨os,tape,out,size,fun b fT hv=>heap b hv fT,cj,fun b o hr=>(hn b o hr).imp id .inr⟩ (fun b hv => .inr (Nat.le_trans h.ext.size (hb b hv).1)),h.gl.cj cj⟩
 ·have hl:=h.core.lt r7
  exact ⟨heap b (Cq b hl) hl,fun o hr=>(hn b o hr).resolve_right (Cq b hl)⟩
 ·rcases hn b o hr with hr | hr
  ·have:=h.core.kj b o hr;omega
  ·exact (hb b hr).2
theorem cC.recover (h:cC C S a w R τ) {k c:Nat} {x:TV} (hk:S k=(x,.pw c)):cC C (bL (bL S k (x,.pv)) c (.dead,.zz)) a w R τ :=
 ⟨h.size,h.defers,by have:=h.core.recover hk;rwa [mf,mf] at this,h.tmps,h.io,h.ext,h.gl⟩
variable (h:cC C S a w R τ) (hV:Lt V S)
include h hV
section
variable (hd:o.dst=some d) (hl:d<C.nt)
include hd hl
theorem go_app (hE:fj C.P C.E) {t u:TypeId} {x y:Operand} {st:ez} {jU k k2:Nat} {l m:List st.El} {news:List Value} {du:TypeDesc} {g c:Gh} {z:TV} (ho:o.op = .call { callee := .builtin .append,args:=#[x,y],argTypes:=#[t,u] }) (ht:C.E.ty t=some (st,jU)) (hx:dQ C.E C.nt V t x=some (.pt,.cM k)) (hk:S k=(.sl st l,g))
  (hu:C.P.underlying u=some du) (pg:∀k,du ≠ .int k) (nc:Source C.P w st.size (a.eval y) m.length news) (hL:bV R w ((m.map st.tv).flatMap TV.cells) news) (om:eO (l.length+m.length) jU=true) (lW:(S k2).2 = .no∧k2<1000000∧C.nt≤k2) (hg:(g = .pv∧c = .zz∧z = .dead)∨(g = .lv∧c = .us∧z = .sl st l)) :
  cL C o a w (bL (bL (bL S k (z,c)) k2 (.sl st (l++m),g)) d (.pt,.cM k2)):=by
 obtain ⟨e,i,zv,h1,h2,h3,h4,h5,h6,h7⟩:=hE.ty _ _ _ ht
 obtain ⟨q1,_,q3⟩:=dO h hV hx
 have hv:a.eval x=τ k:=q1.1
 have hK:=h.core.key k
 rw [hk] at hK
 simp only [eO,ae,aF] at om
 have uD:g.own=true∧g.s9=false∧g.slot=false:=by rcases hg with ⟨rfl,_⟩ | ⟨rfl,_⟩ <;> exact ⟨rfl,rfl,rfl⟩
 obtain ⟨p,hp,Hv⟩:∃p,cP R w p (τ k) (.sl st l)∧∀R w τ x v,fi R w τ x g v=cP R w p v x:=by rcases hg with ⟨rfl,_⟩ | ⟨rfl,_⟩ <;> exact ⟨_,hK,fun _ _ _ _ _=>rfl⟩
 obtain ⟨v,w',R',fy,hs,cj,hn,os,tape,out,size,heap,hb,ng⟩:=BA (P:=C.P) (ty:=o.type) h.core.kj h1 h2 h5 (by rw [h3];exact h6) hu pg h3 hp nc hL om.1 (by rw [h4];exact om.2)
 have pf:v.oneCell'=true:=by
  rcases hs.cells with ⟨_,rfl⟩ | ⟨_,_,_,_,_,rfl,_⟩ <;> rfl
 have rE:=h.A1 (k:=k) (k2:=k2) (x := .sl st (l++m)) (g:=g) (c:=c) (y:=z) ⟨(q3 k (by simp [Gh.bN])).1,by rw [hk];exact ⟨uD.1,uD.2.1⟩⟩ lW cj hn os tape out size heap hb (by rcases hg with ⟨rfl,_⟩ | ⟨rfl,_⟩ <;> simp) (by rw [Hv];exact hs)
  (by rcases hg with ⟨_,rfl,_⟩ | ⟨_,rfl,_⟩ <;> simp) (by
   rcases hg with ⟨_,rfl,_⟩ | ⟨rfl,rfl,rfl⟩
   ·trivial
   ·exact (cP.rep hK).1.mono cj)
 refine rE.oo (v:=v) hd hl ?_ (g := .cM k2) ⟨(de _ _ _).symm,pf⟩ rfl fun j hj=>?_
 ·simp only [execOp,ho,hv,Sem.run_bind]
  have:(Builtin.append_ #[t,u] o.type #[τ k,a.eval y]).run C.P w = .ok v w':=fy
  simp [resolve,invoke,builtin,this,hv]
 ·simp only [Gh.bN,List.mem_singleton] at hj
  subst hj
  exact ⟨lW.2.2,by rw [bG];rcases hg with ⟨rfl,_⟩ | ⟨rfl,_⟩ <;> simp⟩
theorem go_lend (hE:fj C.P C.E) {t u:TypeId} {x y:Operand} {st:ez} {jU k k2:Nat} {l m:List st.El} {news:List Value} {du:TypeDesc} (ho:o.op = .call { callee := .builtin .append,args:=#[x,y],argTypes:=#[t,u] }) (ht:C.E.ty t=some (st,jU)) (hv:a.eval x=τ k) (AO:C.nt≤k) (hk:S k=(.sl st l,.pv))
  (hu:C.P.underlying u=some du) (pg:∀k,du ≠ .int k) (nc:Source C.P w st.size (a.eval y) m.length news) (hL:bV R w ((m.map st.tv).flatMap TV.cells) news) (om:eO (l.length+m.length) jU=true) (lW:(S k2).2 = .no∧k2<1000000∧C.nt≤k2) :
  cL C o a w (bL (bL (bL S k (.sl st l,.pw k2)) k2 (.sl st (l++m),.pc k)) d (.pt,.cM k2)):=by
 have _:=hV
 obtain ⟨e,i,zv,h1,h2,h3,h4,h5,h6,h7⟩:=hE.ty _ _ _ ht
 have hK:cP R w false (τ k) (.sl st l):=by have:=h.core.key k;rw [hk] at this;exact this
 simp only [eO,ae,aF] at om
 have gf:k2≠k:=by rintro rfl;rw [hk] at lW;cases lW.1
 obtain ⟨v,w',R',fy,hs,cj,hn,os,tape,out,size,heap,hb,ng⟩:=BA (P:=C.P) (ty:=o.type) h.core.kj h1 h2 h5 (by rw [h3];exact h6) hu pg h3 hK nc hL om.1 (by rw [h4];exact om.2)
 have pf:v.oneCell'=true:=by
  rcases hs.cells with ⟨_,rfl⟩ | ⟨_,_,_,_,_,rfl,_⟩ <;> rfl
 have rE:=h.A1 (k:=k) (k2:=k2) (x := .sl st (l++m)) (g := .pv) (c := .zz) (y := .dead) ⟨AO,by rw [hk];exact ⟨rfl,rfl⟩⟩ lW cj hn os tape out size heap hb (.inl rfl) hs (.inl rfl) trivial
 have own:∀b,gb (ky τ k2 v) (.pw k2) (τ k)=some b→Value.dq (τ k)=some b∧Value.dq v≠some b:=fun b fT=>by
  simp only [gb,de] at fT
  split at fT
  ·cases fT
  ·rename_i ER;exact ⟨fT,fun e=>ER (by rw [fT,e])⟩
 have hp:BI R' w' (ky τ k2 v k) (.sl st l) (ky τ k2 v k2):=by
  rw [de,dm _ _ (Ne.symm gf)]
  cases wC:Value.dq (τ k) with
  | none=>exact .inl ⟨hK.cj cj fun g hg=>(by rw [wC] at hg;cases hg),.inl wC⟩
  | some b =>
   by_cases DQ:Value.dq v=some b
   ·obtain ⟨g,cap,q,e1,e2⟩:=ng b DQ wC
    refine .inr ⟨st,l,g,cap,_,rfl,?_,e2⟩
    obtain ⟨t2,l2,e3,⟨_,e4⟩ | ⟨g',Fo,_,_,_,e4,_⟩⟩:=hK
    ·rw [e4] at wC;cases wC
    ·cases e3;rw [e1] at e4;cases e4;exact e1
   ·refine .inl ⟨hK.cj cj fun g hg=>?_,.inr (by rw [wC];exact Ne.symm DQ)⟩
    rw [wC] at hg;cases hg
    exact ⟨heap b DQ (hK.lt wC),fun o hr=>(hn b o hr).resolve_right DQ⟩
 have e1:bL (bL S k (.dead,.zz)) k2 (.sl st (l++m),.pv) k=(.dead,.zz):=by rw [bO _ _ (Ne.symm gf),bG]
 have E8:=rE.core.Dt (k:=k) (d:=k2) (t:=st) (l:=l) (m:=m) AO lW.2.2 e1 (bG ..) hp (fun b fT=>by
  rw [dm _ _ (Ne.symm gf)] at fT
  obtain ⟨q1,q2⟩:=own b fT
  have Gd:dq τ S k=some b:=dM (by rw [hk];rfl) (by rw [hk];rfl) q1
  refine ⟨h.core.b9 k b Gd,fun j hj=>?_⟩
  by_cases c1:j=k2
  ·rw [c1] at hj
   have:=(cW hj).2
   rw [de] at this
   exact q2 this
  ·by_cases c2:j=k
   ·rw [c2] at hj;have:=(cW hj).1;rw [e1] at this;cases this
   ·have ej:bL (bL S k (.dead,.zz)) k2 (.sl st (l++m),.pv) j=S j:=by rw [bO _ _ c1,bO _ _ c2]
    have lX:dq τ S j=some b:=by
     unfold dq at hj ⊢
     rw [ej,dm _ _ c1] at hj
     rw [←hj,wE fun q hq=>?_]
     refine (dm _ _ ?_).symm
     rintro rfl
     exact (h.core.inv j q hq).2 lW.1
    exact c2 (h.core.sep _ _ _ lX Gd))
 rw [mf,mf] at E8
 have e2:bL (bL (bL (bL S k (.dead,.zz)) k2 (.sl st (l++m),.pv)) k (.sl st l,.pw k2)) k2 (.sl st (l++m),.pc k)=bL (bL S k (.sl st l,.pw k2)) k2 (.sl st (l++m),.pc k):=by
  funext j
  by_cases c1:j=k2
  ·rw [c1,bG,bG]
  ·by_cases c2:j=k
   ·rw [c2,bO _ _ (Ne.symm gf),bG,bO _ _ (Ne.symm gf),bG]
   ·rw [bO _ _ c1,bO _ _ c2,bO _ _ c1,bO _ _ c2,bO _ _ c1,bO _ _ c2]
 rw [e2] at E8
 have HD:cC C (bL (bL S k (.sl st l,.pw k2)) k2 (.sl st (l++m),.pc k)) a w' R' (ky τ k2 v):=⟨rE.size,rE.defers,E8,rE.tmps,rE.io,rE.ext,rE.gl⟩
 refine HD.oo (v:=v) hd hl ?_ (g := .cM k2) ⟨(de _ _ _).symm,pf⟩ rfl fun j hj=>?_
 ·have:(Builtin.append_ #[t,u] o.type #[τ k,a.eval y]).run C.P w = .ok v w':=fy
  simp [execOp,ho,resolve,invoke,builtin,this,hv]
 ·simp only [Gh.bN,List.mem_singleton] at hj
  subst hj
  exact ⟨lW.2.2,by rw [bG];simp⟩
theorem go_apn (hE:fj C.P C.E) {t u:TypeId} {x y:Operand} {st:ez} {jU k2:Nat} {m:List st.El} {news:List Value} {du:TypeDesc} (ho:o.op = .call { callee := .builtin .append,args:=#[x,y],argTypes:=#[t,u] }) (ht:C.E.ty t=some (st,jU)) (hx:dQ C.E C.nt V t x=some (.nl st,.no))
  (hu:C.P.underlying u=some du) (pg:∀k,du ≠ .int k) (nc:Source C.P w st.size (a.eval y) m.length news) (hL:bV R w ((m.map st.tv).flatMap TV.cells) news) (om:eO m.length jU=true) (lW:(S k2).2 = .no∧k2<1000000∧C.nt≤k2) :
  cL C o a w (bL (bL S k2 (.sl st m,.pv)) d (.pt,.cM k2)):=by
 obtain ⟨e,i,zv,h1,h2,h3,h4,h5,h6,h7⟩:=hE.ty _ _ _ ht
 have hv:a.eval x = .slice none 0 0:=by
  have:=cN h hV hx
  generalize a.eval x=v at this ⊢
  cases this with
  | sc h=>cases h
  | nl=>rfl
 simp only [eO,ae,aF] at om
 obtain ⟨v,w',R',fy,hs,cj,hn,os,tape,out,size,heap,hb,ng⟩:=BA (P:=C.P) (ty:=o.type) (p:=false) (x0 := .slice none 0 0) (l:=[]) h.core.kj h1 h2 h5 (by rw [h3];exact h6) hu pg h3 ⟨st,[],rfl,.inl ⟨rfl,rfl⟩⟩ nc hL (by simpa using om.1) (by rw [h4];simpa using om.2)
 have pf:v.oneCell'=true:=by
  rcases hs.cells with ⟨_,rfl⟩ | ⟨_,_,_,_,_,rfl,_⟩ <;> rfl
 refine (h.Db (x := .sl st m) lW cj hn os tape out size heap (fun b hv=>⟨(hb b hv).1.resolve_right (by simp [Value.dq]),(hb b hv).2⟩) hs).oo (v:=v) hd hl ?_ (g := .cM k2) ⟨(de _ _ _).symm,pf⟩ rfl fun j hj=>?_
 ·have:(Builtin.append_ #[t,u] o.type #[.slice none 0 0,a.eval y]).run C.P w = .ok v w':=fy
  simp [execOp,ho,resolve,invoke,builtin,this,hv]
 ·simp only [Gh.bN,List.mem_singleton] at hj
  subst hj
  exact ⟨lW.2.2,by rw [bG];simp⟩
theorem go_psl {t:TypeId} {x y:Operand} {st:ez} {k k2:Nat} {l:List st.El} {n:Int} (hE:fj C.P C.E) (ho:o.op = .slice t x none (some y) none) (ht:lU C.E t st=true) (hx:dQ C.E C.nt V t x=some (.pt,.cM k)) (hk:S k=(.sl st l,.pv)) (hy:iB C.E C.nt V (some y)=some (some n)) (hc:dV 0 n l.length=true)
  (lW:(S k2).2 = .no∧k2<1000000∧C.nt≤k2):cL C o a w (bL (bL (bL S k (.dead,.zz)) k2 (.sl st (l.take n.toNat),.pv)) d (.pt,.cM k2)):=by
 obtain ⟨e,inf,ht,rF,hz⟩:=jQ hE ht
 obtain ⟨q1,_,q3⟩:=dO h hV hx
 have hv:a.eval x=τ k:=q1.1
 have hK:=h.core.key k
 rw [hk] at hK
 have hb:=fun cap ng=>bounds h hV (lo:=none) (p:=none) rfl hy hc true (cap:=cap) ng (fun e=>by cases e)
 simp only [Option.getD_some,Option.getD_none] at hb
 obtain ⟨_,_,FW⟩:=hb l.length (Nat.le_refl _)
 generalize hu:n.toNat=u at *
 have eL:(l.take u).length=u:=by rw [ay];omega
 have fin:∀v,(execOp a.eval o).run C.P w = .ok (.value v) w→cP R w false v (.sl st (l.take u))→(∀b,Value.dq v=some b→Value.dq (τ k)=some b)→v.oneCell'=true→cL C o a w (bL (bL (bL S k (.dead,.zz)) k2 (.sl st (l.take u),.pv)) d (.pt,.cM k2)):=fun v fy hs hb pf=>by
  have rE:=h.A1 (w':=w) (R':=R) (k:=k) (k2:=k2) (v:=v) (x := .sl st (l.take u)) (g := .pv) (c := .zz) (y := .dead) ⟨(q3 k (by simp [Gh.bN])).1,by rw [hk];exact ⟨rfl,rfl⟩⟩ lW (cD.refl _ _) (fun _ _ => .inl) rfl rfl rfl (Nat.le_refl _) (fun _ _ _=>rfl) (fun b fT=>⟨.inr (hb b fT),hs.lt fT⟩) (.inl rfl) hs (.inl rfl) trivial
  refine rE.oo (v:=v) hd hl fy (g := .cM k2) ⟨(de _ _ _).symm,pf⟩ rfl fun j hj=>?_
  simp only [Gh.bN,List.mem_singleton] at hj
  subst hj
  exact ⟨lW.2.2,by rw [bG];simp⟩
 rcases cP.cells hK with ⟨rfl,e1⟩ | ⟨g,cap,cur,ce,fz,e1,e2,e3,e4,e5,e6,e7,e8⟩
 ·obtain rfl:u=0:=by simpa using FW
  have ly:=(hb 0 (by simp)).1
  simp only [aM] at ly
  refine fin (.slice none 0 0) ?_ ⟨st,[],rfl,.inl ⟨rfl,rfl⟩⟩ (fun b hb=>by cases hb) rfl
  simp only [execOp,ho,hv,e1,Instr.sliceAt,Instr.slice,Sem.run_bind,run_underlying ht,Result.andThen_ok,Option.map_none,Option.map_some,run_sizeOf rF,Sem.run_pure]
  simp at ly
  simp [ly]
 ·have ly:=(hb cap e5).1
  refine fin (.slice (some ⟨g,0,none⟩) u cap) ?_ ⟨st,l.take u,rfl,.inr ⟨g,cap,cur,ce,fz,by rw [eL],e2,e3,e4,by omega,e6,?_,fun o=>⟨fun hr=>by simpa using (e8 o).1 hr,fun hr=>by simp at hr⟩⟩⟩ (fun b hb=>by rw [e1];exact hb) rfl
  ·simp only [execOp,ho,hv,e1,Instr.sliceAt,Instr.slice,Sem.run_bind,run_underlying ht,Result.andThen_ok,Option.map_none,Option.map_some,run_sizeOf rF,Sem.run_pure]
   simp at ly
   simp [ly,addr_add]
  ·rw [eL]
   have:((l.take u).map st.tv).flatMap TV.cells=((l.map st.tv).flatMap TV.cells).take (u * st.size):=by
    have e:=congrArg (fun m:List st.El=>(m.map st.tv).flatMap TV.cells) (List.take_append_drop u l)
    simp only [List.map_append,List.flatMap_append] at e
    rw [←e,show u * st.size=(((l.take u).map st.tv).flatMap TV.cells).length by rw [gV,eL],List.take_left]
   rw [this]
   have hle:u * st.size≤l.length * st.size:=aR _ FW
   have:=e7.take (u * st.size)
   rwa [List.take_take,Nat.min_eq_left hle] at this
end
theorem go_stt (hd:o.dst=none) {x v:Operand} {t:TypeId} {inf:TypeInfo} {m q k:Nat} {cs:List TV} {ts:List (Nat × Nat)} (ho:o.op = .store t x v) (hi:C.P.info? t=some inf) (hn:inf.size=1) (hx:dQ C.E C.nt V 0 x=some (.pt,.ptr m q)) (hm:S m=(.ag cs,.cl ts)) (hv:dQ C.E C.nt V t v=some (.pt,.cM k)) (gg:q<cs.length) (gf:k≠m) (BQ:∀t∈ts,t.2≠m) :
  cL C o a w (bL S m (.ag (eg cs q [.pt]),.cl ((q,k) :: sT q 1 ts))):=by
 obtain ⟨q1,_,q3⟩:=dO h hV hv
 have e1:a.eval v=τ k:=q1.1
 have e2:(a.eval v).oneCell'=true:=q1.2
 have e3:(a.eval v).cells.toList=[a.eval v]:=n8 e2
 refine go_st' h hV hd ho hi hx hm (qs:=[.pt]) (by rw [e3];exact .cons e2 (.pt _) .nil) (by simp [hn]) (by omega) fun u hu=>?_
 rcases aC.1 hu with rfl | hu
 ·exact ⟨gf,.inr ⟨(q3 k (by simp [Gh.bN])).1,(q3 k (by simp [Gh.bN])).2,Nat.le_refl _,by rw [e3,e1];simp⟩⟩
 ·obtain ⟨h1,h2⟩:=n4 hu
  rw [hn]
  exact ⟨BQ u h1,.inl ⟨h1,h2⟩⟩
theorem go_sto (hd:o.dst=none) {x v:Operand} {t:TypeId} {inf:TypeInfo} {m:Nat} {cs xs:List TV} {ts us:List (Nat × Nat)} (ho:o.op = .store t x v) (hi:C.P.info? t=some inf) (hx:dQ C.E C.nt V 0 x=some (.pt,.ptr m 0)) (hm:S m=(.ag cs,.cl ts)) (hv:dQ C.E C.nt V t v=some (.ag xs,.ow us)) (hn:xs.length=inf.size) (gg:inf.size=cs.length) (DR:∀t∈us,t.2≠m) :
  cL C o a w (bL S m (.ag xs,.cl us)):=by
 obtain ⟨q1,_,q3⟩:=dO h hV hv
 obtain ⟨ys,vs,e1,e2,e3,e4⟩:∃ys vs,a.eval v = .agg ⟨ys⟩∧TV.ag xs = .ag vs∧bV R w vs ys∧∀p∈us,ys[p.1]?=some (τ p.2):=q1
 cases e2
 have e5:(a.eval v).cells.toList=ys:=by rw [e1];rfl
 have:=go_st' h hV hd ho hi hx hm (qs:=xs) (us:=us) (by rw [e5];exact e3) hn (by omega) fun u hu=>⟨DR u hu,.inr ⟨(q3 u.2 (List.mem_map_of_mem (f:=(·.2)) hu)).1,(q3 u.2 (List.mem_map_of_mem (f:=(·.2)) hu)).2,Nat.zero_le _,by rw [e5,Nat.sub_zero];exact e4 u hu⟩⟩
 have e6:eg cs 0 xs=xs:=by simp [eg,hn,gg]
 rwa [e6] at this
end
end Go.Eng
namespace Go.Eng
open Go.RowKit
def gL (P:Program) (f:Nat):Bool:=(P.funcs[f]?).any fun fn=>fn.body.isSome&&!(fn.name == "runtime.NumGoroutine")
def Ct:Nat→Value:=fun _=>undef
def tK (R:Reach) (w:World) (m:Md) (x:TV) (v:Value):Prop :=
 match m with
 | .pl=>Rep R w x v
 | .rf=>oI R w Ct v x []
 | _=>cP R w false v x
def pL (R:Reach) (w:World) (ms:List Md) (ins:List TV) (xs:List Value):Prop:=ins.length=xs.length∧∀i x v,ins[i]?=some x→xs[i]?=some v→tK R w (ms.getD i .pl) x v
def BG (p:Md→Prop) (ms:List Md) (xs:List Value):Prop:=∀i j v v' b,p (ms.getD i .pl)→p (ms.getD j .pl)→xs[i]?=some v→xs[j]?=some v'→Value.dq v=some b→Value.dq v'=some b→i=j
def pb (ms:List Md) (xs:List Value) (b:Nat):Prop:=∃i v,ms.getD i .pl ≠ .pl∧xs[i]?=some v∧Value.dq v=some b
def Md.ux (m:Md):Prop:=m ≠ .pl∧m ≠ .gv
def xB (R:Reach) (w:World) (m:Md) (y:TV) (v:Value):Prop :=
 match m with
 | .rf=>oI R w Ct v y []
 | .sl=>cP R w false v y
 | .sm=>cP R w false v y
 | _=>True
def jd (vs:List Value) (i:Nat):Option Value:=cond (Nat.blt i 1000) (vs[i]?) (match vs[0]? with | some (Value.agg cs)=>cs.toList[i - 1000]? | _=>none)
structure pK (sg:cg) (R:Reach) (w:World) (b9:Nat→Prop) (ins:List TV) (xs:List Value) (outs:List TV) (x:Value) (eS:List Value) (ys:List TV):Prop where
 len:eS.length=sg.bC
 le:sg.bC≤outs.length
 val:x=if sg.bC=1 then eS.headD undef else .tuple ⟨eS⟩
 rep:dX R w (km sg.own (outs.take sg.bC)) eS
 own:∀i∈sg.own,∀v y,jd eS i=some v→jZ outs i=some y→cP R w false v y
 back:fV sg.md ins (outs.drop sg.bC)=some ys
 Dm:∀i y v,ys[i]?=some y→xs[i]?=some v→xB R w (sg.md.getD i .pl) y v
 b9:∀i∈sg.own,∀v b,jd eS i=some v→Value.dq v=some b→b9 b
 Ei:∀(j j' i i':Nat) (v v':Value) (b:Nat),sg.own[j]?=some i→sg.own[j']?=some i'→jd eS i=some v→jd eS i'=some v'→Value.dq v=some b→Value.dq v'=some b→j=j'
 Eh:∀i∈sg.own,∀v b,jd eS i=some v→Value.dq v=some b→∀q u,(sg.md.getD q .pl).ux→xs[q]?=some u→Value.dq u≠some b
def zY (P:Program) (gl:Nat→Option (List Value)) (f:Nat) (c:eE × cg):Prop :=
 ∀ins outs,(c.1 ins).holds outs→gL P f=true∧∀w R xs,(∀b o,R b o→b<w.heap.size)→GlOK gl R w→pL R w c.2.md ins xs→BG (· ≠ .pl) c.2.md xs →
  Calls P f ⟨xs⟩ w fun e w'=>∃x R' eS ys,e = .returned x∧Ext w R (pb c.2.md xs) w' R'∧(∀b o,R' b o→b<w'.heap.size)∧pK c.2 R' w' (fun b=>pb c.2.md xs b∨w.heap.size≤b) ins xs outs x eS ys
def zX (P:Program) (gl:Nat→Option (List Value)) (f n i k:Nat) (c:eE) (e:Bool):Prop :=
 ∀ins outs,(c ins).holds outs→gL P f=true∧∀w R xs b zs el x u y,(∀b o,R b o→b<w.heap.size)→GlOK gl R w→ins.length=xs.length+1→(∀j x v,j≠i→ins[j]?=some x→xs[j]?=some v→Rep R w x v) →
  xs[i]?=some (.pointer (some ⟨b,0,none⟩))→ins[i]?=some (.ag x)→w.heap[b]?=some (.cells ⟨zs⟩ el (0,0))→bV R w x zs→(∀o,¬R b o)→zs[k]?=some u→ins[xs.length]?=some y→(e=true→cP R w false u y∧Value.dq u≠some b) →
  Calls P f ⟨xs⟩ w fun ex w'=>∃R' eS sF xL x' u' y',ex = .returned (if eS.length=1 then eS.headD undef else .tuple ⟨eS⟩)∧Ext w R (fun g=>g=b∨(e=true∧Value.dq u=some g)) w' R'∧(∀b o,R' b o→b<w'.heap.size)∧eS.length=n∧outs.drop n=[.ag x',y']∧dX R' w' (outs.take n) eS ∧
   w'.heap[b]?=some (.cells ⟨sF⟩ xL (0,0))∧bV R' w' x' sF∧(∀o,¬R' b o)∧sF[k]?=some u'∧cP R' w' false u' y'∧∀g,Value.dq u'=some g→g≠b∧((e=true∧Value.dq u=some g)∨w.heap.size≤g)
def DA (R:Reach) (w:World) (n b:Nat) (zs:List Value) (l:List TV):Option Nat→Prop
 | none=>l=[]
 | some k=>∃y u,l=[y]∧zs[k]?=some u∧cP R w false u y∧∀g,Value.dq u=some g→g≠b∧n≤g
def zZ (P:Program) (gl:Nat→Option (List Value)) (f n:Nat) (c:eE) (oc:Option Nat):Prop :=
 ∀ins outs,(c ins).holds outs→gL P f=true∧∀w R xs,(∀b o,R b o→b<w.heap.size)→GlOK gl R w→dX R w ins xs →
  Calls P f ⟨xs⟩ w fun ex w'=>∃R' eS b zs el x rs,ex = .returned (if eS.length+1=1 then .pointer (some ⟨b,0,none⟩) else .tuple ⟨.pointer (some ⟨b,0,none⟩) :: eS⟩)∧Ext w R (fun _=>False) w' R'∧(∀b o,R' b o→b<w'.heap.size)∧eS.length+1=n∧outs.take n = .ag x :: rs∧dX R' w' rs eS ∧
   w.heap.size≤b∧w'.heap[b]?=some (.cells ⟨zs⟩ el (0,0))∧bV R' w' x zs∧(∀o,¬R' b o)∧DA R' w' w.heap.size b zs (outs.drop n) oc
def bE (P:Program) (gl:Nat→Option (List Value)) (f:Nat) (c:eE × cg):Prop :=
 match c.2.kd with
 | .pl=>zY P gl f c
 | .wr i k e=>zX P gl f c.2.bC i k c.1 e
 | .nw oc=>zZ P gl f c.2.bC c.1 oc
def zi (V:St) (R:Reach) (w:World) (τ:Nat→Value) (m:Md) (c:Cell) (x:TV) (v:Value):Prop :=
 match m with
 | .pl=>Rep R w x v
 | .rf=>∃k cs ts b ys e xs,c=(.pt,.ptr k 0)∧V k=(.ag cs,.cl ts)∧v=τ k∧τ k = .pointer (some ⟨b,0,none⟩)∧w.heap[b]?=some (.cells ⟨ys⟩ e (0,0))∧x = .ag xs∧bV R w xs ys
 | m=>(∃k g,c=(.pt,.cM k)∧V k=(x,g)∧(g = .pv∨(m = .sm∧∃r,g = .pc r))∧v=τ k)∨((m = .sm∨m = .gv)∧∃t,c=(.nl t,.no)∧x = .sl t []∧v = .slice none 0 0)
theorem zi.mono {V:St} {R R':Reach} {w:World} {τ:Nat→Value} {m:Md} {c:Cell} {x:TV} {v:Value} (h:zi V R w τ m c x v) (k:cD R w R' w):zi V R' w τ m c x v:=by
 cases m <;> simp only [zi] at h ⊢ <;> first | exact h.mono k | exact h | skip
 obtain ⟨q,cs,ts,b,ys,e,xs,h1,h2,h3,h4,h5,h6,h7⟩:=h
 exact ⟨q,cs,ts,b,ys,e,xs,h1,h2,h3,h4,h5,h6,h7.mono k⟩
inductive kX (V:St) (R:Reach) (w:World) (τ:Nat→Value):List Md→List Cell→List TV→List Value→Prop
 | nil (ms:List Md):kX V R w τ ms [] [] []
 | cons {ms:List Md} {c:Cell} {x:TV} {v:Value} {cs:List Cell} {xs:List TV} {vs:List Value}:zi V R w τ (ms.headD .pl) c x v→kX V R w τ ms.tail cs xs vs→kX V R w τ ms (c :: cs) (x :: xs) (v :: vs)
theorem kX.mono {V:St} {R R':Reach} {w:World} {τ:Nat→Value} (k:cD R w R' w):∀{ms:List Md} {cs:List Cell} {xs:List TV} {vs:List Value},kX V R w τ ms cs xs vs→kX V R' w τ ms cs xs vs
 | _,_,_,_,.nil _ => .nil _
 | _,_,_,_,.cons a b => .cons (a.mono k) (kX.mono k b)
theorem kX.len {V:St} {R:Reach} {w:World} {τ:Nat→Value}:∀{ms:List Md} {cs:List Cell} {xs:List TV} {vs:List Value},kX V R w τ ms cs xs vs→xs.length=vs.length∧cs.length=vs.length
 | _,_,_,_,.nil _=>⟨rfl,rfl⟩
 | _,_,_,_,.cons _ b=>by obtain ⟨h1,h2⟩:=kX.len b;simp [h1,h2]
theorem uG {ms:List Md} {i:Nat}:ms.tail.getD i .pl=ms.getD (i+1) .pl:=by cases ms <;> rfl
theorem uH {ms:List Md}:ms.headD .pl=ms.getD 0 .pl:=by cases ms <;> rfl
theorem kX.get {V:St} {R:Reach} {w:World} {τ:Nat→Value}:∀{ms:List Md} {cs:List Cell} {xs:List TV} {vs:List Value},kX V R w τ ms cs xs vs→∀(i:Nat) (v:Value),vs[i]?=some v→∃c x,cs[i]?=some c∧xs[i]?=some x∧zi V R w τ (ms.getD i .pl) c x v
 | _,_,_,_,.nil _,i,v,h=>by simp at h
 | _,_,_,_,.cons a b,0,v,h=>by cases h;exact ⟨_,_,rfl,rfl,by rw [←uH];exact a⟩
 | _,_,_,_,.cons a b,i+1,v,h=>by
  obtain ⟨c,x,h1,h2,h3⟩:=kX.get b i v (by simpa using h)
  exact ⟨c,x,by simpa using h1,by simpa using h2,by rw [←uG];exact h3⟩
section
variable {nt:Nat} {R:Reach} {w:World} {b9:Nat→Prop} {τ:Nat→Value} {S V:St}
theorem za {rw:Bool} (h:Core nt R w b9 τ S) (hV:Lq V S) {m:Md} {c:Cell} {v:Value} {x:TV} {ws:List (Nat × Cell)} (hs:cp R w τ c.1 c.2 v) (hc:∀k∈c.2.bN,nt≤k) (he:Bz V rw m c=some (x,ws)) :
  ∃R',Core nt R' w b9 τ (cJ S ws)∧Fz b9 R w R'∧zi V R' w τ m c x v∧Lq V (cJ S ws):=by
 have cM:∀{m:Md} {k:Nat} {g:Gh},m ≠ .pl→m ≠ .rf→c=(.pt,.cM k)→ws=[]→V k=(x,g)→(g = .pv∨(m = .sm∧∃r,g = .pc r))→∃R',Core nt R' w b9 τ (cJ S ws)∧Fz b9 R w R'∧zi V R' w τ m c x v∧Lq V (cJ S ws):=by
  rintro m k g h1 h2 rfl rfl hk hg
  have:v=τ k:=hs.1
  refine ⟨R,h,Fz.refl _ _ _,?_,hV⟩
  cases m <;> first | exact (h1 rfl).elim | exact (h2 rfl).elim | exact .inl ⟨k,g,rfl,hk,hg,this⟩
 unfold Bz at he
 split at he
 ·have fr:pr V c=some (x,ws)→∃R',Core nt R' w b9 τ (cJ S ws)∧Fz b9 R w R'∧zi V R' w τ .pl c x v∧Lq V (cJ S ws):=fun he=>by
   obtain ⟨R',h1,h2,h3,h4⟩:=pq h hV hs hc he
   exact ⟨R',h1,h2,h3,h4⟩
  cases rw with
  | false=>exact fr he
  | true =>
   rw [ao] at he
   unfold Cm at he
   split at he
   ·cases he
    exact ⟨R,h,Fz.refl _ _ _,hs,hV⟩
   ·exact fr he
 ·rename_i k
  split at he
  ·rename_i cs ts hk
   split at he
   ·rename_i pC rz hf
    cases he
    have e:S k=(.ag cs,.cl ts):=by
     rcases hV k with e | e | ⟨e,_⟩
     ·rw [←e,hk]
     ·rw [hk] at e;cases e
     ·rw [hk] at e;cases e
    have hK:=h.key k
    rw [e] at hK
    obtain ⟨b,ys,el,xs,h1,h2,h3,h4,h5,h6⟩:=hK
    cases h3
    obtain ⟨b',p1,hv⟩:∃b,τ k = .pointer (some ⟨b,0,none⟩)∧v = .pointer (some ⟨b,0,none⟩):=hs
    obtain ⟨R',f1,f2,f3,f4,_⟩:=hM h hV h4 (fun t ht=>⟨by
     have:=h.inv k t.2
     rw [e] at this
     exact (this (List.mem_map_of_mem (f:=(·.2)) ht)).1,h5 t ht⟩) hf
    exact ⟨R',f1,f2,⟨k,cs,ts,b,ys,el,_,rfl,hk,by rw [hv,p1],h1,h2,rfl,iN f3⟩,f4⟩
   ·cases he
  ·cases he
 ·cases he
 ·rename_i k n1 _
  split at he
  ·rename_i y hk
   cases he
   exact cM (by intro e;subst e;simp_all) (by intro e;subst e;simp_all) rfl rfl (by assumption) (.inl rfl)
  ·rename_i y r hk
   cases he
   exact cM (by simp) (by simp) rfl rfl (by assumption) (.inr ⟨rfl,_,rfl⟩)
  ·cases he
 ·rename_i t
  cases he
  refine ⟨R,h,Fz.refl _ _ _,.inr ⟨.inl rfl,t,rfl,rfl,?_⟩,hV⟩
  have:Rep R w (.nl t) v:=fg.rep hs
  cases this with
  | sc h=>cases h
  | nl=>rfl
 ·rename_i t
  cases he
  refine ⟨R,h,Fz.refl _ _ _,.inr ⟨.inr rfl,t,rfl,rfl,?_⟩,hV⟩
  have:Rep R w (.nl t) v:=fg.rep hs
  cases this with
  | sc h=>cases h
  | nl=>rfl
 ·cases he
theorem rr {rw:Bool}:∀{cs:List Cell} {ms:List Md} {R:Reach} {S:St} {vs:List Value} {xs:List TV} {ws:List (Nat × Cell)},Core nt R w b9 τ S→Lq V S→Cells R w τ nt cs vs→ru V rw ms cs=some (xs,ws) →
  ∃R',Core nt R' w b9 τ (cJ S ws)∧Fz b9 R w R'∧kX V R' w τ ms cs xs vs∧Lq V (cJ S ws)
 | [],ms,R,S,_,_,_,h,hV,.nil,he=>by cases he;exact ⟨R,h,Fz.refl _ _ _,.nil _,hV⟩
 | c :: cs,ms,R,S,_,_,_,h,hV,.cons a b t,he=>by
  simp only [ru] at he
  split at he
  ·rename_i x ws e1
   split at he
   ·rename_i xs us e2
    cases he
    obtain ⟨R1,h1,k1,r1,q1⟩:=rr h hV t e2
    obtain ⟨R2,h2,k2,r2,q2⟩:=za h1 q1 (a.cj k1.1 fun _ _=>rfl) b e1
    rw [eI]
    exact ⟨R2,h2,k1.trans k2,.cons r2 (r1.mono k2.1),q2⟩
   ·cases he
  ·cases he
theorem oW:∀{l:List (Nat × Cell)} {S:St} {k:Nat} {x:Cell},(k,x)∈l→(∀y,(k,y)∈l→y=x)→cJ S l k=x
 | (j,y) :: l,S,k,x,h,hu=>by
  simp only [cJ]
  by_cases e:k=j
  ·subst e
   rw [bG]
   exact hu y (List.mem_cons_self ..)
  ·rw [bO _ _ e]
   rcases aC.1 h with h | h
   ·cases h;exact (e rfl).elim
   ·exact oW h fun y hy=>hu y (List.mem_cons_of_mem _ hy)
theorem jW {V:St}:∀{ms:List Md} {cs:List Cell} {ys:List TV} {p:Nat × Cell},p∈eD V ms cs ys→∃i c y,cs[i]?=some c∧ys[i]?=some y∧i<ms.length∧gJ V (ms.getD i .pl) c y=some p
 | m :: ms,c :: cs,y :: ys,p,h=>by
  simp only [eD] at h
  split at h
  ·rename_i q e
   rcases aC.1 h with rfl | h
   ·exact ⟨0,c,y,rfl,rfl,by simp,e⟩
   ·obtain ⟨i,c',y',h1,h2,h3,h4⟩:=jW h
    exact ⟨i+1,c',y',by simpa using h1,by simpa using h2,by simpa using h3,h4⟩
  ·obtain ⟨i,c',y',h1,h2,h3,h4⟩:=jW h
   exact ⟨i+1,c',y',by simpa using h1,by simpa using h2,by simpa using h3,h4⟩
 | [],_,_,_,h=>by simp [eD] at h
 | _ :: _,[],_,_,h=>by simp [eD] at h
 | _ :: _,_ :: _,[],_,h=>by simp [eD] at h
theorem iO {V:St}:∀{ms:List Md} {cs:List Cell} {ys:List TV} {p:Nat × Cell} {i:Nat} {c:Cell} {y:TV},cs[i]?=some c→ys[i]?=some y→i<ms.length→gJ V (ms.getD i .pl) c y=some p→p∈eD V ms cs ys
 | m :: ms,c :: cs,y :: ys,p,0,_,_,h1,h2,_,h4=>by
  cases h1;cases h2
  simp only [eD]
  have:gJ V m c y=some p:=h4
  rw [this];exact List.mem_cons_self ..
 | m :: ms,c :: cs,y :: ys,p,i+1,_,_,h1,h2,h3,h4=>by
  have:=iO (ms:=ms) (cs:=cs) (ys:=ys) (i:=i) (by simpa using h1) (by simpa using h2) (by simpa using h3) h4
  simp only [eD]
  split
  ·exact List.mem_cons_of_mem _ this
  ·exact this
 | [],_,_,_,_,_,_,_,_,h,_=>by simp at h
 | _ :: _,[],_,_,_,_,_,h,_,_,_=>by simp at h
 | _ :: _,_ :: _,[],_,_,_,_,_,h,_,_=>by simp at h
theorem qS {k:Nat} {x:Cell} {l:List (Nat × Cell)} (h:pB ((k,x) :: l)=true) {p:Nat × Cell} (hp:p∈l):p.1≠k:=by
 simp only [pB,ae,aw] at h
 have:=h.1 p hp
 intro e
 rw [e] at this
 simp at this
theorem uQ {p:Nat × Cell} {l:List (Nat × Cell)} (h:pB (p :: l)=true):pB l=true:=by
 obtain ⟨k,x⟩:=p
 simp only [pB,ae] at h;exact h.2
theorem pA {V:St}:∀{ms:List Md} {cs:List Cell} {ys:List TV} {k i j:Nat} {c c':Cell} {y y':TV} {x x':Cell},pB (eD V ms cs ys)=true→cs[i]?=some c→ys[i]?=some y→i<ms.length→gJ V (ms.getD i .pl) c y=some (k,x) →
  cs[j]?=some c'→ys[j]?=some y'→j<ms.length→gJ V (ms.getD j .pl) c' y'=some (k,x')→i=j
 | m :: ms,c :: cs,y :: ys,k,0,0,_,_,_,_,_,_,_,_,_,_,_,_,_,_,_=>rfl
 | m :: ms,c :: cs,y :: ys,k,0,j+1,_,_,_,_,_,_,hd,h1,h2,h3,h4,k1,k2,k3,k4=>by
  cases h1;cases h2
  have e:gJ V m c y=some (k,_):=h4
  simp only [eD,e] at hd
  exact (qS hd (iO (by simpa using k1) (by simpa using k2) (by simpa using k3) k4) rfl).elim
 | m :: ms,c :: cs,y :: ys,k,i+1,0,_,_,_,_,_,_,hd,h1,h2,h3,h4,k1,k2,k3,k4=>by
  cases k1;cases k2
  have e:gJ V m c y=some (k,_):=k4
  simp only [eD,e] at hd
  exact (qS hd (iO (by simpa using h1) (by simpa using h2) (by simpa using h3) h4) rfl).elim
 | m :: ms,c :: cs,y :: ys,k,i+1,j+1,_,_,_,_,_,_,hd,h1,h2,h3,h4,k1,k2,k3,k4=>by
  have nf:pB (eD V ms cs ys)=true:=by
   simp only [eD] at hd
   split at hd
   ·exact uQ hd
   ·exact hd
  rw [pA nf (by simpa using h1) (by simpa using h2) (by simpa using h3) h4 (by simpa using k1) (by simpa using k2) (by simpa using k3) k4]
 | [],_,_,_,_,_,_,_,_,_,_,_,_,_,_,h,_,_,_,_,_=>by simp at h
 | _ :: _,[],_,_,_,_,_,_,_,_,_,_,_,h,_,_,_,_,_,_,_=>by simp at h
 | _ :: _,_ :: _,[],_,_,_,_,_,_,_,_,_,_,_,h,_,_,_,_,_,_=>by simp at h
theorem qt {nt:Nat} {own:Nat→Nat}:∀{l:List Nat} {j:Nat} {outs:List TV} {ns:List (Nat × Cell)},yn nt own V l j outs=some ns →
  (∀p∈ns,∃q i y,l[q]?=some i∧p=(own (j+q),(y,.pv))∧jZ outs i=some y∧jy nt V (own (j+q))=true)∧(∀q i,l[q]?=some i→∃y,jZ outs i=some y∧(own (j+q),(y,.pv))∈ns∧jy nt V (own (j+q))=true)
 | [],j,outs,ns,h=>by cases h;exact ⟨by simp,by simp⟩
 | i :: l,j,outs,ns,h=>by
  simp only [yn] at h
  split at h
  ·rename_i x hx
   obtain ⟨h1,h2⟩:=br.1 h
   rw [aG] at h2
   obtain ⟨Iz,h2,rfl⟩:=h2
   obtain ⟨k1,k2⟩:=qt h2
   refine ⟨fun p hp=>?_,fun q i' hq=>?_⟩
   ·rcases aC.1 hp with rfl | hp
    ·exact ⟨0,i,x,rfl,rfl,hx,h1⟩
    ·obtain ⟨q,i',y,e1,e2,e3,e4⟩:=k1 p hp
     rw [show j+1+q=j+(q+1) by omega] at e2 e4
     exact ⟨q+1,i',y,by simpa using e1,e2,e3,e4⟩
   ·cases q with
    | zero=>cases hq;exact ⟨x,hx,List.mem_cons_self ..,h1⟩
    | succ q =>
     obtain ⟨y,e1,e2,e3⟩:=k2 q i' (by simpa using hq)
     rw [show j+1+q=j+(q+1) by omega] at e2 e3
     exact ⟨y,e1,List.mem_cons_of_mem _ e2,e3⟩
  ·cases h
theorem yh {R:Reach} {w:World} {l:List Nat} {outs:List TV} {eS:List Value} {i:Nat} {y:TV} (h:dX R w (km l outs) eS) (hi:i∈l) (hy:jZ outs i=some y):∃v,jd eS i=some v:=by
 unfold jZ at hy
 unfold jd
 cases hb:Nat.blt i 1000 with
 | true =>
  rw [hb,ao] at hy
  simp only [ao]
  have hl:=h.length
  have:(km l outs).length=outs.length:=by unfold km;cases fX l <;> simp
  have eL:=(av.1 hy).1
  exact ⟨_,ah (by omega)⟩
 | false =>
  rw [hb,af] at hy
  simp only [af]
  have hs:fX l=false:=by
   cases hs:fX l with
   | false=>rfl
   | true=>have:=aw.1 hs i hi;rw [hb] at this;cases this
  unfold km at h
  rw [hs,af] at h
  match outs,hy with
  | .ag cs :: r,hy =>
   simp only [List.getElem?_cons_zero] at hy
   simp only [aP,DI] at h
   cases h with
   | cons h1 h2 =>
    cases h1 with
    | sc e=>cases e
    | @ag _ ys hL =>
     have hl:=hL.length
     simp only [List.length_mapIdx] at hl
     have eL:=(av.1 hy).1
     exact ⟨_,ah (l:=ys) (by simpa using (by omega:i - 1000<ys.length))⟩
theorem n7 {outs:List TV} {n i:Nat} {y:TV} (h:jZ (outs.take n) i=some y):jZ outs i=some y:=by
 unfold jZ at h ⊢
 have t:∀j x,(outs.take n)[j]?=some x→outs[j]?=some x:=fun j x hj=>by
  rw [aH] at hj
  split at hj
  ·exact hj
  ·cases hj
 cases hb:Nat.blt i 1000 with
 | true=>rw [hb,ao] at h;rw [ao];exact t _ _ h
 | false =>
  rw [hb,af] at h
  rw [af]
  split at h
  ·rename_i cs e;rw [t _ _ e];exact h
  ·cases h
end
end Go.Eng
namespace Go.Eng
open Go.RowKit
theorem oG:∀{ms:List Md} {ins outs ys:List TV},fV ms ins outs=some ys→ys.length=ms.length
 | [],_,_,_,h=>by
  simp only [fV] at h
  obtain ⟨_,h⟩:=br.1 h
  cases h;rfl
 | m :: ms,ins,outs,ys,h=>by
  have key:∀{y:TV} {ins outs:List TV},(fV ms ins outs).map (y :: ·)=some ys→ys.length=(m :: ms).length:=fun h=>by
   rw [aG] at h
   obtain ⟨zs,h1,rfl⟩:=h
   simp [oG h1]
  unfold fV at h
  split at h <;> first | (rename_i e;cases e;exact key h) | (rename_i e _;cases e;exact key h) | (rename_i e _ _;cases e;exact key h) | (cases h;done) | skip
  all_goals simp_all
theorem rp:∀{ms:List Md} {ins outs ys:List TV} {i:Nat},fV ms ins outs=some ys→ms.getD i .pl = .sm→ys[i]?=ins[i]?
 | [],_,_,_,i,_,h=>by simp at h
 | m :: ms,ins,outs,ys,i,h,hm=>by
  have key:∀{y z:TV} {AA zr:List TV},ins=z :: AA→(fV ms AA zr).map (y :: ·)=some ys→(m = .sm→y=z)→ys[i]?=ins[i]?:=fun {y z AA zr} e h hy=>by
   rw [aG] at h
   obtain ⟨zs,h1,rfl⟩:=h
   subst e
   cases i with
   | zero=>simp at hm ⊢;exact hy hm
   | succ i=>simp at hm ⊢;exact rp h1 (by simpa using hm)
  unfold fV at h
  split at h <;> first | (rename_i e;cases e;exact key rfl h (by simp)) | (rename_i e _;cases e;exact key rfl h (by simp)) | (rename_i e _ _;cases e;exact key rfl h (by simp)) | (cases h;done) | skip
  all_goals simp_all
theorem ql (l:List TV):km [] l=l:=by
 unfold km
 simp only [fX,List.all_nil,ao]
 apply List.ext_getElem?
 intro i
 rw [List.getElem?_mapIdx]
 cases l[i]? <;> rfl
theorem cP.one {R:Reach} {w:World} {p:Bool} {v:Value} {x:TV} (h:cP R w p v x):v.oneCell'=true:=by
 obtain ⟨t,l,_,⟨_,rfl⟩ | ⟨g,cap,cur,e,fz,rfl,_⟩⟩:=h <;> rfl
section
variable {C:Ctx} {S V:St} {a:Act} {w:World} {R:Reach} {τ:Nat→Value} {o:Oper} {d:Nat}
theorem cC.yf (h:cC C S a w R τ) (hl:d<C.nt) {v:Value} {x:TV} {g:Gh} (hs:cp R w τ x g v) (hg:g.slot=true) (hm:∀k∈g.bN,C.nt≤k∧(S k).2 ≠ .no):lH C (bL S d (x,g)) (a.put (some d) v) w:=by
 refine ⟨R,_,by simp [Act.put,h.size],h.defers,h.core.put hl hs hg hm,fun t ht=>?_,⟨h.io.1,fun k hk=>?_⟩,h.ext,h.gl⟩
 ·by_cases e:t=d
  ·subst e;rw [de];simp [Act.put,Array.getD,h.size,ht]
  ·rw [dm _ _ e,←h.tmps t ht]
   simp only [Act.put,Array.getD_eq_getD_getElem?]
   rw [Array.getElem?_setIfInBounds_ne (Ne.symm e)]
 ·have:=h.io.1
  rw [dm _ _ (by omega)];exact h.io.2 k hk
theorem np {f:Nat} {args:Array Operand} {ts:Array TypeId} {x:Operand} (ho:o.op = .call { callee := .value x,args,argTypes:=ts }) (hx:a.eval x = .func (.func f) #[] #[]) (hp:gL C.P f=true):(execOp a.eval o).run C.P w = .ok (.enter f (args.map a.eval)) w:=by
 unfold gL at hp
 cases hf:C.P.funcs[f]? with
 | none=>simp [hf] at hp
 | some fn =>
  simp only [hf,Option.any_some,ae,Bool.not_eq_true',beq_eq_false_iff_ne,ne_eq] at hp
  obtain ⟨h1,h2⟩:=hp
  have IL:fn.body.isNone=false:=by cases hb:fn.body <;> simp [hb] at h1 ⊢
  simp [execOp,ho,resolve,Deferred.ofValue,hx,invoke,callFunc,hf]
  rw [al h2,al (by intro e;rw [e] at h1;cases h1)]
open Classical in
noncomputable def qq (τ:Nat→Value) (own:Nat→Nat) (l:List Nat) (eS:List Value) (k:Nat):Value :=
 if h:∃q i,l[q]?=some i∧own q=k then (jd eS (l.getD h.choose 0)).getD undef else τ k
theorem vX {own:Nat→Nat} {l:List Nat} {eS:List Value} {q i:Nat} (lY:∀j j',own j=own j'→j=j') (hq:l[q]?=some i):qq τ own l eS (own q)=(jd eS i).getD undef:=by
 have h:∃q' i,l[q']?=some i∧own q'=own q:=⟨q,i,hq,rfl⟩
 unfold qq
 rw [dif_pos h]
 obtain ⟨i',h1,h2⟩:=h.choose_spec
 have:h.choose=q:=lY _ _ h2
 rw [this,show l.getD q 0=i by simp [ai,hq]]
theorem uk {own:Nat→Nat} {l:List Nat} {eS:List Value} {k:Nat} (h:∀q i,l[q]?=some i→own q≠k):qq τ own l eS k=τ k:=by
 unfold qq
 rw [dif_neg]
 rintro ⟨q,i,h1,h2⟩
 exact h q i h1 h2
set_option maxHeartbeats 2000000 in
theorem go_call (h:cC C S a w R τ) (hV:Lt V S) (hd:o.dst=none∨∃d,o.dst=some d∧d<C.nt) {f:Nat} {c:eE} {sg:cg} (hS:zY C.P C.gl f (c,sg)) {args:Array Operand} {ts:Array TypeId} {x:Operand} (ho:o.op = .call { callee := .value x,args,argTypes:=ts }) (hx:a.eval x = .func (.func f) #[] #[])
  {tl:List TypeId} {cs:List Cell} {xs:List TV} {ws:List (Nat × Cell)} {outs:List TV} {own:Nat→Nat} {p:Option Bool} {e:dP} (kO:jl C.E C.nt V tl args.toList=some cs) (zA:ru V sg.raw sg.md cs=some (xs,ws)) (hc:(c xs).holds outs) (lY:0<C.nt→∀j j',own j=own j'→j=j') (he:qZ C.nt own V sg cs xs ws p outs=some e):cL C o a w (eJ S o.dst e):=by
 unfold qZ at he
 obtain ⟨hh,he⟩:=br.1 he
 simp only [ae] at hh
 obtain ⟨hh,EM⟩:=hh
 have lY:=lY (Nat.le_of_ble_eq_true hh.2)
 have hle:=Nat.le_of_ble_eq_true hh.1
 split at he <;> try (cases he;done)
 rename_i ns ys HA AF
 obtain ⟨Gg,he⟩:=br.1 he
 cases he
 simp only [ae] at Gg
 obtain ⟨zH,xF⟩:=Gg
 have xF:∀q∈ws,∀p∈eD V sg.md cs ys,p.1≠q.1:=fun q hq p hp e=>by
  have:=aw.1 (aw.1 xF q hq) p hp
  rw [e] at this;simp at this
 obtain ⟨fc,_,r6⟩:=je h hV kO
 obtain ⟨R1,h1,f1,AH,hq⟩:=rr h.core hV.q fc zA
 have h':cC C (cJ S ws) a w R1 τ:=h.fz h1 f1
 obtain ⟨AN,EX⟩:=AH.len
 generalize rY:args.toList.map a.eval=vs at *
 generalize yI:cJ S ws=S1 at *
 have IB:=oG AF
 obtain ⟨yC,rE⟩:=qt HA
 simp only [Nat.zero_add] at yC rE
 -- a handed argument
 have hand:∀i v,vs[i]?=some v→sg.md.getD i .pl ≠ .pl→∃c y x,cs[i]?=some c∧ys[i]?=some y∧xs[i]?=some x∧i<sg.md.length∧tK R1 w (sg.md.getD i .pl) x v ∧
   ((v = .slice none 0 0∧∀y,gJ V (sg.md.getD i .pl) c y=none)∨∃k x',gJ V (sg.md.getD i .pl) c y=some (k,x')∧v=τ k∧C.nt≤k∧(S1 k).2.own=true∧(S1 k).2.s8=false∧((S1 k).2.s9=false∨sg.md.getD i .pl = .sm)∧(sg.md.getD i .pl = .sm→S1 k=(x,(V k).2)∧((V k).2 = .pv∨∃r,(V k).2 = .pc r))):=by
  intro i v hv hm
  obtain ⟨c,x,e1,e2,e3⟩:=AH.get i v hv
  have hi:i<sg.md.length:=by
   rcases Nat.lt_or_ge i sg.md.length with hi | hi
   ·exact hi
   ·rw [ai,List.getElem?_eq_none hi] at hm;exact (hm rfl).elim
  have ey:ys[i]?=some ys[i]:=ah (by omega)
  have F8:=r6 c (az e1)
  have Cq:∀k x',gJ V (sg.md.getD i .pl) c ys[i]=some (k,x')→(V k).2 ≠ .hid→S1 k=V k:=fun k x' hb hg=>by
   have jh:=iO e1 ey hi hb
   rw [←yI,dW fun q hq e=>xF q hq _ jh e.symm]
   exact ((hV k).resolve_right hg).symm
  refine ⟨c,ys[i],x,e1,ey,e2,hi,?_⟩
  generalize sg.md.getD i .pl=m at *
  have cM:m ≠ .pl→m ≠ .rf→(∃k g,c=(.pt,.cM k)∧V k=(x,g)∧(g = .pv∨(m = .sm∧∃r,g = .pc r))∧v=τ k)→tK R1 w m x v∧((v = .slice none 0 0∧∀y,gJ V m c y=none)∨∃k x',gJ V m c ys[i]=some (k,x')∧v=τ k∧C.nt≤k∧(S1 k).2.own=true∧(S1 k).2.s8=false∧((S1 k).2.s9=false∨m = .sm)∧(m = .sm→S1 k=(x,(V k).2)∧((V k).2 = .pv∨∃r,(V k).2 = .pc r))):=by
   rintro zE F7 ⟨k,g,rfl,hk,hg,rfl⟩
   have uD:g.own=true∧g.s8=false∧g ≠ .hid∧∀R w τ x v,fi R w τ x g v=cP R w false v x:=by rcases hg with rfl | ⟨_,r,rfl⟩ <;> exact ⟨rfl,rfl,by simp,fun _ _ _ _ _=>rfl⟩
   obtain ⟨x',hb⟩:∃x',gJ V m (.pt,.cM k) ys[i]=some (k,x'):=by cases m <;> first | exact (zE rfl).elim | exact (F7 rfl).elim | exact ⟨_,rfl⟩
   have e:=Cq k x' hb (by rw [hk];exact uD.2.2.1)
   have hK:=h1.key k
   rw [e,hk,uD.2.2.2] at hK
   refine ⟨?_,.inr ⟨k,x',hb,rfl,(F8.2 k (by simp [Gh.bN])).1,by rw [e,hk];exact uD.1,by rw [e,hk];exact uD.2.1,by rw [e,hk];exact hg.imp (fun e=>by rw [e];rfl) (·.1),fun _=>by rw [e,hk];exact ⟨rfl,hg.imp id (·.2)⟩⟩⟩
   cases m <;> first | exact (zE rfl).elim | exact (F7 rfl).elim | exact hK
  cases m with
  | pl=>exact (hm rfl).elim
  | rf =>
   obtain ⟨k,pC,ts,b,zs,el,xC,rfl,hk,rfl,hb,HN,rfl,hL⟩:=e3
   have e:=Cq k _ rfl (by rw [hk];simp)
   have hK:=h1.key k
   rw [e,hk] at hK
   obtain ⟨b',_,_,_,k1,_,_,_,_,k2⟩:=hK
   rw [hb] at k1;cases k1
   exact ⟨⟨b,zs,el,xC,hb,HN,rfl,hL,by simp,k2⟩,.inr ⟨k,_,rfl,rfl,(F8.2 k (by simp [Gh.bN])).1,by rw [e,hk];rfl,by rw [e,hk];rfl,.inl (by rw [e,hk];rfl),fun e=>by cases e⟩⟩
  | sl=>exact cM (by simp) (by simp) (e3.resolve_right (by simp))
  | gv =>
   rcases e3 with e3 | ⟨_,t,rfl,rfl,rfl⟩
   ·exact cM (by simp) (by simp) e3
   ·exact ⟨⟨t,[],rfl,.inl ⟨rfl,rfl⟩⟩,.inl ⟨rfl,fun _=>rfl⟩⟩
  | sm =>
   rcases e3 with e3 | ⟨_,t,rfl,rfl,rfl⟩
   ·exact cM (by simp) (by simp) e3
   ·exact ⟨⟨t,[],rfl,.inl ⟨rfl,rfl⟩⟩,.inl ⟨rfl,fun _=>rfl⟩⟩
 have hargs:pL R1 w sg.md xs vs:=⟨AN,fun i x v hx hv=>by
  by_cases hm:sg.md.getD i .pl = .pl
  ·obtain ⟨c,x',_,e2,e3⟩:=AH.get i v hv
   rw [hx] at e2;cases e2
   rw [hm] at e3 ⊢
   exact e3
  ·obtain ⟨_,_,x',_,_,e2,_,e3,_⟩:=hand i v hv hm
   rw [hx] at e2;cases e2;exact e3⟩
 have ED:BG (· ≠ .pl) sg.md vs:=fun i j v v' b hi hj hv og hb fT=>by
  obtain ⟨c,y,_,a1,a2,_,a3,_,a4⟩:=hand i v hv hi
  obtain ⟨c',y',_,b1,b2,_,b3,_,b4⟩:=hand j v' og hj
  rcases a4 with ⟨rfl,_⟩ | ⟨k,x1,k1,rfl,_,k2,k3,_⟩
  ·cases hb
  rcases b4 with ⟨rfl,_⟩ | ⟨k',x2,l1,rfl,_,l2,l3,_⟩
  ·cases fT
  have:=h1.kh (dM k2 k3 hb) (dM l2 l3 fT)
  subst this
  exact pA zH a1 a2 a3 k1 b1 b2 b3 l1
 obtain ⟨wz,gq⟩:=hS xs outs hc
 intro K Q hK
 unfold Oper.wp
 rw [np ho hx wz,Oper.upon_enter]
 have e0:(⟨vs⟩:Array Value)=args.map a.eval:=by apply Array.ext';simp [←rY]
 have gq:=gq w R1 vs h1.kj h'.gl hargs ED
 rw [e0] at gq
 refine gq.mono ?_
 rintro e w' ⟨x,R',eS,oK,rfl,iG,uB,kq⟩
 have:oK=ys:=by have:=kq.back;simp only at this;rw [AF] at this;cases this;rfl
 subst this
 simp only at iG kq
 -- the Am that G0 handed over
 have bk:∀k x,(k,x)∈eD V sg.md cs oK→∃i v y,vs[i]?=some v∧oK[i]?=some y∧v=τ k∧C.nt≤k∧(S1 k).2.own=true∧(S1 k).2.s8=false∧((x,sg.md.getD i .pl)∈[((y,.cl []),.rf),((y,.pv),.sl),((.dead,.zz),.gv)]∧(S1 k).2.s9=false∨sg.md.getD i .pl = .sm∧x=S1 k∧y=x.1∧(x.2 = .pv∨∃r,x.2 = .pc r))∧(∀x',(k,x')∈eD V sg.md cs oK→x'=x):=by
  intro k x jh
  obtain ⟨i,c,y,e1,e2,e3,e4⟩:=jW jh
  have hi:i<vs.length:=by have:=(av.1 e1).1;omega
  have ev:vs[i]?=some vs[i]:=ah hi
  have hm:sg.md.getD i .pl ≠ .pl:=by intro e;rw [e] at e4;cases e4
  obtain ⟨c',y',xi,a1,a2,ax,a3,_,a4⟩:=hand i _ ev hm
  rw [e1] at a1;cases a1
  rw [e2] at a2;cases a2
  have hu:∀x',(k,x')∈eD V sg.md cs oK→x'=x:=fun x' pd=>by
   obtain ⟨j,c2,y2,k1,k2,k3,k4⟩:=jW pd
   have:=pA zH e1 e2 e3 e4 k1 k2 k3 k4
   subst this
   rw [e1] at k1;cases k1
   rw [e2] at k2;cases k2
   rw [e4] at k4;cases k4;rfl
  rcases a4 with ⟨_,a4⟩ | ⟨k',x',k1,k2,k3,k4,k5,k6,k7⟩
  ·rw [a4] at e4;cases e4
  ·rw [e4] at k1;cases k1
   refine ⟨i,_,y,ev,e2,k2,k3,k4,k5,?_,hu⟩
   by_cases hs:sg.md.getD i .pl = .sm
   ·right
    obtain ⟨q1,q2⟩:=k7 hs
    have ey:y=xi:=by have:=rp AF hs;rw [e2,ax] at this;exact Option.some.inj this
    rw [hs] at e4
    unfold gJ at e4
    split at e4 <;> first | (cases e4;done) | (rename_i em _;cases em;done) | skip
    rename_i ec
    cases e4
    exact ⟨hs,by rw [q1,ey],rfl,q2⟩
   ·left
    refine ⟨?_,k6.resolve_right hs⟩
    unfold gJ at e4
    split at e4 <;> first | (cases e4;done) | (rename_i em _;exact (hs em).elim) | (rename_i em _;cases e4;rw [em];simp)
 have nw:∀q i,sg.own[q]?=some i→(S1 (own q)).2 = .no∧own q<1000000∧C.nt≤own q:=fun q i gE=>dR hq (rE q i gE).choose_spec.2.2
 have B7:∀k x,(k,x)∈eD V sg.md cs oK→∀q i,sg.own[q]?=some i→own q≠k:=fun k x jh q i gE e=>by
  obtain ⟨_,_,_,_,_,_,_,ho,_⟩:=bk k x jh
  rw [←e,(nw q i gE).1] at ho;cases ho
 have Ex:∀g,pb sg.md vs g→∃k x,(k,x)∈eD V sg.md cs oK∧dq τ S1 k=some g:=by
  rintro g ⟨i,v,hm,hv,hb⟩
  obtain ⟨c',y',_,a1,a2,_,a3,_,a4⟩:=hand i v hv hm
  rcases a4 with ⟨rfl,_⟩ | ⟨k',x',k1,rfl,k3,k4,k5,_⟩
  ·cases hb
  ·exact ⟨k',x',iO a1 a2 a3 k1,dM k4 k5 hb⟩
 have td:∀g,pb sg.md vs g→C.b9 g:=fun g hg=>by obtain ⟨k,_,_,hb⟩:=Ex g hg;exact h1.b9 k g hb
 have rv:∀q i,sg.own[q]?=some i→∃v y,jd eS i=some v∧(jd eS i).getD undef=v∧jZ (outs.take sg.bC) i=some y∧jZ outs i=some y∧cP R' w' false v y:=fun q i gE=>by
  obtain ⟨y,e1,_⟩:=rE q i gE
  have hi:=az gE
  obtain ⟨v,hv⟩:=yh kq.rep hi e1
  exact ⟨v,y,hv,by rw [hv];rfl,e1,n7 e1,kq.own i hi _ _ hv (n7 e1)⟩
 -- the state behind the call
 let τ':=qq τ own sg.own eS
 have t1:∀q i,sg.own[q]?=some i→τ' (own q)=(jd eS i).getD undef:=fun q i=>vX lY
 have t2:∀k,(∀q i,sg.own[q]?=some i→own q≠k)→τ' k=τ k:=fun k=>uk
 have nd:cJ S (eD V sg.md cs oK++(ns++ws))=cJ (cJ S1 ns) (eD V sg.md cs oK):=by rw [eI,eI,yI]
 generalize r8:cJ S (eD V sg.md cs oK++(ns++ws))=S' at *
 have s1:∀k x,(k,x)∈eD V sg.md cs oK→S' k=x:=fun k x jh=>by
  obtain ⟨_,_,_,_,_,_,_,_,_,_,hu⟩:=bk k x jh
  rw [nd];exact oW jh hu
 have s2:∀q i y,sg.own[q]?=some i→jZ (outs.take sg.bC) i=some y→S' (own q)=(y,.pv):=fun q i y gE hy=>by
  obtain ⟨y',e1,e2,_⟩:=rE q i gE
  rw [hy] at e1;cases e1
  rw [nd,dW fun p hp e=>B7 p.1 p.2 hp q i gE e.symm]
  refine oW e2 fun z hz=>?_
  obtain ⟨q',i',y2,k1,k2,k3,_⟩:=yC _ hz
  have ek:own q=own q':=congrArg Prod.fst k2
  have:=lY _ _ ek
  subst this
  rw [gE] at k1;cases k1
  rw [hy] at k3;cases k3
  exact congrArg Prod.snd k2
 have s3:∀k,(∀x,(k,x) ∉ eD V sg.md cs oK)→(∀q i,sg.own[q]?=some i→own q≠k)→S' k=S1 k:=fun k hb hn=>by
  rw [nd,dW fun p hp e=>hb p.2 (by rw [←e];exact hp),dW fun p hp e=>by
   obtain ⟨q,i,y,k1,rfl,_⟩:=yC p hp
   exact hn q i k1 e]
 have kP:Core C.nt R' w' C.b9 τ' S':=by
  refine h1.step (fun k=>(∃x,(k,x)∈eD V sg.md cs oK)∨∃q i,sg.own[q]?=some i∧own q=k) iG.cj (fun k hk=>?_) (fun k g hk hb=>?_) ?_ ?_ ?_ ?_ ?_ ?_ (fun _=>id) ?_ uB ?_
  ·have e1:∀q i,sg.own[q]?=some i→own q≠k:=fun q i a b=>hk (.inr ⟨q,i,a,b⟩)
   exact ⟨s3 k (fun x hx=>hk (.inl ⟨x,hx⟩)) e1,t2 k e1⟩
  ·have eL:=h1.lt hb
   have CK:¬pb sg.md vs g:=fun hg=>by
    obtain ⟨k',x,hm,fT⟩:=Ex g hg
    obtain ⟨_,_,_,_,_,_,_,_,hp,_⟩:=bk k' x hm
    have:=h1.kh fT hb
    subst this
    exact hk (.inl ⟨x,hm⟩)
   exact ⟨iG.heap g eL CK,fun o hr=>(iG.oQ g o hr).resolve_right (by rintro (h | h);exact absurd eL (by omega);exact CK h)⟩
  ·rintro k (⟨x,hx⟩ | ⟨q,i,gE,rfl⟩)
   ·obtain ⟨i,v,y,e1,e2,rfl,e3,e4,e5,e6,_⟩:=bk k x hx
    have hB:=kq.Dm i y _ e2 e1
    rw [s1 k x hx,t2 k (B7 k x hx)]
    simp only [aC,Prod.mk.injEq,List.not_mem_nil,or_false] at e6
    rcases e6 with ⟨⟨rfl,em⟩ | ⟨rfl,em⟩ | ⟨rfl,em⟩,_⟩ | ⟨em,_,rfl,Ib⟩ <;> rw [em] at hB
    ·obtain ⟨b,cs,e,xs,k1,k2,k3,k4,k5,k6⟩:=hB
     exact ⟨b,cs,e,xs,k1,k2,k3,k4,by simp,k6⟩
    ·exact hB
    ·trivial
    ·rcases Ib with e | ⟨r,e⟩ <;> rw [e] <;> exact hB
   ·obtain ⟨v,y,e1,e2,e3,e4,e5⟩:=rv q i gE
    rw [s2 q i y gE e3,t1 q i gE,e2]
    exact e5
  ·rintro k (⟨x,hx⟩ | ⟨q,i,gE,rfl⟩)
   ·exact .inl (t2 k (B7 k x hx))
   ·exact .inr (.inr (nw q i gE).1)
  ·rintro k (⟨x,hx⟩ | ⟨q,i,gE,rfl⟩)
   ·obtain ⟨i,v,y,e1,e2,rfl,e3,e4,e5,e6,_⟩:=bk k x hx
    rw [s1 k x hx]
    simp only [aC,Prod.mk.injEq,List.not_mem_nil,or_false] at e6
    right
    rcases e6 with ⟨⟨rfl,em⟩ | ⟨rfl,em⟩ | ⟨rfl,em⟩,_⟩ | ⟨em,_,rfl,e | ⟨r,e⟩⟩ <;> first | (rw [e];simp) | simp
   ·obtain ⟨v,y,e1,e2,e3,e4,e5⟩:=rv q i gE
    rw [s2 q i y gE e3];right;simp
  ·rintro k (⟨x,hx⟩ | ⟨q,i,gE,rfl⟩)
   ·obtain ⟨i,v,y,e1,e2,rfl,e3,e4,e5,e6,_⟩:=bk k x hx
    rw [s1 k x hx]
    simp only [aC,Prod.mk.injEq,List.not_mem_nil,or_false] at e6
    rcases e6 with ⟨e6,hP⟩ | ⟨em,ex,_⟩
    ·exact .inl ⟨hP,by rcases e6 with ⟨rfl,em⟩ | ⟨rfl,em⟩ | ⟨rfl,em⟩ <;> rfl⟩
    ·exact .inr ⟨e5,ex⟩
   ·obtain ⟨v,y,e1,e2,e3,e4,e5⟩:=rv q i gE
    rw [s2 q i y gE e3,(nw q i gE).1];exact .inl ⟨rfl,rfl⟩
  ·rintro k (⟨x,hx⟩ | ⟨q,i,gE,rfl⟩) _
   ·obtain ⟨i,v,y,e1,e2,rfl,e3,e4,e5,e6,_⟩:=bk k x hx
    exact .inl e4
   ·exact .inr (nw q i gE).1
  ·have ux:∀k x,(k,x)∈eD V sg.md cs oK→(S' k).2.own=true→∃i,(sg.md.getD i .pl).ux∧vs[i]?=some (τ k):=fun k x hx ho=>by
    obtain ⟨i,v,y,e1,e2,rfl,e3,e4,e5,e6,_⟩:=bk k x hx
    rw [s1 k x hx] at ho
    refine ⟨i,?_,e1⟩
    simp only [aC,Prod.mk.injEq,List.not_mem_nil,or_false] at e6
    rcases e6 with ⟨⟨rfl,em⟩ | ⟨rfl,em⟩ | ⟨rfl,em⟩,_⟩ | ⟨em,_⟩ <;> rw [em] <;> first | (cases ho;done) | exact ⟨by simp,by simp⟩
   have zT:∀k x q i g,(k,x)∈eD V sg.md cs oK→sg.own[q]?=some i→dq τ' S' k=some g→dq τ' S' (own q)=some g→False:=fun k x q i g hx gE h1 h2=>by
    obtain ⟨o1,b1⟩:=cW h1
    obtain ⟨o2,b2⟩:=cW h2
    obtain ⟨j,l1,l2⟩:=ux k x hx o1
    obtain ⟨v,y,e1,e2,e3,e4,e5⟩:=rv q i gE
    rw [t1 q i gE,e2] at b2
    rw [t2 k (B7 k x hx)] at b1
    exact kq.Eh i (az gE) v g e1 b2 j _ l1 l2 b1
   rintro k g (⟨x,hx⟩ | ⟨q,i,gE,rfl⟩) hb
   ·obtain ⟨i,v,y,e1,e2,rfl,e3,e4,e5,e6,_⟩:=bk k x hx
    have b1:=(cW hb).2
    rw [t2 k (B7 k x hx)] at b1
    have b2:=dM e4 e5 b1
    refine ⟨h1.b9 k g b2,?_,.inr ⟨k,.inl ⟨x,hx⟩,b2⟩⟩
    rintro k' (⟨x',pd⟩ | ⟨q,i,gE,rfl⟩) gf fT
    ·obtain ⟨_,_,_,_,_,_,_,f4,f5,_⟩:=bk k' x' pd
     have b3:=(cW fT).2
     rw [t2 k' (B7 k' x' pd)] at b3
     exact gf (h1.kh b2 (dM f4 f5 b3)).symm
    ·exact zT k x q i g hx gE hb fT
   ·obtain ⟨v,y,e1,e2,e3,e4,e5⟩:=rv q i gE
    have b1:=(cW hb).2
    rw [t1 q i gE,e2] at b1
    have hm:=kq.b9 i (az gE) v g e1 b1
    refine ⟨hm.elim (td g) fun e => .inr (Nat.le_trans h'.ext.size e),?_,hm.symm.imp id fun hg=>?_⟩
    ·rintro k' (⟨x',pd⟩ | ⟨q',i',AG,rfl⟩) gf fT
     ·exact zT k' x' q i g pd gE fT hb
     ·obtain ⟨v',y',f1,f2,_⟩:=rv q' i' AG
      have b2:=(cW fT).2
      rw [t1 q' i' AG,f2] at b2
      exact gf (by rw [kq.Ei q q' i i' v v' g gE AG e1 f1 b1 b2])
    ·obtain ⟨k0,x0,h0,ly⟩:=Ex g hg
     exact ⟨k0,.inl ⟨x0,h0⟩,ly⟩
  ·rintro k (⟨x,hx⟩ | ⟨q,i,gE,rfl⟩) j hj
   ·obtain ⟨i,v,y,e1,e2,rfl,e3,e4,e5,e6,_⟩:=bk k x hx
    rw [s1 k x hx] at hj
    simp only [aC,Prod.mk.injEq,List.not_mem_nil,or_false] at e6
    rcases e6 with ⟨⟨rfl,em⟩ | ⟨rfl,em⟩ | ⟨rfl,em⟩,_⟩ | ⟨em,ex,_⟩ <;> first | (simp [Gh.bN] at hj;done) | skip
    rw [ex] at hj
    obtain ⟨q1,q2⟩:=h1.inv k j hj
    refine ⟨q1,?_⟩
    by_cases hb:∃x',(j,x')∈eD V sg.md cs oK
    ·obtain ⟨x',pd⟩:=hb
     obtain ⟨i',_,_,_,_,_,_,f3,_,f6,_⟩:=bk j x' pd
     rw [s1 j x' pd]
     simp only [aC,Prod.mk.injEq,List.not_mem_nil,or_false] at f6
     rcases f6 with ⟨⟨rfl,_⟩ | ⟨rfl,_⟩ | ⟨rfl,_⟩,_⟩ | ⟨_,rfl,_⟩ <;> first | (simp;done) | exact q2
    ·rw [s3 j (fun x' pd=>hb ⟨x',pd⟩) fun q i gE e=>by rw [←e] at q2;exact q2 (nw q i gE).1]
     exact q2
   ·obtain ⟨v,y,e1,e2,e3,e4,e5⟩:=rv q i gE
    rw [s2 q i y gE e3] at hj
    simp [Gh.bN] at hj
  ·rintro k (⟨x,hx⟩ | ⟨q,i,gE,rfl⟩) hk
   ·obtain ⟨_,_,_,_,_,_,e3,_⟩:=bk k x hx;omega
   ·have:=(nw q i gE).2.2;omega
 have qE:cC C S' a w' R' τ':=⟨h'.size,h'.defers,kP,fun t ht=>by
   rw [t2 t fun q i gE e=>by have:=(nw q i gE).2.2;omega];exact h'.tmps t ht,
  ⟨h'.io.1,fun k hk=>by rw [t2 k fun q i gE e=>by have:=(nw q i gE).2.1;omega];exact h'.io.2 k hk⟩,h'.ext.trans iG (fun b hb=>td b hb),h'.gl.cj iG.cj⟩
 show K (a.put o.dst x) w'
 rcases hd with hd | ⟨d,hd,hl⟩
 ·rw [hd] at hK ⊢
  exact hK _ _ ⟨R',τ',show cC C _ a w' R' τ' by simpa only [eJ,r8] using qE⟩
 ·rw [hd] at hK ⊢
  refine hK _ _ ?_
  simp only [eJ,r8]
  have oh:cp R' w' τ' (ud own sg (outs.take sg.bC)).1 (ud own sg (outs.take sg.bC)).2 x∧(ud own sg (outs.take sg.bC)).2.slot=true∧∀k∈(ud own sg (outs.take sg.bC)).2.bN,∃q i,sg.own[q]?=some i∧k=own q:=by
   have fq:=kq.rep
   unfold ud
   cases hb:Nat.beq sg.bC 1 with
   | true =>
    have hb:=aj hb
    have hx:=kq.val
    simp only [hb,if_true] at hx
    have hl:=kq.len
    simp only [hb] at hl
    obtain ⟨v,rfl⟩:∃v,eS=[v]:=by
     match eS,hl with
     | [v],_=>exact ⟨v,rfl⟩
    subst hx
    simp only [ao]
    cases ho:sg.own with
    | nil =>
     rw [ho,ql] at fq
     refine ⟨?_,rfl,by simp [Gh.bN]⟩
     generalize outs.take sg.bC=l at *
     cases fq with
     | cons hr _=>exact .no hr
    | cons i r =>
     have h0:sg.own[0]?=some i:=by rw [ho];rfl
     obtain ⟨v',y,e1,e2,e3,e4,e5⟩:=rv 0 i h0
     cases B2:Nat.blt i 1000 with
     | true =>
      have uP:=e1
      unfold jd at uP
      rw [B2,ao] at uP
      have hi:i=0:=by have:=(av.1 uP).1;simp at this;exact this
      subst hi
      cases uP
      dsimp only
      simp only [B2,ao]
      exact ⟨⟨by rw [t1 0 0 h0];rfl,e5.one⟩,rfl,fun k hk=>⟨0,0,by rw [←ho];exact h0,by simpa [Gh.bN] using hk⟩⟩
     | false =>
      have uP:=e1
      unfold jd at uP
      rw [B2,af] at uP
      simp only [List.getElem?_cons_zero] at uP
      have CG:fX (i :: r)=false:=by unfold fX;rw [List.all_cons,B2];rfl
      rw [ho] at fq
      dsimp only
      simp only [B2,af]
      unfold km at fq ⊢
      rw [CG] at fq ⊢
      simp only [af] at fq ⊢
      unfold jZ at e3
      rw [B2,af] at e3
      generalize outs.take sg.bC=l at *
      match l,e3,fq with
      | .ag pC :: l',_,fq =>
       simp only [aP,DI] at fq ⊢
       cases fq with
       | cons hr ht =>
        cases hr with
        | sc e=>cases e
        | @ag _ ys hL =>
         have qJ:ys[i - 1000]?=some (τ' (own 0)):=by rw [t1 0 i h0,e2];exact uP
         exact ⟨⟨_,_,rfl,rfl,hL,fun p hp=>by simp at hp;subst hp;exact qJ⟩,rfl,fun k hk=>⟨0,i,by rw [←ho];exact h0,by simpa [Gh.bN] using hk⟩⟩
   | false =>
    have hb:sg.bC≠1:=fun e=>by rw [e] at hb;cases hb
    have hx:=kq.val
    simp only [al hb] at hx
    subst hx
    simp only [af]
    cases ho:sg.own with
    | nil =>
     rw [ho] at fq
     exact ⟨.no (.tu fq),rfl,by simp [Gh.bN]⟩
    | cons i r =>
     simp only [List.isEmpty_cons,af]
     rw [←ho]
     have key:∀p∈(sg.own.mapIdx fun j i=>(i,own j)),∃q,sg.own[q]?=some p.1∧p.2=own q:=fun p hp=>by
      obtain ⟨q,hq⟩:=List.mem_iff_getElem?.1 hp
      rw [List.getElem?_mapIdx,aG] at hq
      obtain ⟨i,h1,rfl⟩:=hq
      exact ⟨q,h1,rfl⟩
     refine ⟨⟨eS,_,rfl,rfl,fq,fun p hp=>?_⟩,rfl,fun k hk=>?_⟩
     ·obtain ⟨q,k1,k2⟩:=key p hp
      obtain ⟨v',y,e1,e2,e3,e4,e5⟩:=rv q p.1 k1
      have CG:fX sg.own=true:=by
       unfold okO at EM
       cases hs:fX sg.own with
       | true=>rfl
       | false=>rw [hs,Bool.false_or,ae] at EM;exact (hb (aj EM.1)).elim
      have uP:=e1
      unfold jd at uP
      rw [aw.1 CG p.1 (az k1),ao] at uP
      rw [k2,t1 q p.1 k1,e2,uP]
     ·obtain ⟨p,hp,rfl⟩:=aS.1 hk
      obtain ⟨q,k1,k2⟩:=key p hp
      exact ⟨q,p.1,k1,k2⟩
  refine qE.yf hl oh.1 oh.2.1 fun k hk=>?_
  obtain ⟨q,i,gE,rfl⟩:=oh.2.2 k hk
  obtain ⟨v,y,e1,e2,e3,e4,e5⟩:=rv q i gE
  exact ⟨(nw q i gE).2.2,by rw [s2 q i y gE e3];simp⟩
end
end Go.Eng
namespace Go.Eng
open Go.RowKit
theorem vr {P:Program} {w:World} {nm:String} {b:Nat} (hb:Fl.num b=true):(Extern.MathFloor.toIntegral nm .zero #[.float .f64 b]).run P w = .ok (.float .f64 (Fl.vt b)) w:=by
 unfold Fl.num at hb
 have e:Extern.MathFloor.toIntegral nm .zero #[.float .f64 b]=(match FloatKind.f64.decode b with
  | .nan s t =>
   if FloatKind.f64.format.quiet t=t then pure (.float .f64 b) else do
   let kept ←choose (.extern "math.Floor,Ceil,Trunc,RoundToEven.signallingNaN kept" 2)
   pure (.float .f64 (if kept == 1 then b else FloatKind.f64.encode (.nan s (FloatKind.f64.format.quiet t))))
  | d=>pure (.float .f64 (FloatKind.f64.encode (d.integral .zero)))):=rfl
 rw [e]
 unfold Fl.vt
 cases hd:FloatKind.f64.decode b with
 | nan s t=>rw [hd] at hb;cases hb
 | number s m e=>rfl
 | infinity s=>rfl
theorem wK {fn:Func} {nm:String} {f:Array Value→Sem Value} (h:fn.name=nm) (e1:Extern.allGenericRows.lookup nm=none) (e2:Extern.allTypedRows.lookup nm=none) (e3:Extern.allRows.lookup nm=some f):Extern.find fn=some f:=by
 unfold Extern.find
 simp only [h,e1,e2,e3]
 rfl
theorem wJ {fn:Func} {nm:String} (h:fn.name=nm) (h2:fn.origin = "" ∨ fn.origin=nm) (e1:Extern.allNextRows.lookup nm=none):Extern.findNext fn=none:=by
 have e2:(Extern.allNextRows.lookup "")=none:=by kernel_rfl
 unfold Extern.findNext
 rcases h2 with h2 | h2 <;> simp only [h,h2,e1,e2] <;> rfl
theorem re (l:IY):Lib.bytesOf (l.map fun x=>(x.toNat:Int))=l:=by
 unfold Lib.bytesOf
 rw [List.map_map]
 conv=>rhs;rw [←List.map_id l]
 exact List.map_congr_left fun x _=>by simp
theorem qe {P:Program} {w:World} {R:Reach} {l:IY} {v:Value} {c:UInt8} (h:Rep R w (.sl .bs l) v):(Extern.BytealgIndexByte.indexByte #[v,.int .u8 c.toNat]).run P w = .ok (.int .i64 (Lib.indexByte l c)) w:=by
 have hs:=Lib.run_indexByteString (P:=P) .empty (c.toNat:Int) w
 cases h with
 | sc h=>cases h
 | sn=>exact hs
 | em=>exact hs
 | @sl _ _ b off n cap hn _ _ hE =>
  have e:=Lib.run_indexByteSlice (P:=P) w b off n cap (l.map fun x=>(x.toNat:Int)) (by simp [hn]) (fun i hi=>by
   have hi:i<l.length:=by omega
   have hg:=hE.get i (.u8 l[i]) (by rw [bg,ah hi];rfl)
   rw [show ez.size .bs=1 from rfl,Nat.mul_one] at hg
   cases hg with
   | one _ _ hc _ hr =>
    rw [hc,hr.dx rfl,ai,bg,ah hi];rfl) (c.toNat:Int)
  rw [e,re];simp
section
variable {C:Ctx} {S V:St} {a:Act} {w:World} {R:Reach} {τ:Nat→Value} {o:Oper}
theorem nq {f:Nat} {nm:String} {args:Array Operand} {ts:Array TypeId} {g:Array Value→Sem Value} {vs:Array Value} {v:Value} (ho:o.op = .call { callee := .value (.func f),args:=args,argTypes:=ts }) (hv:args.map a.eval=vs) (hf:jI C.P f nm=true) (hg:(nm == "runtime.NumGoroutine")=false)
  (e1:Extern.allGenericRows.lookup nm=none) (e2:Extern.allTypedRows.lookup nm=none) (e3:Extern.allRows.lookup nm=some g) (e4:Extern.allNextRows.lookup nm=none) (hr:(g vs).run C.P w = .ok v w):(execOp a.eval o).run C.P w = .ok (.value v) w:=by
 unfold jI at hf
 cases hfn:C.P.funcs[f]? with
 | none=>simp [hfn] at hf
 | some fn =>
  simp only [hfn,Option.any_some,ae,beq_iff_eq,Bool.or_eq_true] at hf
  obtain ⟨⟨hn,hb⟩,Hx⟩:=hf
  have gq:=run_callFunc_extern (P:=C.P) hfn (by rw [hn];simpa using hg) hb (wJ hn Hx e4) (wK hn e1 e2 e3) vs w
  rw [hr] at gq
  have he:a.eval (.func f) = .func (.func f) #[] #[]:=rfl
  simp only [execOp,ho,resolve,Deferred.ofValue,he,invoke]
  simpa [hv,resolve,Deferred.ofValue,invoke] using gq
theorem cL.any (h:cC C S a w R τ) (hd:o.dst=none∨∃d,o.dst=some d∧d<C.nt) {v:Value} {x:TV} (hr:(execOp a.eval o).run C.P w = .ok (.value v) w) (hs:Rep R w x v):cL C o a w (eJ S o.dst ⟨none,(x,.no),[]⟩):=by
 rcases hd with hd | ⟨d,hd,hl⟩
 ·intro K Q hK
  unfold Oper.wp
  rw [hr,Oper.upon_value,hd]
  rw [hd] at hK
  exact hK _ _ ⟨R,τ,h⟩
 ·rw [hd];exact h.eA hd hl hr hs
theorem go_xtn (h:cC C S a w R τ) (hV:Lt V S) (hd:o.dst=none∨∃d,o.dst=some d∧d<C.nt) {f:Nat} {args:Array Operand} {ts:Array TypeId} {e:dP} (hp:∀p,e.p=some p→p=true) (ho:o.op = .call { callee := .value (.func f),args:=args,argTypes:=ts }) (he:A8 C.P f (jl C.E C.nt V ts.toList args.toList)=some e):cL C o a w (eJ S o.dst e):=by
 cases kO:jl C.E C.nt V ts.toList args.toList with
 | none=>rw [kO] at he;cases he
 | some cs =>
  obtain ⟨fc,_,_⟩:=je h hV kO
  have ea:∀{vs:List Value},args.toList.map a.eval=vs→args.map a.eval=⟨vs⟩:=fun hv=>by apply Array.ext';simpa using hv
  rw [kO] at he
  unfold A8 at he
  split at he
  ·rename_i b hb
   cases hb
   obtain ⟨h1,h2⟩:=br.1 he
   cases h2
   generalize hv:args.toList.map a.eval=vs at fc
   cases fc with
   | cons a1 _ t =>
    cases t
    obtain rfl:=(fg.rep a1).dx rfl
    have:=nq ho (ea hv) h1 (by decide +kernel) (by kernel_rfl) (by kernel_rfl) (by kernel_rfl) (by kernel_rfl) (vr (P:=C.P) (w:=w) (nm:=vw) (hp _ rfl))
    exact cL.any h hd this (.sc rfl)
  ·rename_i l c hb
   cases hb
   obtain ⟨h1,h2⟩:=br.1 he
   cases h2
   generalize hv:args.toList.map a.eval=vs at fc
   cases fc with
   | cons a1 _ t =>
    cases t with
    | cons a2 _ t =>
     cases t
     obtain rfl:=(fg.rep a1).dx rfl
     obtain rfl:=(fg.rep a2).dx rfl
     have hr:(Extern.BytealgIndexByte.indexByte #[.string ⟨⟨l⟩⟩,.int .u8 c.toNat]).run C.P w = .ok (.int .i64 (Lib.indexByte l c)) w:=by
      rw [Lib.run_indexByteString];simp
     have:=nq ho (ea hv) h1 (by decide +kernel) (by kernel_rfl) (by kernel_rfl) (by kernel_rfl) (by kernel_rfl) hr
     exact cL.any h hd this (.sc rfl)
  ·rename_i l c hb
   cases hb
   obtain ⟨h1,h2⟩:=br.1 he
   cases h2
   generalize hv:args.toList.map a.eval=vs at fc
   cases fc with
   | cons a1 _ t =>
    cases t with
    | cons a2 _ t =>
     cases t
     obtain rfl:=(fg.rep a2).dx rfl
     have:=nq ho (ea hv) h1 (by decide +kernel) (by kernel_rfl) (by kernel_rfl) (by kernel_rfl) (by kernel_rfl) (qe (fg.rep a1))
     exact cL.any h hd this (.sc rfl)
  ·cases he
end
end Go.Eng
namespace Go.Eng
open Go.RowKit
theorem Cells.get {R:Reach} {w:World} {τ:Nat→Value} {nt:Nat}:∀{cs:List Cell} {vs:List Value},Cells R w τ nt cs vs→∀(i:Nat) (c:Cell),cs[i]?=some c→∃v,vs[i]?=some v∧cp R w τ c.1 c.2 v∧∀m∈c.2.bN,nt≤m
 | _,_,.cons a b _,0,c,h=>by cases h;exact ⟨_,rfl,a,b⟩
 | _,_,.cons _ _ t,i+1,c,h=>by simpa using Cells.get t i c (by simpa using h)
theorem Cells.set {R:Reach} {w:World} {τ:Nat→Value} {nt:Nat}:∀{cs:List Cell} {vs:List Value} {i:Nat},Cells R w τ nt cs vs→Cells R w τ nt (cs.set i (.dead,.no)) vs
 | _,_,_,.nil => .nil
 | _,_,0,.cons a b t => .cons (.no (.dead _)) (by simp [Gh.bN]) t
 | _,_,i+1,.cons a b t => .cons a b (Cells.set t)
theorem zt {a b:Nat} (h:(!Nat.beq a b)=true):a≠b:=fun e=>by subst e;simp at h
theorem ye {R:Reach} {w:World} {τ:Nat→Value} {n:Nat} {rs:List TV} {eS:List Value} (h:dX R w rs eS) (hl:eS.length=n):cp R w τ (uc n rs).1 (uc n rs).2 (if eS.length=1 then eS.headD undef else .tuple ⟨eS⟩)∧(uc n rs).2.slot=true∧(uc n rs).2.bN=[]:=by
 unfold uc
 cases hb:Nat.beq n 1 with
 | true =>
  have:=aj hb
  rw [aq (by omega)]
  refine ⟨?_,rfl,rfl⟩
  match rs,eS,h with
  | [],[],_=>simp at hl;omega
  | _,_,.cons a _=>exact .no a
 | false =>
  rw [al (by intro e;rw [←hl,e] at hb;simp at hb)]
  exact ⟨.no (.tu h),rfl,rfl⟩
section
variable {C:Ctx} {S V:St} {a:Act} {w:World} {R:Reach} {τ:Nat→Value} {o:Oper} {d:Nat}
theorem go_pn (h:cC C S a w R τ) (hV:Lt V S) (hd:o.dst=some d) (hl:d<C.nt) {neg:Bool} {b:BinOp} {t u e:TypeId} {x y:Operand} {m q:Nat} (ho:o.op = .binOp b t x y u) (hb:b=if neg then .neq else .eql) (ht:C.P.underlying t=some (.pointer e)) (hx:dQ C.E C.nt V t x=some (.pt,.ptr m q)) (hy:dQ C.E C.nt V u y=some (.c (.pointer none),.no)):cL C o a w (bL S d (.b neg,.no)):=by
 obtain ⟨q1,_,_⟩:=dO h hV hx
 obtain ⟨g,_,hp⟩:∃g,τ m = .pointer (some ⟨g,0,none⟩)∧a.eval x = .pointer (some ⟨g,q,none⟩):=q1
 have hq:=(cN h hV hy).dx rfl
 have hg:eqGuard b t x y (.pointer (some ⟨g,q,none⟩)) (.pointer none)=pure ():=by unfold eqGuard;cases neg <;> simp [hb]
 have he:(Op.equal t (.pointer (some ⟨g,q,none⟩)) (.pointer none)).run C.P w = .ok false w:=by
  unfold Op.equal Op.maxDepth
  rw [show (10000:Nat)=9999+1 from rfl,Op.equalIn]
  simp [run_underlying ht]
 refine h.eA hd hl (v := .bool neg) ?_ (.sc rfl)
 simp only [execOp,ho,hp,hq,hg,Sem.run_bind,Sem.run_pure,Result.andThen_ok]
 cases neg <;> simp [hb,binOp,he]
theorem go_exv (h:cC C S a w R τ) (hV:Lt V S) (hd:o.dst=some d) (hl:d<C.nt) {x:Operand} {i k:Nat} {vs ds:List TV} {ts l:List (Nat × Nat)} (ho:o.op = .extract x i) (hx:dQ C.E C.nt V 0 x=some (.tu vs,.vc l)) (hk:gr i l=some k) (hm:V k=(.ag ds,.cl ts)):cL C o a w (bL S d (.pt,.ptr k 0)):=by
 obtain ⟨q1,_,q3⟩:=dO h hV hx
 obtain ⟨ys,rA,e1,e2,e3,e4⟩:∃ys rA,a.eval x = .tuple ⟨ys⟩∧TV.tu vs = .tu rA∧dX R w rA ys∧∀p∈l,ys[p.1]?=some (τ p.2):=q1
 have jh:=gi hk
 obtain ⟨b,zs,el,ht,_⟩:=gX h hV (hV.of hm)
 refine h.val hd hl (v:=τ k) (by simp [execOp,ho,e1,Instr.extract,e4 _ jh]) (g := .ptr k 0) ⟨b,ht,ht⟩ rfl fun j hj=>?_
 simp only [Gh.bN,List.mem_singleton] at hj
 subst hj
 exact q3 _ (List.mem_map_of_mem (f:=(·.2)) jh)
theorem done {w':World} {R':Reach} {τ':Nat→Value} {K:Act→World→Prop} {e:dP} {v:Value} {l:List (Nat × Cell)} (hd:o.dst=none∨∃d,o.dst=some d∧d<C.nt) (hs:cC C (cJ S l) a w' R' τ') (he:e.ws=l) (h1:cp R' w' τ' e.x.1 e.x.2 v) (h2:e.x.2.slot=true)
  (h3:∀k∈e.x.2.bN,C.nt≤k∧(cJ S l k).2 ≠ .no) (hK:∀a' w',lH C (eJ S o.dst e) a' w'→K a' w'):K (a.put o.dst v) w':=by
 rcases hd with hd | ⟨d,hd,hl⟩
 ·rw [hd] at hK ⊢
  exact hK _ _ ⟨R',τ',show cC C _ a w' R' τ' by simpa only [eJ,he] using hs⟩
 ·rw [hd] at hK ⊢
  refine hK _ _ ?_
  simp only [eJ,he]
  exact hs.yf hl h1 h2 h3
set_option maxHeartbeats 1000000 in
theorem go_wr (h:cC C S a w R τ) (hV:Lt V S) (hd:o.dst=none∨∃d,o.dst=some d∧d<C.nt) {f n i k:Nat} {c:eE} {e:Bool} (hS:zX C.P C.gl f n i k c e) {args:Array Operand} {ts:Array TypeId} {x:Operand} (ho:o.op = .call { callee := .value x,args,argTypes:=ts }) (hx:a.eval x = .func (.func f) #[] #[])
  {tl:List TypeId} {cs:List Cell} {own:Nat→Nat} {ef:dP} (kO:jl C.E C.nt V tl args.toList=some cs) (hp:∀p,ef.p=some p→p=true) (he:Eb C.nt own V n c i k e cs=some ef):cL C o a w (eJ S o.dst ef):=by
 unfold Eb at he
 split at he <;> try (cases he;done)
 rename_i m HT
 split at he <;> try (cases he;done)
 rename_i ds us hm
 split at he <;> try (cases he;done)
 rename_i xs ws Gz rz y wj E2 BV wu
 obtain ⟨CW,he⟩:=br.1 he
 simp only [ae,aw] at CW
 obtain ⟨⟨Gc,xG⟩,CW⟩:=CW
 have xG:0<C.nt:=Nat.le_of_ble_eq_true xG
 have B0:∀p∈rz++ws,p.1≠m:=fun p hp=>zt (CW p hp).1
 have BZ:∀q∈wj,∀p∈rz++ws,p.1≠q.1:=fun q hq p hp=>zt ((CW p hp).2 q hq)
 obtain ⟨fc,_,r6⟩:=je h hV kO
 generalize rY:args.toList.map a.eval=vs at *
 have Fa:S m=(.ag ds,.cl us):=hV.of hm
 obtain ⟨b,zs,el,yv,Gn,hL,DR,AW,hinv,HU⟩:=gX h hV Fa
 have F1:vs[i]?=some (.pointer (some ⟨b,0,none⟩)):=by
  obtain ⟨v,h1,h2,_⟩:=fc.get i _ HT
  obtain ⟨b',e1,e2⟩:∃b',τ m = .pointer (some ⟨b',0,none⟩)∧v = .pointer (some ⟨b',0,none⟩):=h2
  rw [yv] at e1;cases e1
  rw [h1,e2]
 obtain ⟨R1,g1,f1,hT,q1⟩:=ni h.core hV.q fc.set E2
 obtain ⟨R2,g2,f2,HZ,q2,_,HS⟩:=hM g1 q1 (hL.mono f1.1) (fun t ht=>by
  have ht:t∈us:=by cases e <;> first | exact ht | exact (List.mem_filter.1 ht).1
  exact ⟨(hinv t ht).1,DR t ht⟩) BV
 have Gc:k<ds.length:=by rw [←HS];exact Nat.le_of_ble_eq_true Gc
 rw [←eI] at g2 q2
 have f12:Fz C.b9 R w R2:=f1.trans f2
 have h':cC C (cJ S (rz++ws)) a w R2 τ:=h.fz g2 f12
 generalize yI:cJ S (rz++ws)=S1 at *
 have zE:S1 m=(.ag ds,.cl us):=by rw [←yI,dW B0,Fa]
 obtain ⟨b',sF,xL,e1,e2,_,_,Fc,_,hblk1⟩:=gX h' (Lt.refl S1) zE
 rw [yv] at e1;cases e1
 rw [Gn] at e2;cases e2
 have Ez:zs.length=ds.length:=hL.length.symm
 -- the private cell
 obtain ⟨u,hu,EB,xI,r7⟩:∃u,zs[k]?=some u∧(e=true→cP R2 w false u y∧Value.dq u≠some b)∧(wj=[]∨∃j z,wj=[(j,(.dead,.zz))]∧S1 j=(z,.pv)∧j≠m∧C.nt≤j) ∧
   (∀g,e=true→Value.dq u=some g→∃j,wj=[(j,(.dead,.zz))]∧dq τ S1 j=some g):=by
  cases e with
  | false =>
   rw [af] at wu;cases wu
   exact ⟨_,ah (by omega),by simp,.inl rfl,by simp⟩
  | true =>
   rw [ao] at wu
   unfold zo at wu
   split at wu
   ·rename_i j hj
    split at wu <;> try (cases wu;done)
    rename_i y' HX
    cases wu
    have jh:=gi hj
    have Fb:S j=(y,.pv):=hV.of HX
    have DW:S1 j=(y,.pv):=by rw [←yI,dW (BZ _ (List.mem_singleton.2 rfl)),Fb]
    have DV:j≠m:=fun e=>by rw [e,Fa] at Fb;cases Fb
    have hK:=h'.core.key j
    rw [DW] at hK
    have xK:∀g,Value.dq (τ j)=some g→dq τ S1 j=some g:=fun g hg=>dM (by rw [DW];rfl) (by rw [DW];rfl) hg
    exact ⟨τ j,DR _ jh,fun _=>⟨hK,fun hb=>DV (h'.core.kh (xK b hb) hblk1)⟩,.inr ⟨j,y,rfl,DW,DV,(hinv _ jh).1⟩,fun g _ hg=>⟨j,rfl,xK g hg⟩⟩
   ·split at wu <;> try (cases wu;done)
    rename_i t ht
    cases wu
    obtain ⟨u,hu,_,hr⟩:=hL.get k _ ht
    have:u = .slice none 0 0:=by
     cases hr with
     | sc h=>cases h
     | nl=>rfl
    subst this
    exact ⟨_,hu,fun _=>⟨⟨t,[],rfl,.inl ⟨rfl,rfl⟩⟩,by simp [Value.dq]⟩,.inl rfl,fun g _ hg=>by cases hg⟩
 have fin:∀outs p,(c (xs.set i (.ag ((Gz.map nrm).set k .pt))++[y])).holds outs→Ce C.nt own V n m k (wj++(rz++ws)) p outs=some ef→cL C o a w (eJ S o.dst ef):=by
  intro outs p hc he
  unfold Ce at he
  split at he <;> try (cases he;done)
  rename_i x2 y2 E4
  obtain ⟨yB,he⟩:=br.1 he
  cases he
  obtain ⟨rV,FU,BN⟩:=dR (show Lq V S1 from q2) yB
  obtain ⟨wz,gq⟩:=hS _ outs hc
  have yx:xs.length=vs.length:=hT.length
  have DX:i<vs.length:=(av.1 F1).1
  have gq:=gq w R2 vs b zs el ((Gz.map nrm).set k .pt) u y h'.core.kj h'.gl (by simp [yx]) (fun j x v hj hx hv=>by
    have CO:j<vs.length:=(av.1 hv).1
    rw [List.getElem?_append_left (by simp;omega),List.getElem?_set_ne (Ne.symm hj)] at hx
    obtain ⟨v',h1,h2⟩:=hT.get j x hx
    rw [hv] at h1;cases h1
    exact h2.mono f2.1) F1 (by rw [List.getElem?_append_left (by simp;omega),List.getElem?_set_self (by omega)]) Gn ((iN HZ).set fun _ _ => .pt _) Fc hu (by rw [←yx];simp) EB
  intro K Q hK
  unfold Oper.wp
  rw [np ho hx wz,Oper.upon_enter]
  have e0:(⟨vs⟩:Array Value)=args.map a.eval:=by apply Array.ext';simp [←rY]
  rw [e0] at gq
  refine gq.mono ?_
  rintro ex w' ⟨R',eS,sF,xL,x',u',y',rfl,iG,uB,pN,kq,fq,fT,H0,Fe,CM,rD,CE⟩
  rw [E4] at kq;cases kq
  show K (a.put o.dst _) w'
  have DU:own 0≠m:=fun e=>by rw [e,zE] at rV;cases rV
  have F5:∀q∈wj,own 0≠q.1:=fun q hq e=>by
   rcases xI with rfl | ⟨j,z,rfl,hj,_⟩
   ·cases hq
   ·rw [List.mem_singleton] at hq;subst hq;simp only at e;rw [e,hj] at rV;cases rV
  have DV:∀q∈wj,q.1≠m:=fun q hq e=>by
   rcases xI with rfl | ⟨j,z,rfl,hj,gf,_⟩
   ·cases hq
   ·rw [List.mem_singleton] at hq;subst hq;exact gf e
  have nd:cJ S ((m,(.ag (x2.set k .pt),.cl [(k,own 0)])) :: (own 0,(y2,.pv)) :: (wj++(rz++ws)))=bL (bL (cJ S1 wj) (own 0) (y2,.pv)) m (.ag (x2.set k .pt),.cl [(k,own 0)]):=by
   simp only [cJ,eI];rw [←yI,eI]
  generalize r8:bL (bL (cJ S1 wj) (own 0) (y2,.pv)) m (.ag (x2.set k .pt),.cl [(k,own 0)])=S' at *
  have s1:S' m=(.ag (x2.set k .pt),.cl [(k,own 0)]):=by rw [←r8,bG]
  have s2:S' (own 0)=(y2,.pv):=by rw [←r8,bO _ _ DU,bG]
  have s3:∀j x,wj=[(j,x)]→S' j=x:=fun j x e=>by
   subst e
   rw [←r8,bO _ _ (DV (j,x) (List.mem_singleton.2 rfl)),bO _ _ (Ne.symm (F5 (j,x) (List.mem_singleton.2 rfl)))];simp [cJ,bG]
  have s4:∀q,q≠m→q≠own 0→(∀p∈wj,p.1≠q)→S' q=S1 q:=fun q e1 e2 e3=>by
   rw [←r8,bO _ _ e1,bO _ _ e2,dW e3]
  have wA:∀g,(g=b∨(e=true∧Value.dq u=some g))→C.b9 g:=by
   rintro g (rfl | ⟨he,hg⟩)
   ·exact h'.core.b9 m _ hblk1
   ·obtain ⟨j,_,hb⟩:=r7 g he hg;exact h'.core.b9 j g hb
  have kP:Core C.nt R' w' C.b9 (ky τ (own 0) u') S':=by
   refine h'.core.step (fun q=>q=m∨q=own 0∨∃x,wj=[(q,x)]) iG.cj (fun q hq=>?_) (fun q g hq hb=>?_) ?_ ?_ ?_ ?_ ?_ ?_ (fun _=>id) ?_ uB ?_
   ·refine ⟨s4 q (fun e=>hq (.inl e)) (fun e=>hq (.inr (.inl e))) (fun p hp e=>?_),dm _ _ fun e=>hq (.inr (.inl e))⟩
    rcases xI with rfl | ⟨j,z,rfl,_⟩
    ·cases hp
    ·rw [List.mem_singleton] at hp;subst hp;exact hq (.inr (.inr ⟨_,by rw [←e]⟩))
   ·have CK:¬(g=b∨(e=true∧Value.dq u=some g)):=by
     rintro (rfl | ⟨he,hg⟩)
     ·exact hq (.inl (h'.core.kh hb hblk1))
     ·obtain ⟨j,ej,fT⟩:=r7 g he hg
      have:=h'.core.kh hb fT
      subst this
      exact hq (.inr (.inr ⟨_,ej⟩))
    have eL:=h'.core.lt hb
    exact ⟨iG.heap g eL CK,fun o hr=>(iG.oQ g o hr).resolve_right (by rintro (h | h);exact absurd eL (by omega);exact CK h)⟩
   ·rintro q (rfl | rfl | ⟨x,hx⟩)
    ·rw [s1,dm _ _ (Ne.symm DU)]
     exact ⟨b,sF,xL,_,yv,fT,rfl,H0.set fun _ _ => .pt _,fun t ht=>by rw [List.mem_singleton] at ht;subst ht;rw [de];exact CM,Fe⟩
    ·rw [s2,de];exact rD
    ·rcases xI with e | ⟨j,z,e,_⟩ <;> rw [e] at hx <;> cases hx
     rw [s3 _ _ e];trivial
   ·rintro q (rfl | rfl | ⟨x,hx⟩)
    ·exact .inl (dm _ _ (Ne.symm DU))
    ·exact .inr (.inr rV)
    ·exact .inl (dm _ _ (Ne.symm (F5 (q,x) (by rw [hx];exact List.mem_singleton.2 rfl))))
   ·rintro q (rfl | rfl | ⟨x,hx⟩) <;> right
    ·rw [s1];simp
    ·rw [s2];simp
    ·rcases xI with e | ⟨j,z,e,_⟩ <;> rw [e] at hx <;> cases hx
     rw [s3 _ _ e];simp
   ·rintro q (rfl | rfl | ⟨x,hx⟩) <;> left
    ·rw [s1,zE];exact ⟨rfl,rfl⟩
    ·rw [s2,rV];exact ⟨rfl,rfl⟩
    ·rcases xI with e | ⟨j,z,e,hj,_⟩ <;> rw [e] at hx <;> cases hx
     rw [s3 _ _ e,hj];exact ⟨rfl,rfl⟩
   ·rintro q (rfl | rfl | ⟨x,hx⟩) _
    ·rw [zE];exact .inl rfl
    ·exact .inr rV
    ·rcases xI with e | ⟨j,z,e,hj,_⟩ <;> rw [e] at hx <;> cases hx
     rw [hj];exact .inl rfl
   ·have C0:∀g,dq (ky τ (own 0) u') S' m=some g→g=b:=fun g hg=>by
     have:=(cW hg).2
     rw [dm _ _ (Ne.symm DU),yv] at this;cases this;rfl
    have Gm:∀g,dq (ky τ (own 0) u') S' (own 0)=some g→Value.dq u'=some g:=fun g hg=>by
     have:=(cW hg).2
     rwa [de] at this
    have E5:∀q x g,wj=[(q,x)]→dq (ky τ (own 0) u') S' q=some g→False:=fun q x g hx hg=>by
     have:=(cW hg).1
     rcases xI with e | ⟨j,z,e,_⟩ <;> rw [e] at hx <;> cases hx
     rw [s3 _ _ e] at this;cases this
    rintro q g (rfl | rfl | ⟨x,hx⟩) hg
    ·have:=C0 g hg
     subst this
     refine ⟨wA _ (.inl rfl),?_,.inr ⟨_,.inl rfl,hblk1⟩⟩
     rintro q' (rfl | rfl | ⟨x,hx⟩) gf yF
     ·exact gf rfl
     ·exact (CE _ (Gm _ yF)).1 rfl
     ·exact E5 _ _ _ hx yF
    ·have CF:=Gm g hg
     obtain ⟨v1,v2⟩:=CE g CF
     refine ⟨v2.elim (fun hh=>wA g (.inr hh)) fun hh => .inr (Nat.le_trans h'.ext.size hh),?_,v2.symm.imp id fun ⟨he,hg⟩=>?_⟩
     ·rintro q' (rfl | rfl | ⟨x,hx⟩) gf yF
      ·exact v1 (C0 _ yF)
      ·exact gf rfl
      ·exact E5 _ _ _ hx yF
     ·obtain ⟨j,ej,hb⟩:=r7 g he hg
      exact ⟨j,.inr (.inr ⟨_,ej⟩),hb⟩
    ·exact (E5 _ _ _ hx hg).elim
   ·rintro q (rfl | rfl | ⟨x,hx⟩) j hj
    ·rw [s1] at hj
     simp only [Gh.bN,aP,bo,List.mem_singleton] at hj
     subst hj
     exact ⟨BN,by rw [s2];simp⟩
    ·rw [s2] at hj;cases hj
    ·rcases xI with e | ⟨j,z,e,_⟩ <;> rw [e] at hx <;> cases hx
     rw [s3 _ _ e] at hj;cases hj
   ·rintro q (rfl | rfl | ⟨x,hx⟩) hq
    ·have:=h'.core.slt q hq;rw [zE] at this;cases this
    ·omega
    ·rcases xI with e | ⟨j,z,e,_,_,hn⟩ <;> rw [e] at hx <;> cases hx
     omega
  obtain ⟨r1,r2,r3⟩:=ye (τ:=ky τ (own 0) u') fq pN
  refine done hd (l:=(m,(.ag (x2.set k .pt),.cl [(k,own 0)])) :: (own 0,(y2,.pv)) :: (wj++(rz++ws))) ?_ rfl r1 r2 (by rw [r3];simp) hK
  rw [nd]
  exact ⟨h'.size,h'.defers,kP,fun t ht=>by rw [dm _ _ (by omega)];exact h'.tmps t ht,⟨h'.io.1,fun q hq=>by rw [dm _ _ (by omega)];exact h'.io.2 q hq⟩,h'.ext.trans iG wA,h'.gl.cj iG.cj⟩
 split at he
 ·rename_i outs hc
  exact fin outs none (by rw [hc];rfl) he
 ·rename_i p outs hc
  have oj:p=true:=by
   have kN:=he
   unfold Ce at kN
   split at kN <;> try (cases kN;done)
   obtain ⟨_,kN⟩:=br.1 kN
   cases kN
   exact hp _ rfl
  exact fin outs (some p) (by rw [hc];exact ⟨oj,rfl⟩) he
 ·cases he
set_option maxHeartbeats 1000000 in
theorem go_nw (h:cC C S a w R τ) (hV:Lt V S) (hd:o.dst=none∨∃d,o.dst=some d∧d<C.nt) {f n:Nat} {c:eE} {oc:Option Nat} (hS:zZ C.P C.gl f n c oc) {args:Array Operand} {ts:Array TypeId} {x:Operand} (ho:o.op = .call { callee := .value x,args,argTypes:=ts }) (hx:a.eval x = .func (.func f) #[] #[])
  {tl:List TypeId} {cs:List Cell} {own:Nat→Nat} {ef:dP} (lY:0<C.nt→∀j j',own j=own j'→j=j') (kO:jl C.E C.nt V tl args.toList=some cs) (hp:∀p,ef.p=some p→p=true) (he:Er C.nt own V n c oc cs=some ef):cL C o a w (eJ S o.dst ef):=by
 unfold Er at he
 split at he <;> try (cases he;done)
 rename_i xs ws E2
 obtain ⟨fc,_,r6⟩:=je h hV kO
 generalize rY:args.toList.map a.eval=vs at *
 obtain ⟨R1,g1,f1,hT,q1⟩:=ni h.core hV.q fc E2
 have h':cC C (cJ S ws) a w R1 τ:=h.fz g1 f1
 generalize yI:cJ S ws=S1 at *
 have e0:(⟨vs⟩:Array Value)=args.map a.eval:=by apply Array.ext';simp [←rY]
 have slot:∀{R':Reach} {w':World} {τ':Nat→Value} {b:Nat} {rs:List TV} {eS:List Value},τ' (own 0) = .pointer (some ⟨b,0,none⟩)→dX R' w' rs eS→eS.length+1=n →
   let q:Cell:=cond (Nat.beq n 1) (.pt,.ptr (own 0) 0) (.tu (.pt :: rs),.vc [(0,own 0)])
   cp R' w' τ' q.1 q.2 (if eS.length+1=1 then .pointer (some ⟨b,0,none⟩) else .tuple ⟨.pointer (some ⟨b,0,none⟩) :: eS⟩)∧q.2.slot=true∧q.2.bN=[own 0]:=by
  intro R' w' τ' b rs eS ht hr hl
  cases hb:Nat.beq n 1 with
  | true =>
   have:=aj hb
   rw [aq (by omega)]
   exact ⟨⟨b,ht,rfl⟩,rfl,rfl⟩
  | false =>
   rw [al (by intro e;rw [←hl,e] at hb;simp at hb)]
   exact ⟨⟨_,_,rfl,rfl,.cons (.pt _) hr,fun p hp=>by rw [List.mem_singleton] at hp;subst hp;simp [ht]⟩,rfl,rfl⟩
 have fin:∀outs p,(c xs).holds outs→Cr C.nt own V n oc ws p outs=some ef→cL C o a w (eJ S o.dst ef):=by
  intro outs p hc he
  obtain ⟨wz,gq⟩:=hS _ outs hc
  have gq:=gq w R1 vs h'.core.kj h'.gl hT
  rw [e0] at gq
  unfold Cr at he
  intro K Q hK
  unfold Oper.wp
  rw [np ho hx wz,Oper.upon_enter]
  refine gq.mono ?_
  rintro ex w' ⟨R',eS,b,zs,el,x1,Iy,rfl,iG,uB,pN,DS,fq,B1,hb,hL,AW,Hy⟩
  show K (a.put o.dst _) w'
  have EU:∀g,w.heap.size≤g→C.b9 g:=fun g hg => .inr (Nat.le_trans h'.ext.size hg)
  have u3:∀j g,dq τ S1 j=some g→w'.heap[g]?=w.heap[g]?∧∀o,R' g o→R1 g o:=fun j g hg=>by
   have eL:=h'.core.lt hg
   exact ⟨iG.heap g eL (by simp),fun o hr=>(iG.oQ g o hr).resolve_right (by rintro (h | h);exact absurd eL (by omega);exact h)⟩
  split at he <;> try (cases he;done)
  ·rename outs.take n=_=>e1
   obtain ⟨yB,he⟩:=br.1 he
   cases he
   rw [DS] at e1;cases e1
   simp only [ae] at yB
   obtain ⟨rV,FU,BN⟩:=dR (show Lq V S1 from q1) yB.1
   have kP:=h'.core.tO (k:=own 0) (v := .pointer (some ⟨b,0,none⟩)) (x := .ag x1) (g := .cl []) BN iG.cj (fun j g _ hg=>u3 j g hg) ⟨b,zs,el,_,rfl,hb,rfl,hL,by simp,AW⟩ (.inr rV) (by rw [rV];exact ⟨rfl,rfl⟩) (by simp) (fun _ => .inr rV)
    (fun g _ hg=>by cases hg;exact ⟨EU _ B1,.inl B1⟩) (by simp [Gh.bN]) uB
   obtain ⟨r1,r2,r3⟩:=slot (τ':=ky τ (own 0) (.pointer (some ⟨b,0,none⟩))) (de _ _ _) fq pN
   have nd:cJ S ((own 0,(.ag x1,.cl [])) :: ws)=bL S1 (own 0) (.ag x1,.cl []):=by rw [←yI];rfl
   refine done hd (l:=(own 0,(.ag x1,.cl [])) :: ws) ?_ rfl r1 r2 (fun k hk=>?_) hK
   ·rw [nd]
    exact ⟨h'.size,h'.defers,kP,fun t ht=>by rw [dm _ _ (by omega)];exact h'.tmps t ht,⟨h'.io.1,fun q hq=>by rw [dm _ _ (by omega)];exact h'.io.2 q hq⟩,h'.ext.trans iG (fun _ h=>h.elim),h'.gl.cj iG.cj⟩
   ·simp only [r3,List.mem_singleton] at hk
    subst hk
    exact ⟨BN,by rw [nd,bG];simp⟩
  ·rename outs.take n=_=>e1
   rename outs.drop n=_=>e3
   rename_i k y2 _ _
   obtain ⟨yB,he⟩:=br.1 he
   cases he
   rw [DS] at e1;cases e1
   simp only [ae] at yB
   obtain ⟨rV,FU,BN⟩:=dR (show Lq V S1 from q1) yB.1.1
   obtain ⟨Es,IA,Hf⟩:=dR (show Lq V S1 from q1) yB.1.2
   have Gx:own 0≠own 1:=fun e=>absurd (lY (Nat.le_of_ble_eq_true yB.2) _ _ e) (by simp)
   obtain ⟨y,u,d1,hk,rD,CE⟩:=Hy
   rw [e3] at d1;cases d1
   have nd:cJ S ((own 0,(.ag (x1.set k .pt),.cl [(k,own 1)])) :: (own 1,(y2,.pv)) :: ws)=bL (bL S1 (own 1) (y2,.pv)) (own 0) (.ag (x1.set k .pt),.cl [(k,own 1)]):=by rw [←yI];rfl
   generalize r8:bL (bL S1 (own 1) (y2,.pv)) (own 0) (.ag (x1.set k .pt),.cl [(k,own 1)])=S' at *
   have s1:S' (own 0)=(.ag (x1.set k .pt),.cl [(k,own 1)]):=by rw [←r8,bG]
   have s2:S' (own 1)=(y2,.pv):=by rw [←r8,bO _ _ (Ne.symm Gx),bG]
   have s4:∀q,q≠own 0→q≠own 1→S' q=S1 q:=fun q e1 e2=>by rw [←r8,bO _ _ e1,bO _ _ e2]
   let τ':=ky (ky τ (own 0) (.pointer (some ⟨b,0,none⟩))) (own 1) u
   have t1:τ' (own 0) = .pointer (some ⟨b,0,none⟩):=by show ky _ _ _ _=_;rw [dm _ _ Gx,de]
   have t2:τ' (own 1)=u:=de _ _ _
   have t3:∀q,q≠own 0→q≠own 1→τ' q=τ q:=fun q e1 e2=>by show ky _ _ _ _=_;rw [dm _ _ e2,dm _ _ e1]
   have kP:Core C.nt R' w' C.b9 τ' S':=by
    refine h'.core.step (fun q=>q=own 0∨q=own 1) iG.cj (fun q hq=>⟨s4 q (fun e=>hq (.inl e)) (fun e=>hq (.inr e)),t3 q (fun e=>hq (.inl e)) (fun e=>hq (.inr e))⟩) (fun q g _ hb=>u3 q g hb) ?_ ?_ ?_ ?_ ?_ ?_ (fun _=>id) ?_ uB ?_
    ·rintro q (rfl | rfl)
     ·rw [s1,t1]
      exact ⟨b,zs,el,_,rfl,hb,rfl,hL.set fun _ _ => .pt _,fun t ht=>by rw [List.mem_singleton] at ht;subst ht;rw [t2];exact hk,AW⟩
     ·rw [s2,t2];exact rD
    ·rintro q (rfl | rfl)
     ·exact .inr (.inr rV)
     ·exact .inr (.inr Es)
    ·rintro q (rfl | rfl) <;> right
     ·rw [s1];simp
     ·rw [s2];simp
    ·rintro q (rfl | rfl) <;> left
     ·rw [s1,rV];exact ⟨rfl,rfl⟩
     ·rw [s2,Es];exact ⟨rfl,rfl⟩
    ·rintro q (rfl | rfl) _
     ·exact .inr rV
     ·exact .inr Es
    ·have b1:∀g,dq τ' S' (own 0)=some g→g=b:=fun g hg=>by
      have:=(cW hg).2
      rw [t1] at this;cases this;rfl
     have b2:∀g,dq τ' S' (own 1)=some g→Value.dq u=some g:=fun g hg=>by
      have:=(cW hg).2
      rwa [t2] at this
     rintro q g (rfl | rfl) hg
     ·have:=b1 g hg
      subst this
      refine ⟨EU _ B1,?_,.inl B1⟩
      rintro q' (rfl | rfl) gf yF
      ·exact gf rfl
      ·exact (CE _ (b2 _ yF)).1 rfl
     ·obtain ⟨v1,v2⟩:=CE g (b2 g hg)
      refine ⟨EU _ v2,?_,.inl v2⟩
      rintro q' (rfl | rfl) gf yF
      ·exact v1 (b1 _ yF)
      ·exact gf rfl
    ·rintro q (rfl | rfl) j hj
     ·rw [s1] at hj
      simp only [Gh.bN,aP,bo,List.mem_singleton] at hj
      subst hj
      exact ⟨Hf,by rw [s2];simp⟩
     ·rw [s2] at hj;cases hj
    ·rintro q (rfl | rfl) hq <;> omega
   obtain ⟨r1,r2,r3⟩:=slot (τ':=τ') t1 fq pN
   refine done hd (l:=(own 0,(.ag (x1.set k .pt),.cl [(k,own 1)])) :: (own 1,(y2,.pv)) :: ws) ?_ rfl r1 r2 (fun q hq=>?_) hK
   ·rw [nd]
    exact ⟨h'.size,h'.defers,kP,fun t ht=>by rw [t3 t (by omega) (by omega)];exact h'.tmps t ht,⟨h'.io.1,fun q hq=>by rw [t3 q (by omega) (by omega)];exact h'.io.2 q hq⟩,h'.ext.trans iG (fun _ h=>h.elim),h'.gl.cj iG.cj⟩
   ·simp only [r3,List.mem_singleton] at hq
    subst hq
    exact ⟨BN,by rw [nd,s1];simp⟩
 split at he
 ·rename_i outs hc
  exact fin outs none (by rw [hc];rfl) he
 ·rename_i p outs hc
  have oj:p=true:=by
   have kN:=he
   unfold Cr at kN
   split at kN <;> try (cases kN;done)
   all_goals
    obtain ⟨_,kN⟩:=br.1 kN
    cases kN
    exact hp _ rfl
  exact fin outs (some p) (by rw [hc];exact ⟨oj,rfl⟩) he
 ·cases he
end
end Go.Eng
namespace Go.Eng
open Go.RowKit
theorem uV {e:dP} {st:ez} {l:List st.El} {lo hi:Option Int} (he:Bj st l lo hi=some e) (hp:∀p,e.p=some p→p=true):dV (lo.getD 0) (hi.getD l.length) l.length=true∧e.x=(.sl st ((l.take (hi.getD l.length).toNat).drop (lo.getD 0).toNat),.no)∧e.ws=[]:=by
 unfold Bj at he
 split at he <;> cases he
 ·exact ⟨hp _ rfl,rfl,rfl⟩
 ·exact ⟨hp _ rfl,by simp,rfl⟩
 ·exact ⟨hp _ rfl,by simp,rfl⟩
 ·exact ⟨by simp [dV],by simp,rfl⟩
theorem uT {e:dP} {l:IY} {lo hi:Option Int} (he:Bi l lo hi=some e) (hp:∀p,e.p=some p→p=true):dV (lo.getD 0) (hi.getD l.length) l.length=true∧e.x=(.s ((l.take (hi.getD l.length).toNat).drop (lo.getD 0).toNat),.no)∧e.ws=[]:=by
 unfold Bi at he
 split at he <;> cases he
 ·exact ⟨hp _ rfl,rfl,rfl⟩
 ·exact ⟨hp _ rfl,by simp,rfl⟩
 ·exact ⟨hp _ rfl,by simp,rfl⟩
 ·exact ⟨by simp [dV],by simp,rfl⟩
theorem sC {l:List (Nat × Nat)} {m:Nat} (h:(l.all fun t=>!Nat.beq t.2 m)=true) (t:Nat × Nat) (ht:t∈l):t.2≠m:=fun e=>by
 have:=aw.1 h t ht
 rw [e] at this;simp at this
theorem pI {l:List (Nat × Cell)} {m:Nat} (h:(l.all fun t=>!Nat.beq t.1 m)=true) (t:Nat × Cell) (ht:t∈l):t.1≠m:=fun e=>by
 have:=aw.1 h t ht
 rw [e] at this;simp at this
theorem qM {V:St} {c:Cell} {x:TV} {ws:List (Nat × Cell)} (h:tq V c=some (x,ws)) (p:Nat × Cell) (hp:p∈ws):p.1∈c.2.bN:=by
 unfold tq at h
 split at h
 ·split at h
  ·cases h;simp only [List.mem_singleton] at hp;subst hp;simp [Gh.bN]
  ·cases h;cases hp
  ·obtain ⟨_,h⟩:=br.1 h;cases h;cases hp
  ·cases h
 ·cases h;cases hp
 ·cases h
theorem kt {V:St} {o n:Nat}:∀{ts:List (Nat × Nat)} {cs ds:List TV} {ws:List (Nat × Cell)},iC V o n ts cs=some (ds,ws)→∀p∈ws,p.1∈ts.map (·.2)
 | [],_,_,_,h,p,hp=>by cases h;cases hp
 | (c,k) :: ts,cs,ds,ws,h,p,hp=>by
  simp only [iC] at h
  split at h
  ·rename_i pC rz h1
   cases hb:(Nat.ble o c&&Nat.blt c (o+n)) with
   | true =>
    rw [hb,ao] at h
    split at h
    ·rename_i h2
     cases h
     rcases List.mem_append.1 hp with hp | hp
     ·have:=qM h2 p hp
      simp [Gh.bN] at this
      exact this ▸ List.mem_cons_self ..
     ·exact List.mem_cons_of_mem _ (kt h1 p hp)
    ·cases h
   | false=>rw [hb,af] at h;cases h;exact List.mem_cons_of_mem _ (kt h1 p hp)
  ·cases h
theorem wG {V:St} {c:Cell} {x:TV} {ws:List (Nat × Cell)} (h:pr V c=some (x,ws)) (p:Nat × Cell) (hp:p∈ws):p.1∈c.2.bN:=by
 unfold pr at h
 split at h
 ·split at h
  ·rename_i hf;cases h;exact kt hf p hp
  ·cases h
 ·exact qM h p hp
theorem uh {E:cz} {nt:Nat} {V V':St} {t:TypeId} {x:Operand} (h:∀i,i<nt→V' i=V i):dQ E nt V' t x=dQ E nt V t x:=by
 cases x <;> try rfl
 rename_i i
 unfold dQ
 by_cases hi:i<nt
 ·simp only [h i hi]
 ·have:Nat.blt i nt=false:=by
   cases hb:Nat.blt i nt with
   | false=>rfl
   | true=>exact absurd (Nat.le_of_ble_eq_true hb) hi
  simp only [this,cX,af]
theorem Lt.cJ {V S:St} (h:Lt V S):∀ws:List (Nat × Cell),Lt (cJ V ws) (cJ S ws)
 | []=>h
 | (k,x) :: ws=>fun j=>by
  by_cases e:j=k
  ·subst e;simp only [Go.Eng.cJ,bG];exact .inl trivial
  ·simp only [Go.Eng.cJ,bO _ _ e];exact h.cJ ws j
section
variable {C:Ctx} {S V:St} {a:Act} {w:World} {R:Reach} {τ:Nat→Value} {o:Oper} {d:Nat} {own:Nat→Nat} {e:dP} (h:cC C S a w R τ) (hV:Lt V S) (hE:fj C.P C.E) (hp:∀p,e.p=some p→p=true)
include h hV hE hp
section
variable (hd:o.dst=some d) (hl:d<C.nt)
include hd hl
omit hE in
theorem wX {s t:TypeId} {x:Operand} {c:Cell} {y:TV} (ho:o.op = .convert s t x) (hx:dQ C.E C.nt V s x=some c) (hy:nC V c=some y) (he:wY C.P C.nt own V s t y=some e):cL C o a w (eJ S (some d) e):=by
 unfold wY at he
 split at he
 ·rename_i hs ht
  split at he <;> cases he
  exact go_ci h hV hd hl ho hx hy (by assumption) hs ht
 ·rename_i hs ht
  split at he <;> cases he
  exact go_cf h hV hd hl ho hx hy (by rw [hs];rfl) ht
 ·rename_i hs ht
  split at he <;> cases he
  exact go_fc h hV hd hl ho hx hy (hp _ rfl) (by rw [hs];rfl) ht
 ·rename_i hs ht
  split at he <;> cases he
  exact go_cs h hV hd hl ho hx hy hs ht
 ·rename_i hs ht
  split at he
  ·rename_i hu
   obtain ⟨h1,h2⟩:=br.1 he
   cases h2
   exact go_sb h hd hl hV ho hx hy hs ht hu (hp _ rfl) (dR hV.q h1)
  ·cases he
 ·rename_i hs ht
  split at he <;> cases he
  exact go_bs h hV hd hl ho hx hy hs (by assumption) ht
 ·cases he
theorem tI {t u:TypeId} {x y:Operand} {st st':ez} {jU:Nat} {c:Cell} {m:List st'.El} {du:TypeDesc} {news:List Value} (ho:o.op = .call { callee := .builtin .append,args:=#[x,y],argTypes:=#[t,u] }) (ht:C.E.ty t=some (st,jU)) (hx:dQ C.E C.nt V t x=some c) (hu:C.P.underlying u=some du) (pg:∀k,du ≠ .int k)
  (nc:Source C.P w st'.size (a.eval y) m.length news) (hL:bV R w ((m.map st'.tv).flatMap TV.cells) news) (he:zb C.E C.nt own V st jU c st' m=some e):cL C o a w (eJ S (some d) e):=by
 unfold zb at he
 split at he
 ·rename_i k
  obtain ⟨q1,_,q3⟩:=dO h hV hx
  have hv:a.eval x=τ k:=q1.1
  have AO:C.nt≤k:=(q3 k (by simp [Gh.bN])).1
  split at he
  ·rename_i t' l hk
   split at he
   ·obtain ⟨h0,hq⟩:=br.1 he
    clear he
    obtain rfl:=au h0
    unfold sZ at hq
    split at hq
    ·rename_i n hn
     obtain ⟨h1,h2⟩:=br.1 hq
     cases h2
     obtain ⟨e1,rfl⟩:=ez.pH hn
     subst e1
     exact go_lend h hV hd hl hE ho ht hv AO (hV.of hk) hu pg nc hL (hp _ rfl) (dR hV.q h1)
    ·cases hq
   split at he
   ·rename_i n hn
    obtain ⟨h1,h2⟩:=br.1 he
    cases h2
    simp only [ae,aF] at h1
    obtain ⟨rfl,h1⟩:=h1
    obtain ⟨e1,rfl⟩:=ez.pH hn
    subst e1
    exact go_app h hV hd hl hE ho ht hx (hV.of hk) hu pg nc hL (hp _ rfl) (dR hV.q h1) (.inl ⟨rfl,rfl,rfl⟩)
   ·cases he
  ·rename_i t' l d0 hk
   obtain ⟨h0,hq⟩:=br.1 he
   clear he
   obtain rfl:=au h0
   unfold sZ at hq
   split at hq
   ·rename_i n hn
    obtain ⟨h1,h2⟩:=br.1 hq
    cases h2
    obtain ⟨e1,rfl⟩:=ez.pH hn
    subst e1
    have hk:=hV.of hk
    obtain ⟨p1,_⟩:=h.core.par k d0 (by rw [hk])
    obtain ⟨n1,n2,n3⟩:=dR hV.q h1
    have c1:own 0≠k:=by intro e;rw [e,hk] at n1;cases n1
    have c2:own 0≠d0:=by intro e;rw [e,p1] at n1;cases n1
    have c3:k≠d0:=by rintro rfl;rw [hk] at p1;cases p1
    have hr:=h.recover hk
    have:=go_lend hr (Lt.refl _) hd hl hE ho ht hv AO (by rw [bO _ _ c3,bG]) hu pg nc hL (hp _ rfl) (k2:=own 0) ⟨by rw [bO _ _ c2,bO _ _ c1];exact n1,n2,n3⟩
    have e2:bL (bL (bL (bL S k (.sl st' l,.pv)) d0 (.dead,.zz)) k (.sl st' l,.pw (own 0))) (own 0) (.sl st' (l++m),.pc k)=bL (bL (bL S d0 (.dead,.zz)) k (.sl st' l,.pw (own 0))) (own 0) (.sl st' (l++m),.pc k):=by
     funext j
     by_cases j1:j=own 0
     ·rw [j1,bG,bG]
     ·rw [bO _ _ j1,bO _ _ j1]
      by_cases j2:j=k
      ·rw [j2,bG,bG]
      ·rw [bO _ _ j2,bO _ _ j2]
       by_cases j3:j=d0
       ·rw [j3,bG,bG]
       ·rw [bO _ _ j3,bO _ _ j3,bO _ _ j2]
    rw [e2] at this
    exact this
   ·cases hq
  ·rename_i t' l hk
   split at he
   ·rename_i n hn
    obtain ⟨h1,h2⟩:=br.1 he
    cases h2
    simp only [ae,aF] at h1
    obtain ⟨rfl,h1⟩:=h1
    obtain ⟨e1,rfl⟩:=ez.pH hn
    subst e1
    exact go_app h hV hd hl hE ho ht hx (hV.of hk) hu pg nc hL (hp _ rfl) (dR hV.q h1) (.inr ⟨rfl,rfl,rfl⟩)
   ·cases he
  ·cases he
 ·rename_i t'
  obtain ⟨h1,h2⟩:=br.1 he
  simp only [ae,aF] at h1
  obtain ⟨rfl,rfl⟩:=h1
  obtain ⟨h1,h2⟩:=br.1 h2
  cases h2
  exact go_apn h hV hd hl hE ho ht hx hu pg nc hL (hp _ rfl) (dR hV.q h1)
 ·cases he
theorem rj {b:Builtin} {ts:Array TypeId} {args:Array Operand} (ho:o.op = .call { callee := .builtin b,args:=args,argTypes:=ts }) (he:nu C.P C.E C.nt own V b ts.toList args.toList=some e):cL C o a w (eJ S (some d) e):=by
 obtain ⟨ts⟩:=ts
 obtain ⟨args⟩:=args
 simp only at he
 unfold nu at he
 split at he
 ·split at he <;> cases he
  ·exact go_len h hV hd hl ho (by assumption) (by assumption)
  ·exact go_lens h hV hd hl ho (by assumption) (by assumption)
 ·split at he
  ·rename_i hm
   obtain ⟨news,h1,h2⟩:=Source.of (P:=C.P) (mK h hV hm)
   exact tI h hV hE hp hd hl ho (by assumption) (by assumption) (by assumption) (by simp) h1 h2 he
  ·rename_i hm
   obtain ⟨h1,h2⟩:=Source.Ap (P:=C.P) (w:=w) (R:=R) _
   have e1:=vN h hV hm
   rw [←e1] at h1
   exact tI h hV hE hp hd hl (st' := .bs) ho (by assumption) (by assumption) (by assumption) (by simp) h1 h2 he
  ·cases he
 ·split at he
  ·obtain ⟨h1,h2⟩:=br.1 he
   cases h2
   have h1:=au h1
   subst h1
   exact go_minmax h hV hd hl (mx:=false) ho (by assumption) (by assumption)
  ·cases he
 ·split at he
  ·obtain ⟨h1,h2⟩:=br.1 he
   cases h2
   have h1:=au h1
   subst h1
   exact go_minmax h hV hd hl (mx:=true) ho (by assumption) (by assumption)
  ·cases he
 ·split at he <;> cases he
  exact go_real h hV hd hl (im:=false) ho (by assumption)
 ·split at he <;> cases he
  exact go_real h hV hd hl (im:=true) ho (by assumption)
 ·split at he <;> cases he
  exact go_cx h hV hd hl ho (by assumption) (by assumption)
 ·cases he
theorem Ay {t:TypeId} {x i:Operand} {c:Cell} {n:Int} (ho:o.op = .indexAddr t x i) (hx:dQ C.E C.nt V t x=some c) (hi:kp C.E C.nt V i=some n) (he:Ew C.P C.E V t c n=some e):cL C o a w (eJ S (some d) e):=by
 have cM:∀{k:Nat},c=(.pt,.cM k)→a.eval x=τ k:=by rintro k rfl;exact (dO h hV hx).1.1
 unfold Ew at he
 split at he
 ·rename_i k _
  split at he
  ·rename_i hk
   obtain ⟨h1,h2⟩:=br.1 he
   cases h2
   exact go_pix h hV hd hl hE ho h1 hx (hV.of hk) hi (hp _ rfl)
  ·rename_i hk
   obtain ⟨h1,h2⟩:=br.1 he
   cases h2
   have hK:=h.core.key k
   rw [hV.of hk] at hK
   exact go_ix h hV hd hl hE ho h1 (by rw [cM rfl];exact (cP.rep hK).1) hi (hp _ rfl)
  ·rename_i hk
   obtain ⟨h1,h2⟩:=br.1 he
   cases h2
   have hK:=h.core.key k
   rw [hV.of hk] at hK
   exact go_ix h hV hd hl hE ho h1 (by rw [cM rfl];exact hK) hi (hp _ rfl)
  ·cases he
 ·obtain ⟨h1,h2⟩:=br.1 he
  cases h2
  exact go_ix h hV hd hl hE ho h1 (cN h hV hx) hi (hp _ rfl)
 ·split at he
  ·rename_i hk
   rw [aE] at he
   obtain ⟨inf,h1,h2⟩:=he
   cases h2
   exact go_la h hV hd hl ho (by assumption) h1 hx (hV.of hk) hi (hp _ rfl)
  ·cases he
 ·cases he
theorem yP {t:TypeId} {x:Operand} {lo hi:Option Operand} {p q:Option Int} {c:Cell} (ho:o.op = .slice t x lo hi none) (hx:dQ C.E C.nt V t x=some c) (h1:iB C.E C.nt V lo=some p) (h2:iB C.E C.nt V hi=some q) (he:wW C.E V t c p q=some e):cL C o a w (eJ S (some d) e):=by
 unfold wW at he
 split at he
 ·rename_i hf
  obtain ⟨k1,k2⟩:=br.1 he
  rw [aG] at k2
  obtain ⟨e',k2,rfl⟩:=k2
  obtain ⟨c1,c2,c3⟩:=uV (e:=e') k2 hp
  unfold eJ
  simp only [c2]
  exact go_sc h hV hd hl hE ho k1 hx hf h1 h2 c1
 ·cases he
omit hE in
theorem wb {t:TypeId} {x:Operand} {c:Cell} (ho:o.op = .load t x) (hx:dQ C.E C.nt V 0 x=some c) (he:wc C.P C.E own V t c=some e):cL C o a w (eJ S (some d) e):=by
 unfold wc at he
 split at he
 ·rename_i n agg hs
  obtain ⟨h1,kN⟩:=br.1 he
  clear he
  have he:=kN
  clear kN
  have h1:agg=true∨n=1:=by
   rcases Bool.or_eq_true _ _ ▸ h1 with h | h
   ·exact .inl h
   ·exact .inr (aj h)
  split at he
  ·split at he
   ·rename_i hm
    split at he
    ·rename_i hf
     cases he
     have:n=1:=by simpa using h1
     subst this
     exact go_ldt h hV hd hl ho hs hx (hV.of hm) (by assumption)
    ·split at he
     ·obtain ⟨k1,k2⟩:=br.1 he
      cases k2
      simp only [ae] at k1
      obtain ⟨⟨rfl,k1⟩,k2⟩:=k1
      have k1:=aj k1
      have k2:=aj k2
      subst k1 k2
      exact go_ldo h hV hd hl ho hs hx (hV.of hm)
     ·split at he
      ·split at he <;> cases he
       exact go_ld h hV hd hl ho hs h1 hx (hV.of hm) (by assumption) (by assumption)
      ·cases he
   ·cases he
  ·rename_i k
   split at he
   ·rename_i st l g hk
    split at he
    ·rename_i Hs
     obtain ⟨k1,k2⟩:=br.1 he
     cases k2
     simp only [ae,Bool.or_eq_true,aF] at k1
     obtain ⟨k1,k2⟩:=k1
     have eL:=au (hp _ rfl)
     have hK:=h.core.key k
     rw [hV.of hk (by rcases k1 with rfl | rfl <;> simp)] at hK
     obtain ⟨p,hK⟩:∃p,cP R w p (τ k) (.sl st l):=by rcases k1 with rfl | rfl <;> exact ⟨_,hK⟩
     exact go_pld h hV hd hl ho hs h1 hx hK (aj k2) eL Hs
    ·cases he
   ·rename_i cs hk
    split at he
    ·obtain ⟨k1,k2⟩:=br.1 he
     cases k2
     simp only [ae,Bool.not_eq_true'] at k1
     obtain ⟨⟨⟨k1,k2⟩,k3⟩,rfl⟩:=k1
     have k1:=aj k1
     have k2:=aj k2
     have k3:=aj k3
     subst k1 k2 k3
     exact go_pla h hV hd hl ho hs hx (hV.of hk) (au (hp _ rfl)) (by assumption)
    ·cases he
   ·cases he
  ·obtain ⟨k1,k2⟩:=br.1 he
   cases k2
   simp only [ae,beq_iff_eq] at k1
   exact go_lr h hV hd hl ho hs h1 hx k1.1.2 (aj k1.2)
  ·cases he
 ·cases he
end
omit hE in
theorem tR (hd:o.dst=none) {t:TypeId} {x y:Operand} {c v:Cell} (ho:o.op = .store t x y) (hx:dQ C.E C.nt V 0 x=some c) (hy:dQ C.E C.nt V t y=some v) (he:rJ C.P V t c v=some e):cL C o a w (eJ S none e):=by
 unfold rJ at he
 split at he
 ·rename_i n agg hs
  obtain ⟨inf,hi,rfl,_⟩:=dU hs
  split at he
  ·split at he
   ·rename_i cs ts hm
    split at he
    ·rename_i k
     obtain ⟨k1,k2⟩:=br.1 he
     cases k2
     simp only [ae,Bool.not_eq_true'] at k1
     have hn:=aj k1.1.1
     have yE:=hV.of hm
     rw [hn]
     exact go_stt h hV hd ho hi hn hx yE hy (Nat.le_of_ble_eq_true k1.1.2) (Nat.ne_of_beq_eq_false k1.2.1) (sC k1.2.2)
    ·obtain ⟨k1,k2⟩:=br.1 he
     cases k2
     simp only [ae] at k1
     obtain ⟨⟨⟨k1,k2⟩,k3⟩,k4⟩:=k1
     have k1:=aj k1
     subst k1
     exact go_sto h hV hd ho hi hx (hV.of hm) hy (aj k2) (aj k3) (sC k4)
    ·obtain ⟨k1,k2⟩:=br.1 he
     cases k2
     simp only [ae] at k1
     have yE:=hV.of hm
     have hr:=cN h hV hy
     have hn:=aj k1.1.1.2
     refine go_st' h hV hd ho hi hx yE (gR hr k1.1.1.1) hn (Nat.le_of_ble_eq_true k1.1.2) fun u hu=>?_
     obtain ⟨h1,h2⟩:=n4 hu
     exact ⟨sC k1.2 u h1,.inl ⟨h1,h2⟩⟩
    ·cases he
   ·cases he
  ·rename_i i s q k
   split at he
   ·rename_i y' ws hf
    obtain ⟨R',h',e1,_⟩:=h.fr hV hy hf
    have BU:∀p∈ws,C.nt≤p.1:=fun p hp=>((dO h hV hy).2.2 _ (wG hf p hp)).1
    have DZ:Lt (cJ V ws) (cJ S ws):=hV.cJ ws
    have pd:dQ C.E C.nt (cJ V ws) 0 x=some (.el i s q,.pe k):=by
     rw [←hx];exact uh fun i hi=>dW fun p hp e=>by have:=BU p hp;omega
    split at he
    ·rename_i st l hk
     split at he
     ·split at he
      ·obtain ⟨k1,k2⟩:=br.1 he
       cases k2
       simp only [ae] at k1
       exact go_pst h' DZ hd ho hi pd (by rw [dW (pI k1.2)];exact hV.of hk) e1 k1.1.1.1 (aj k1.1.2) (aj k1.1.1.2) (au (hp _ rfl)) (by assumption) (by assumption)
      ·cases he
     ·cases he
    ·rename_i cs hk
     split at he
     ·obtain ⟨k1,k2⟩:=br.1 he
      cases k2
      simp only [ae] at k1
      have k2:=aj k1.1.1.1
      have k3:=aj k1.1.1.2
      subst k2 k3
      exact go_ls h' DZ hd ho hi (aj k1.1.2) pd (by rw [dW (pI k1.2)];exact hV.of hk) (au (hp _ rfl)) e1 (by assumption)
     ·cases he
    ·cases he
   ·cases he
  ·cases he
 ·cases he
theorem pY (hF:∀f,bE C.P C.gl f (C.E.fs f)) (lY:0<C.nt→∀j j',own j=own j'→j=j') (fP:lT C.nt o=true) (he:pZ C.P C.E C.nt own V o.type o.op=some e):cL C o a w (eJ S o.dst e):=by
 have iS:(∀t x y,o.op ≠ .store t x y)→(∀x args ts,o.op ≠ .call { callee := .value x,args:=args,argTypes:=ts })→∃d,o.dst=some d∧d<C.nt:=fun h1 h2=>by
  unfold lT at fP
  split at fP
  ·exact (h1 _ _ _ (by assumption)).elim
  ·cases fP
  ·exact (h2 _ _ _ (by assumption)).elim
  ·exact ⟨_,by assumption,Nat.le_of_ble_eq_true fP⟩
  ·cases fP
 have wR:∀{x:Operand} {args:Array Operand} {ts:Array TypeId},o.op = .call { callee := .value x,args:=args,argTypes:=ts }→o.dst=none∨∃d,o.dst=some d∧d<C.nt:=fun {x args ts} h1=>by
  cases hd:o.dst with
  | none=>exact .inl rfl
  | some d =>
   right
   unfold lT at fP
   rw [h1,hd] at fP
   exact ⟨d,rfl,Nat.le_of_ble_eq_true fP⟩
 have call:∀{f:Nat} {x:Operand} {args:Array Operand} {ts:Array TypeId},o.op = .call { callee := .value x,args:=args,argTypes:=ts }→a.eval x = .func (.func f) #[] #[]→tD C.E C.nt own V f ts.toList args.toList=some e→cL C o a w (eJ S o.dst e):=fun {f x args ts} ho hx he=>by
  unfold tD at he
  have hS:=hF f
  unfold bE at hS
  split at he
  ·rename_i cs kO
   split at he
   ·rename_i hk
    rw [hk] at hS
    split at he
    ·rename_i xs ws zA
     split at he
     ·rename_i outs hc
      exact go_call h hV (wR ho) (c:=(C.E.fs f).1) (sg:=(C.E.fs f).2) hS ho hx kO zA (by rw [hc];rfl) lY he
     ·rename_i p outs hc
      have oj:p=true:=by
       have kN:=he
       unfold qZ at kN
       obtain ⟨_,kN⟩:=br.1 kN
       split at kN
       ·obtain ⟨_,kN⟩:=br.1 kN
        cases kN
        exact hp _ rfl
       ·cases kN
      exact go_call h hV (wR ho) (c:=(C.E.fs f).1) (sg:=(C.E.fs f).2) hS ho hx kO zA (by rw [hc];exact ⟨oj,rfl⟩) lY he
     ·cases he
    ·cases he
   ·rename_i hk
    rw [hk] at hS
    exact go_wr h hV (wR ho) hS ho hx kO hp he
   ·rename_i hk
    rw [hk] at hS
    exact go_nw h hV (wR ho) hS ho hx lY kO hp he
  ·cases he
 generalize eX:o.op=op at he
 unfold pZ at he
 split at he
 ·obtain ⟨d,hd,hl⟩:=iS (by simp [eX]) (by simp [eX])
  rw [aG] at he
  obtain ⟨c,h1,rfl⟩:=he
  rw [hd]
  exact go_move h hV hd hl (.inl eX) h1
 ·obtain ⟨d,hd,hl⟩:=iS (by simp [eX]) (by simp [eX])
  rw [aG] at he
  obtain ⟨c,h1,rfl⟩:=he
  rw [hd]
  exact go_move h hV hd hl (.inr eX) h1
 ·obtain ⟨d,hd,hl⟩:=iS (by simp [eX]) (by simp [eX])
  split at he
  ·obtain ⟨z,h1,h2,h3⟩:=iV.sk he hp
   rw [kS hd h2 h3]
   exact go_pick h hV hd hl eX (by assumption) (by assumption) (by assumption) h1
  ·cases he
 ·obtain ⟨d,hd,hl⟩:=iS (by simp [eX]) (by simp [eX])
  split at he
  ·split at he
   ·split at he
    ·cases he
     rw [hd]
     exact go_nl h hV hd hl eX (by assumption) (by assumption) (by assumption) (by assumption)
    ·cases he
   ·split at he <;> cases he <;> rw [hd]
    ·exact go_be h hV hd hl (neg:=false) eX rfl (by assumption) (by assumption) (by assumption)
    ·exact go_be h hV hd hl (neg:=true) eX rfl (by assumption) (by assumption) (by assumption)
   ·split at he
    ·obtain ⟨r,hr,he⟩:=aE.1 he
     cases he;rw [hd]
     exact go_es h hV hd hl false eX rfl (by assumption) (by assumption) (by assumption) hr
    ·obtain ⟨r,hr,he⟩:=aE.1 he
     cases he;rw [hd]
     exact go_es h hV hd hl true eX rfl (by assumption) (by assumption) (by assumption) hr
    ·cases he
   ·split at he <;> cases he <;> rw [hd]
    ·exact go_pn h hV hd hl (neg:=false) eX rfl (by assumption) (by assumption) (by assumption)
    ·exact go_pn h hV hd hl (neg:=true) eX rfl (by assumption) (by assumption) (by assumption)
   ·split at he
    ·obtain ⟨z,h1,h2,h3⟩:=iV.sk he hp
     rw [kS hd h2 h3]
     exact go_bin h hV hd hl eX (by assumption) (by assumption) h1
    ·cases he
  ·cases he
 ·obtain ⟨d,hd,hl⟩:=iS (by simp [eX]) (by simp [eX])
  split at he
  ·obtain ⟨z,h1,h2,h3⟩:=iV.sk he hp
   rw [kS hd h2 h3]
   exact go_un h hV hd hl eX (by assumption) h1
  ·cases he
 ·obtain ⟨d,hd,hl⟩:=iS (by simp [eX]) (by simp [eX])
  split at he
  ·split at he
   ·rw [hd];exact wX h hV hp hd hl eX (by assumption) (by assumption) he
   ·cases he
  ·cases he
 ·obtain ⟨d,hd,hl⟩:=iS (by simp [eX]) (by simp [eX])
  rw [hd];exact rj h hV hE hp hd hl eX he
 ·rename_i f _ _
  cases hb:th C.P f with
  | true=>rw [hb] at he;exact call eX rfl he
  | false=>rw [hb] at he;exact go_xtn h hV (wR eX) hp eX he
 ·split at he
  ·rename_i hx
   exact call eX ((cN h hV hx).dx rfl) he
  ·cases he
 ·obtain ⟨d,hd,hl⟩:=iS (by simp [eX]) (by simp [eX])
  split at he
  ·rw [hd];exact Ay h hV hE hp hd hl eX (by assumption) (by assumption) he
  ·cases he
 ·obtain ⟨d,hd,hl⟩:=iS (by simp [eX]) (by simp [eX])
  split at he
  ·split at he
   ·cases he;rw [hd];exact go_si h hV hd hl eX (by assumption) (by assumption) (hp _ rfl) (by assumption)
   ·cases he
  ·rename_i hi
   split at he
   ·split at he
    ·rename_i hs
     split at he
     ·rename_i hx
      obtain ⟨k1,k2⟩:=br.1 he
      cases k2
      rw [hd]
      have hn:=hp _ rfl
      have qG:=hn
      simp only [dj,ae,aF] at qG
      have hm:=aj k1
      exact go_ai h hV hd hl eX (by assumption) hi (by assumption) hs (.inr rfl) hn (by
       rw [Nat.mul_one];exact pG hx (by omega))
     ·cases he
    ·rename_i hs
     split at he
     ·rename_i hx
      obtain ⟨k1,k2⟩:=br.1 he
      cases k2
      rw [hd]
      have hn:=hp _ rfl
      have qG:=hn
      simp only [dj,ae,aF] at qG
      have hm:=aj k1
      refine go_ai h hV hd hl eX (by assumption) hi (by assumption) hs (.inl rfl) hn ?_
      have hx:=qV hm (by omega) _ (Nat.le_refl _) hx
      rw [Nat.sub_self,Nat.add_zero] at hx
      have hb:∀{x y:Nat},x≤y→Nat.ble x y=true:=Nat.ble_eq_true_of_le
      simp only [iy]
      rw [hb (by rw [←hm,←Nat.succ_mul];exact aR _ (by omega)),ao,hx]
     ·cases he
    ·cases he
   ·cases he
  ·cases he
 ·obtain ⟨d,hd,hl⟩:=iS (by simp [eX]) (by simp [eX])
  split at he
  ·split at he
   ·rename_i agg hs
    split at he
    ·obtain ⟨k1,k2⟩:=br.1 he
     cases k2
     rw [hd]
     refine go_fe h hV hd hl eX (by assumption) (by assumption) hs (by assumption) ?_
     rcases Bool.or_eq_true _ _ ▸ k1 with h | h
     ·exact .inl h
     ·exact .inr (aj h)
    ·cases he
   ·cases he
  ·cases he
 ·obtain ⟨d,hd,hl⟩:=iS (by simp [eX]) (by simp [eX])
  split at he
  ·split at he
   ·rename_i hs
    obtain ⟨k1,k2⟩:=br.1 he
    clear he
    have k1:=Nat.le_of_ble_eq_true k1
    rw [hd]
    split at k2
    ·cases k2;exact go_fa h hV hd hl eX (by assumption) hs k1 (by assumption)
    ·cases k2;exact go_pfa h hV hd hl eX (by assumption) hs k1 (by assumption)
    ·split at k2 <;> cases k2
     exact go_fr h hV hd hl eX (by assumption) hs k1 (by assumption) (by assumption)
    ·cases k2
   ·cases he
  ·cases he
 ·obtain ⟨d,hd,hl⟩:=iS (by simp [eX]) (by simp [eX])
  split at he <;> cases he <;> rw [hd]
  ·exact go_nc h hV hd hl eX (by assumption)
  ·exact go_ncr h hV hd hl eX (by assumption)
 ·obtain ⟨d,hd,hl⟩:=iS (by simp [eX]) (by simp [eX])
  split at he
  ·rw [aE] at he
   obtain ⟨y,h1,h2⟩:=he
   cases h2
   rw [hd]
   exact go_ex h hV hd hl (l:=[]) eX (.inl (by assumption)) h1
  ·split at he
   ·rename_i k _
    split at he
    ·rename_i hk
     cases he
     rw [hd]
     have hK:=h.core.key k
     rw [hV.of hk] at hK
     exact go_ext h hV hd hl eX (by assumption) (by assumption) (cP.one hK)
    ·cases he
     rw [hd]
     exact go_exv h hV hd hl eX (by assumption) (by assumption) (by assumption)
    ·cases he
   ·rw [aE] at he
    obtain ⟨y,h1,h2⟩:=he
    cases h2
    rw [hd]
    exact go_ex h hV hd hl eX (.inr (by assumption)) h1
  ·cases he
 ·obtain ⟨d,hd,hl⟩:=iS (by simp [eX]) (by simp [eX])
  split at he
  ·rw [hd];exact wb h hV hp hd hl eX (by assumption) he
  ·cases he
 ·have hd:o.dst=none:=by
   unfold lT at fP
   rw [eX] at fP
   cases hd:o.dst with
   | none=>rfl
   | some d=>rw [hd] at fP;cases fP
  split at he
  ·rw [hd];exact tR h hV hp hd eX (by assumption) (by assumption) he
  ·cases he
 ·obtain ⟨d,hd,hl⟩:=iS (by simp [eX]) (by simp [eX])
  split at he
  ·obtain ⟨c1,c2,c3⟩:=uT he hp
   rw [kS hd c2 c3]
   exact go_ss h hV hd hl eX (by assumption) (by assumption) (by assumption) (by assumption) c1
  ·rename_i c lo hi ht hx h1 h2
   have cx:wW C.E V _ c lo hi=some e→cL C o a w (eJ S o.dst e):=fun he=>by
    rw [hd];exact yP h hV hE hp hd hl eX hx h1 h2 he
   split at he
   ·rename_i k n
    split at he
    ·rename_i hk
     obtain ⟨k1,k2⟩:=br.1 he
     cases k2
     simp only [ae] at k1
     rw [hd]
     obtain ⟨rfl,_⟩:_=none∧True:=by
      rcases mY h hV h1 with ⟨e1,_⟩ | ⟨_,_,_,_,e1,_⟩
      ·exact ⟨e1,trivial⟩
      ·cases e1
     obtain ⟨y,rfl⟩:∃y,_=some y:=by
      rcases mY h hV h2 with ⟨_,e1⟩ | ⟨y,_,_,e1,_⟩
      ·cases e1
      ·exact ⟨y,e1⟩
     exact go_psl h hV hd hl hE eX k1.1 hx (hV.of hk) h2 (hp _ rfl) (dR hV.q k1.2)
    ·exact cx he
   ·exact cx he
  ·cases he
 ·obtain ⟨d,hd,hl⟩:=iS (by simp [eX]) (by simp [eX])
  split at he
  ·split at he
   ·split at he
    ·split at he
     ·obtain ⟨k1,k2⟩:=br.1 he
      simp only [ae,aF] at k1
      obtain ⟨k4,k3⟩:=br.1 k2
      cases k3
      rw [hd]
      exact go_bl h hV hd hl hE eX (by assumption) (by assumption) (by assumption) (by assumption) (aj k1.1.1) (Nat.le_of_ble_eq_true k1.1.2) k1.2 k4
     ·cases he
    ·cases he
   ·cases he
  ·cases he
 ·obtain ⟨d,hd,hl⟩:=iS (by simp [eX]) (by simp [eX])
  split at he
  ·split at he
   ·split at he
    ·split at he
     ·split at he
      ·obtain ⟨k1,k2⟩:=br.1 he
       simp only [ae,aw,Bool.not_eq_true'] at k1
       cases k2
       rw [hd]
       exact go_bo h hV hd hl hE eX (by assumption) (by assumption) (by assumption) (by assumption) (by assumption) (by assumption) (by assumption) (aj k1.2.1) (fun p hp e=>by have:=k1.2.2 p hp;rw [e,Nat.beq_refl] at this;cases this) (aw.2 k1.1)
      ·cases he
     ·cases he
    ·split at he
     ·split at he
      ·obtain ⟨k1,k2⟩:=br.1 he
       cases k2
       rw [hd]
       exact go_bd h hV hd hl hE eX (by assumption) (by assumption) (by assumption) (by assumption) (by assumption) k1
      ·cases he
     ·cases he
   ·cases he
  ·cases he
 ·obtain ⟨d,hd,hl⟩:=iS (by simp [eX]) (by simp [eX])
  rw [aE] at he
  obtain ⟨z,h1,h2⟩:=he
  obtain ⟨k1,k2⟩:=br.1 h2
  cases k2
  rw [hd]
  exact go_al h hd hl hE eX h1 (dR hV.q k1)
 ·obtain ⟨d,hd,hl⟩:=iS (by simp [eX]) (by simp [eX])
  split at he
  ·obtain ⟨k1,k2⟩:=br.1 he
   cases k2
   simp only [ae] at k1
   rw [hd]
   exact go_bx h hd hl hV eX (by assumption) k1.1 (dR hV.q k1.2)
  ·cases he
 ·obtain ⟨d,hd,hl⟩:=iS (by simp [eX]) (by simp [eX])
  split at he
  ·obtain ⟨k1,k2⟩:=br.1 he
   cases k2
   rw [hd]
   exact go_mk h hd hl hE hV eX (by assumption) (by assumption) (by assumption) (hp _ rfl) (dR hV.q k1)
  ·cases he
 ·cases he
end
end Go.Eng
namespace Go.Eng
open Go.RowKit
theorem cnds_none {l:List TV} (h:l0 l=none):∀x∈l,x.xd=none:=by
 induction l with
 | nil=>simp
 | cons x l ih =>
  simp only [l0] at h
  split at h
  ·rename_i h1
   intro y hy
   rcases aC.1 hy with rfl | hy
   ·exact h1
   ·exact ih h y hy
  ·cases h
  ·cases h
theorem oC {l:List TV} (h:l0 l=some true):∀x∈l,∀q,x.xd=some q→q=true:=by
 induction l with
 | nil=>simp
 | cons x l ih =>
  simp only [l0] at h
  split at h
  ·rename_i h1
   intro y hy q hq
   rcases aC.1 hy with rfl | hy
   ·rw [h1] at hq;cases hq
   ·exact ih h y hy q hq
  ·rename_i p h1 h2
   cases h
   intro y hy q hq
   rcases aC.1 hy with rfl | hy
   ·rw [h1] at hq;cases hq;rfl
   ·rw [cnds_none h2 y hy] at hq;cases hq
  ·rename_i p q' h1 h2
   have h:=Option.some.inj h
   rw [ae] at h
   obtain ⟨rfl,rfl⟩:=h
   intro y hy q hq
   rcases aC.1 hy with rfl | hy
   ·rw [h1] at hq;cases hq;rfl
   ·exact ih h2 y hy q hq
section
variable {C:Ctx} {S V:St} {a:Act} {w:World} {R:Reach} {τ:Nat→Value} {o:Oper} {d:Nat} {e:dP} {K:Act→World→Prop} {Q:Exit→Act→World→Prop}
theorem sM {x:TV} {g:Gh} {v:Value} (hx:x.wm=false):cp R w τ (.gd true x) g v ↔ cp R w τ x g v:=by
 cases x <;> first | (cases hx;done) | exact Iff.rfl
theorem Core.sL {nt:Nat} {b9:Nat→Prop} {S S':St} (h:Core nt R w b9 τ S) (h1:∀k,nt≤k→S' k=S k) (h2:∀k,k<nt→(S' k).2=(S k).2) (h3:∀k,k<nt→cp R w τ (S k).1 (S k).2 (τ k)→cp R w τ (S' k).1 (S' k).2 (τ k)):Core nt R w b9 τ S':=by
 have hg:∀k,(S' k).2=(S k).2:=fun k=>by
  rcases Nat.lt_or_ge k nt with hk | hk
  ·exact h2 k hk
  ·rw [h1 k hk]
 have hb:∀k,dq τ S' k=dq τ S k:=fun k=>by unfold dq;rw [hg]
 refine ⟨fun k=>?_,fun k k' g a b=>?_,fun k g a=>?_,fun j k hk=>?_,h.kj,fun k hk=>by rw [hg];exact h.slt k hk,fun k d hk=>?_⟩
 ·rcases Nat.lt_or_ge k nt with hk | hk
  ·have hs:=h.slt k hk
   have hK:=h.key k
   rw [fi.slot hs] at hK
   rw [fi.slot (by rw [hg];exact hs)]
   exact h3 k hk hK
  ·rw [h1 k hk];exact h.key k
 ·rw [hb] at a b;exact h.sep k k' g a b
 ·rw [hb] at a;exact h.b9 k g a
 ·rw [hg] at hk;rw [hg];exact h.inv j k hk
 ·rw [hg] at hk
  have AO:nt≤k:=by
   rcases Nat.lt_or_ge k nt with CM | CM
   ·have:=h.slt k CM;rw [hk] at this;cases this
   ·exact CM
  have HR:nt≤d:=(h.inv k d (by rw [hk];exact List.mem_singleton.2 rfl)).1
  rw [h1 k AO,h1 d HR];exact h.par k d hk
theorem cC.sL {S':St} (h:cC C S a w R τ) (h1:∀k,C.nt≤k→S' k=S k) (h2:∀k,k<C.nt→(S' k).2=(S k).2) (h3:∀k,k<C.nt→cp R w τ (S k).1 (S k).2 (τ k)→cp R w τ (S' k).1 (S' k).2 (τ k)):cC C S' a w R τ :=
 { h with core:=h.core.sL h1 h2 h3 }
theorem iX (h:cC C S a w R τ) {t:Nat} (ht:t<C.nt):cp R w τ (S t).1 (S t).2 (a.tmps.getD t undef):=by
 have:=h.core.key t
 rw [fi.slot (h.core.slt t ht),←h.tmps t ht] at this
 exact this
theorem kz (h:cC C S a w R τ) {ops:Array Oper} {j t:Nat} {x:Bool} (ht:t<C.nt) (hj:(ops[j]?).bind (·.dst)=some t) (hx:a.tmps.getD t undef = .bool x):yielded ops a.tmps j=some x:=by
 have hs:t<a.tmps.size:=by rw [h.size];exact ht
 have e2:a.tmps[t]?=some (.bool x):=by
  rw [Array.getElem?_eq_getElem hs,←hx];simp [Array.getD,hs]
 simp [yielded,hj,e2]
theorem pP (h:cC C S a w R τ) {ops:Array Oper} {j t:Nat} (ht:t<C.nt) (hj:(ops[j]?).bind (·.dst)=some t) (hx:a.tmps.getD t undef=undef):yielded ops a.tmps j=none:=by
 have hs:t<a.tmps.size:=by rw [h.size];exact ht
 have e2:a.tmps[t]?=some undef:=by
  rw [Array.getElem?_eq_getElem hs,←hx];simp [Array.getD,hs]
 simp [yielded,hj,e2,undef]
theorem qm {nt:Nat} {dst:Option Nat} (h:0<nt) (j j':Nat) (e:nI nt dst j=nI nt dst j'):j=j':=by
 unfold nI at e
 have:(j+1) * nt=(j'+1) * nt:=by omega
 have:=Nat.eq_of_mul_eq_mul_right h this
 omega
theorem jV {nt:Nat} {ts:List Nat} {S:St} {k:Nat} (h:k<nt) (hk:k∈ts):fE nt ts S k=((S k).1.bare,(S k).2):=by
 have h1:Nat.blt k nt=true:=Nat.ble_eq_true_of_le h
 have h2:ts.contains k=true:=by simpa using hk
 unfold fE
 simp only [h1,h2,bc,ao]
theorem jj {nt:Nat} {ts:List Nat} {S:St} {k:Nat} (h:nt≤k∨k ∉ ts):fE nt ts S k=S k:=by
 unfold fE
 cases hb:(Nat.blt k nt&&ts.contains k) with
 | false=>rfl
 | true =>
  exfalso
  simp only [ae] at hb
  have h1:k+1≤nt:=Nat.le_of_ble_eq_true hb.1
  have h2:k∈ts:=by simpa using hb.2
  rcases h with h | h
  ·omega
  ·exact h h2
theorem Lt.fE {nt:Nat} {ts:List Nat} (h:Lt V S):Lt (fE nt ts V) (fE nt ts S):=fun k=>by
 by_cases hk:k<nt∧k∈ts
 ·rw [jV hk.1 hk.2,jV hk.1 hk.2]
  exact (h k).imp (fun e=>by rw [e]) id
 ·have:nt≤k∨k ∉ ts:=by
   by_cases h1:k<nt
   ·exact .inr fun h2=>hk ⟨h1,h2⟩
   ·exact .inl (by omega)
  rw [jj this,jj this]
  exact h k
theorem mM:∀{l:List (Nat × Cell)} {S S':St} {k:Nat},k∈l.map (·.1)→cJ S l k=cJ S' l k
 | (j,x) :: l,S,S',k,h=>by
  simp only [cJ]
  by_cases e:k=j
  ·subst e;rw [bG,bG]
  ·rw [bO _ _ e,bO _ _ e]
   rcases aC.1 h with h | h
   ·exact (e h).elim
   ·exact mM h
theorem nV (h:cC C S a w R τ) (hV:Lt V S) (hE:fj C.P C.E) (hF:∀f,bE C.P C.gl f (C.E.fs f)) {d:Nat} {x':Cell} {e0:dP} (hd:o.dst=some d) (hl:d<C.nt) (fP:lT C.nt o=true)
  (zJ:∀t∈watch o.op,∀q,(V t).1.xd=some q→q=true) (hnest:(watch o.op).all (fun t=>!(V t).1.bare.wm)=true) (DY:pZ C.P C.E C.nt (nI C.nt o.dst) (fE C.nt (watch o.op) V) o.type o.op=some e0) (EL:∀p,e0.p=some p→p=true) (xF:∀p∈e0.ws,C.nt≤p.1)
  (Hm:x'.2=e0.x.2) (hx:∀(R:Reach) (w:World) (τ:Nat→Value) (v:Value),cp R w τ e0.x.1 e0.x.2 v→cp R w τ x'.1 x'.2 v) (hK:∀a' w',lH C (bL (cJ S e0.ws) d x') a' w'→K a' w'):o.wp C.P a w K Q:=by
 let S':St:=fun k=>if (V k).2 = .hid then S k else fE C.nt (watch o.op) S k
 have bk:∀k,S' k=S k∨(k<C.nt∧S' k=((S k).1.bare,(S k).2)∧(S k).1.bare.wm=false∧∀q,(S k).1.xd=some q→q=true):=fun k=>by
  show (if (V k).2 = .hid then S k else fE C.nt (watch o.op) S k)=S k∨_
  by_cases hh:(V k).2 = .hid
  ·left;rw [aq hh]
  by_cases hk:k<C.nt∧k∈watch o.op
  ·right
   have e:=(hV k).resolve_right hh
   have hn:=aw.1 hnest k hk.2
   refine ⟨hk.1,?_,?_,?_⟩
   ·show (if (V k).2 = .hid then S k else fE C.nt (watch o.op) S k)=_
    rw [al hh,jV hk.1 hk.2]
   ·rw [←e];simpa using hn
   ·rw [←e];exact zJ k hk.2
  ·left
   rw [al hh,jj]
   by_cases h1:k<C.nt
   ·exact .inr fun h2=>hk ⟨h1,h2⟩
   ·exact .inl (by omega)
 have conv:∀{R:Reach} {w:World} {τ:Nat→Value} k,k<C.nt→(S' k).2=(S k).2∧(cp R w τ (S k).1 (S k).2 (τ k) ↔ cp R w τ (S' k).1 (S' k).2 (τ k)):=fun {R w τ} k _=>by
  rcases bk k with e | ⟨_,e,h1,h2⟩
  ·rw [e];exact ⟨rfl,Iff.rfl⟩
  ·rw [e]
   refine ⟨rfl,?_⟩
   generalize S k=c at *
   obtain ⟨x,g⟩:=c
   cases x <;> first | exact Iff.rfl | skip
   rename_i q x
   have:=h2 q rfl
   subst this
   exact sM h1
 have r8:cC C S' a w R τ:=h.sL (fun k hk=>by
  rcases bk k with e | ⟨h1,_⟩
  ·exact e
  ·omega) (fun k hk=>(conv (R:=R) (w:=w) (τ:=τ) k hk).1) fun k hk=>(conv k hk).2.1
 have DZ:Lt (fE C.nt (watch o.op) V) S':=fun k=>by
  show _=(if (V k).2 = .hid then S k else fE C.nt (watch o.op) S k)∨_
  by_cases hh:(V k).2 = .hid
  ·right
   by_cases hk:k<C.nt∧k∈watch o.op
   ·rw [jV hk.1 hk.2];exact hh
   ·rw [jj]
    ·exact hh
    ·by_cases h1:k<C.nt
     ·exact .inr fun h2=>hk ⟨h1,h2⟩
     ·exact .inl (by omega)
  ·rw [al hh];exact hV.fE k
 have uD:=pY r8 DZ hE EL hF (fun hn=>qm hn) fP DY
 refine uD K Q fun a' w' qE=>hK _ _ ?_
 obtain ⟨R2,kZ,qE⟩:=qE
 rw [hd] at qE
 simp only [eJ] at qE
 have put:∀k,cJ S e0.ws k=cJ S' e0.ws k∨(k<C.nt∧cJ S e0.ws k=S k∧cJ S' e0.ws k=S' k):=fun k=>by
  by_cases hk:k<C.nt
  ·have hn:∀p∈e0.ws,p.1≠k:=fun p hp e=>by have:=xF p hp;omega
   exact .inr ⟨hk,dW hn,dW hn⟩
  ·left
   by_cases hm:k∈e0.ws.map (·.1)
   ·exact mM hm
   ·have hn:∀p∈e0.ws,p.1≠k:=fun p hp e=>hm (aS.2 ⟨p,hp,e⟩)
    rw [dW hn,dW hn]
    rcases bk k with e | ⟨h1,_⟩
    ·exact e.symm
    ·exact (hk h1).elim
 refine ⟨R2,kZ,qE.sL (fun k hk=>?_) (fun k hk=>?_) fun k hk=>?_⟩
 ·have hk:C.nt≤k:=hk
  have gf:k≠d:=Nat.ne_of_gt (Nat.lt_of_lt_of_le hl hk)
  rw [bO _ _ gf,bO _ _ gf]
  rcases put k with e | ⟨h1,_⟩
  ·exact e
  ·omega
 ·by_cases e:k=d
  ·subst e;rw [bG,bG];exact Hm
  ·rw [bO _ _ e,bO _ _ e]
   rcases put k with e | ⟨h1,e1,e2⟩
   ·rw [e]
   ·rw [e1,e2];exact (conv (R:=R) (w:=w) (τ:=τ) k h1).1.symm
 ·by_cases e:k=d
  ·subst e;rw [bG,bG];exact hx _ _ _ _
  ·rw [bO _ _ e,bO _ _ e]
   rcases put k with e | ⟨h1,e1,e2⟩
   ·rw [e];exact id
   ·rw [e1,e2];exact (conv k h1).2.2
theorem sJ (h:cC C S a w R τ) (hV:Lt V S) (hE:fj C.P C.E) (hF:∀f,bE C.P C.gl f (C.E.fs f)) {ops:Array Oper} (hp:∀p,e.p=some p→p=true) (he:iw C.P C.E C.nt ops o V=some e) (hK:∀a' w',lH C (eJ S o.dst e) a' w'→K a' w') :
  if Region.wanted o (yielded ops a.tmps) then o.wp C.P a w K Q∨(o.asks C.P a w∧LetsOut Q) else K (a.put o.dst undef) w:=by
 unfold iw at he
 obtain ⟨fP,he⟩:=br.1 he
 split at he
 ·rename_i hg
  simp only [Region.wanted,hg,if_true]
  exact .inl (pY h hV hE hp hF (fun hn=>qm hn) fP he K Q hK)
 ·rename_i j b hg
  split at he
  ·rename_i t hj
   split at he
   ·rename_i x E9
    split at he
    ·rename_i c e0 hc DY
     obtain ⟨h1,BX⟩:=br.1 he
     simp only [ae] at h1
     obtain ⟨ht,HQ,hnest⟩:=h1
     have ht:t<C.nt:=Nat.le_of_ble_eq_true ht
     obtain ⟨d,hd⟩:=Option.isSome_iff_exists.1 HQ
     have hl:d<C.nt:=by
      unfold lT at fP
      split at fP
      ·rename_i nf;rw [hd] at nf;cases nf
      ·cases fP
      ·rename_i nf;rw [hd] at nf;cases nf
      ·rename_i nf _;rw [hd] at nf;cases nf;exact Nat.le_of_ble_eq_true fP
      ·cases fP
     -- the guard
     have yy:=iX h ht
     have Gp:S t=(x,.no):=hV.of E9
     rw [Gp] at yy
     have hw:Region.wanted o (yielded ops a.tmps)=c:=by
      unfold pk at hc
      split at hc
      ·rename_i y
       cases hc
       have:=(fg.rep yy).dx rfl
       simp only [Region.wanted,hg,kz h ht hj this]
       cases b <;> cases y <;> rfl
      ·rename_i q y
       cases hc
       cases q with
       | false =>
        simp only [Region.wanted,hg,pP h ht hj yy]
        try (cases b <;> cases y <;> rfl)
       | true =>
        have:Rep R w (.b y) (a.tmps.getD t undef):=yy
        simp only [Region.wanted,hg,kz h ht hj (this.dx rfl)]
        cases b <;> cases y <;> rfl
      ·cases hc
     cases hf:C.E.ld.contains (nI C.nt o.dst 1) with
     | true =>
      rw [hf,ao] at BX
      unfold wH at BX
      obtain ⟨h2,yG⟩:=br.1 BX
      cases yG
      have xF:∀p∈e0.ws,C.nt≤p.1:=fun p hp=>Nat.le_of_ble_eq_true (aw.1 h2 p hp)
      have hp:=hp _ rfl
      simp only at hp
      have E6:c=true∧(∀r,l0 ((watch o.op).map fun t=>(V t).1)=some r→r=true)∧∀p,e0.p=some p→p=true:=by
       cases hq:l0 ((watch o.op).map fun t=>(V t).1) with
       | none =>
        cases wB:e0.p with
        | none=>rw [hq,wB] at hp;exact ⟨hp,fun r hr=>(by cases hr),fun p oj=>(by cases oj)⟩
        | some p0=>rw [hq,wB] at hp;simp only [ae] at hp;exact ⟨hp.1,fun r hr=>(by cases hr),fun p oj=>(by cases oj;exact hp.2)⟩
       | some q0 =>
        cases wB:e0.p with
        | none=>rw [hq,wB] at hp;simp only [ae] at hp;exact ⟨hp.1,fun r hr=>(by cases hr;exact hp.2),fun p oj=>(by cases oj)⟩
        | some p0=>rw [hq,wB] at hp;simp only [ae] at hp;exact ⟨hp.1,fun r hr=>(by cases hr;exact hp.2.1),fun p oj=>(by cases oj;exact hp.2.2)⟩
      obtain ⟨B0,BS,Hw⟩:=E6
      rw [hw,B0,aq rfl]
      left
      refine nV h hV hE hF hd hl fP (fun t ht q hq=>?_) hnest DY Hw xF rfl (fun _ _ _ _ k=>k) (fun a' w' hs=>hK a' w' (by rw [hd];exact hs))
      have hm:(V t).1∈(watch o.op).map fun t=>(V t).1:=List.mem_map_of_mem (f:=fun t=>(V t).1) ht
      generalize kO:l0 ((watch o.op).map fun t=>(V t).1)=r at BS
      cases r with
      | none=>rw [cnds_none kO _ hm] at hq;cases hq
      | some r=>have:=BS r rfl;subst this;exact oC kO _ hm q hq
     | false =>
      rw [hf,af] at BX
      unfold vp at BX
      obtain ⟨h2,yG⟩:=br.1 BX
      cases yG
      simp only [ae,Bool.not_eq_true',List.isEmpty_iff] at h2
      obtain ⟨⟨xF,rD,EP⟩,ET⟩:=h2
      have HF:∀k∈e0.x.2.bN,C.nt≤k∧(S k).2 ≠ .no:=fun k hk=>by
       have:=aw.1 ET k hk
       simp only [FR,ae] at this
       refine ⟨Nat.le_of_ble_eq_true this.1,?_⟩
       rcases hV k with e | e
       ·rw [←e];intro e';rw [e'] at this;cases this.2
       ·rw [e] at this;cases this.2
      rw [hw]
      cases c with
      | false =>
       simp only [bd,if_false]
       rw [hd]
       refine hK _ _ ?_
       rw [hd]
       exact h.yf hl (x := .gd false e0.x.1) (v:=undef) rfl rD HF
      | true =>
       simp only [if_true]
       have zJ:∀t∈watch o.op,∀q,(V t).1.xd=some q→q=true:=by
        intro t ht q hq
        have hm:(V t).1∈(watch o.op).map fun t=>(V t).1:=List.mem_map_of_mem (f:=fun t=>(V t).1) ht
        generalize kO:l0 ((watch o.op).map fun t=>(V t).1)=r at hp
        cases r with
        | none=>rw [cnds_none kO _ hm] at hq;cases hq
        | some r =>
         have:r=true:=by
          cases wB:e0.p with
          | none=>have:=hp _ (by simp only [wB];rfl);simpa using this
          | some p=>have:=hp _ (by simp only [wB];rfl);simp at this;exact this.1
         subst this
         exact oC kO _ hm q hq
       have EL:∀p,e0.p=some p→p=true:=fun p wB=>by
        generalize l0 ((watch o.op).map fun t=>(V t).1)=r at hp
        cases r with
        | none=>have:=hp _ (by simp only [wB];rfl);simpa using this
        | some r=>have:=hp _ (by simp only [wB];rfl);simp at this;exact this.2
       left
       refine nV h hV hE hF hd hl fP zJ hnest DY EL (by rw [xF];simp) (x':=(.gd true e0.x.1,e0.x.2)) rfl (fun _ _ _ _ k=>(sM EP).2 k) (fun a' w' hs=>hK a' w' ?_)
       rw [hd]
       simp only [eJ,cJ]
       rw [xF] at hs
       exact hs
    ·cases he
   ·cases he
  ·cases he
end
end Go.Eng
namespace Go.Eng
open Go.RowKit
theorem qX {X:Type} {p:Option Bool} {x:Option X} {r:X} (h:yQ p x=some r):(∀q,p=some q→q=true)∧x=some r:=by
 unfold yQ at h
 split at h
 ·exact ⟨by simp,h⟩
 ·rename_i p
  cases p with
  | true=>exact ⟨by rintro q e;cases e;rfl,h⟩
  | false=>cases h
section
variable {L:Nat→Prop} {ops:List Oper}
theorem kU (vh:∀i o,ops[i]?=some o→L i→∀e∈lG o,L e):∀(rest pre:List Oper) (acc:List (List Nat)),ops=pre++rest→acc.length=pre.length →
  (∀i o,i<acc.length→ops[i]?=some o→(∀e∈lG o,L e)→∀j∈acc.getD i [],L j) →
  ∀i o,ops[i]?=some o→(∀e∈lG o,L e)→∀j∈(rest.foldl (fun acc o=>acc++[(lG o).flatMap fun e=>e :: (acc.getD e [])]) acc).getD i [],L j
 | [],pre,acc,e,hl,inv=>by
  intro i o hi hb j hj
  simp only [bm] at e
  subst e
  have:i<acc.length:=by
   rw [hl]
   exact (av.1 hi).1
  exact inv i o this hi hb j hj
 | r :: rest,pre,acc,e,hl,inv=>by
  simp only [List.foldl_cons]
  refine kU vh rest (pre++[r]) _ (by simp [e]) (by simp [hl]) ?_
  intro i o hi ho hb j hj
  by_cases eL:i<acc.length
  ·rw [ai,List.getElem?_append_left eL,←ai] at hj
   exact inv i o eL ho hb j hj
  ·have rF:i=acc.length:=by simp at hi;omega
   subst rF
   rw [ai,aT (Nat.le_refl _)] at hj
   simp only [Nat.sub_self,List.getElem?_cons_zero,Option.getD_some,List.mem_flatMap,aC] at hj
   have hr:o=r:=by
    rw [e,hl,aT (Nat.le_refl _)] at ho
    simpa using ho.symm
   subst hr
   obtain ⟨x,hx,rfl | hj⟩:=hj
   ·exact hb _ hx
   ·by_cases yx:x<acc.length
    ·have FY:x<ops.length:=by rw [e];simp;omega
     exact inv x _ yx (ah FY) (vh x _ (ah FY) (hb x hx)) j hj
    ·simp [List.getD,List.getElem?_eq_none (Nat.le_of_not_lt yx)] at hj
theorem nz (vh:∀i o,ops[i]?=some o→L i→∀e∈lG o,L e) {i:Nat} {o:Oper} (hi:ops[i]?=some o) (hb:∀e∈lG o,L e):∀j∈(iD ops).getD i [],L j :=
 kU vh ops [] [] rfl rfl (fun _ _ h=>by simp at h) i o hi hb
theorem sA (BW:mv ops=true) {i j:Nat} {o:Oper} (hi:ops[i]?=some o) (hj:j∈(iD ops).getD i []):j<i:=by
 have hb:∀k p,ops[k]?=some p→∀e∈lG p,e<k:=fun k p hk e he=>by
  have hm:(p,k)∈ops.zipIdx:=List.mem_zipIdx_iff_getElem?.2 (by simpa using hk)
  have:=aw.1 (aw.1 BW _ hm) e he
  simpa using this
 exact nz (L:=fun k=>k<i) (fun k p hk hl e he=>Nat.lt_trans (hb k p hk e he) hl) hi (hb i o hi) j hj
end
theorem xN {A:Type} {l:List A} {p:A × Nat→Bool} (h:l.zipIdx.all p=true) {i:Nat} {x:A} (hi:l[i]?=some x):p (x,i)=true :=
 aw.1 h _ (List.mem_zipIdx_iff_getElem?.2 (by simpa using hi))
theorem qK (l:Array Bool) (i x:Nat) (d:Bool):(l.setIfInBounds i true).getD x d=if i=x then (if i<l.size then true else d) else l.getD x d:=by
 simp only [Array.getD_eq_getD_getElem?,Array.getElem?_setIfInBounds]
 split
 ·split <;> rfl
 ·rfl
def dN (n:Nat) (listed:Array Bool):List Nat:=(List.range n).filter fun i=>!listed.getD i true
theorem qj {n i:Nat} {listed:Array Bool} (hs:listed.size=n) (hi:i<n):dN n (listed.setIfInBounds i true)=(dN n listed).filter (fun j=>decide (j≠i)):=by
 simp only [dN,List.filter_filter]
 apply List.filter_congr
 intro j hj
 have hj:j<n:=by simpa using hj
 by_cases h:j=i
 ·subst h
  simp [Array.getD,hs,hi]
 ·have:i≠j:=fun e=>h e.symm
  simp [Array.getD,hs,hj,Array.getElem_setIfInBounds,h,this]
theorem mR {listed:Array Bool} {n i:Nat} (hs:listed.size=n) (hi:i<n):listed.getD i true=listed.getD i false:=by simp [Array.getD,hs,hi]
theorem lB (S:St) (d:Option Nat) (e:dP):eJ S d e=cJ S (d.toList.map (fun d=>(d,e.x))++e.ws):=by
 cases d <;> rfl
theorem qw (d:Option Nat) (e:dP):(d.toList.map (fun d=>(d,e.x))++e.ws).map (·.1)=fO d e:=by
 unfold fO;cases d <;> simp
theorem gz {S:St} {d:Option Nat} {e:dP} {k:Nat} (h:k ∉ fO d e):eJ S d e k=S k:=by
 rw [lB]
 refine dW fun p hp ep=>h ?_
 rw [←qw]
 exact aS.2 ⟨p,hp,ep⟩
theorem tA {S S':St} {d:Option Nat} {e:dP} {k:Nat} (h:k∈fO d e):eJ S d e k=eJ S' d e k:=by
 rw [lB,lB]
 exact mM (by rw [qw];exact h)
theorem uO {S:St} {d d':Option Nat} {e e':dP} (h:∀k∈fO d e,k ∉ fO d' e'):eJ (eJ S d e) d' e'=eJ (eJ S d' e') d e:=by
 funext k
 by_cases h1:k∈fO d e
 ·rw [gz (h k h1),tA (S':=eJ S d' e') h1]
 ·by_cases h2:k∈fO d' e'
  ·rw [gz (S:=eJ S d' e') h1,tA (S':=S) h2]
  ·rw [gz h2,gz h1,gz h1,gz h2]
section
variable {C:Ctx} {Q:Exit→Act→World→Prop}
theorem cC.drew {S:St} {a:Act} {w:World} {R:Reach} {τ:Nat→Value} (h:cC C S a w R τ):cC C S a { w with drawn:=w.drawn+1 } R τ:=by
 have cj:cD R w R { w with drawn:=w.drawn+1 }:=fun b o hr=>⟨hr,rfl⟩
 refine ⟨h.size,h.defers,h.core.step (fun _=>False) cj (fun _ _=>⟨rfl,rfl⟩) (fun _ _ _ _=>⟨rfl,fun _=>id⟩) (fun _=>False.elim) (fun _=>False.elim) (fun _=>False.elim) (fun _=>False.elim) (fun _=>False.elim) (fun _ _=>False.elim) (fun _=>id) (fun _=>False.elim) h.core.kj (fun _=>False.elim),h.tmps,h.io,?_,h.gl.cj cj⟩
 exact h.ext.trans (io':=C.io) ⟨rfl,rfl,rfl,Nat.le_refl _,fun _ _ _=>rfl,cj,fun b o hr => .inl hr⟩ fun b hb => .inl hb
theorem oL {S:St} {a:Act} {w:World} {R:Reach} {τ:Nat→Value} {ops:Array Oper} {o:Oper} {c:Bool} (h:cC C S a w R τ) (he:k9 C.E C.nt ops o S=some c):Region.wanted o (yielded ops a.tmps)=c:=by
 unfold k9 at he
 cases hb:C.E.ld.contains (nI C.nt o.dst 2) with
 | false=>rw [hb] at he;cases he
 | true =>
  rw [hb,ao] at he
  split at he <;> try (cases he;done)
  rename_i j b hg
  split at he <;> try (cases he;done)
  rename_i t hj
  split at he <;> try (cases he;done)
  rename_i x E9
  obtain ⟨ht,yG⟩:=br.1 he
  clear he
  have ht:t<C.nt:=Nat.le_of_ble_eq_true ht
  have yy:=iX h ht
  rw [E9] at yy
  unfold pk at yG
  split at yG
  ·rename_i y
   cases yG
   have:=(fg.rep yy).dx rfl
   simp only [Region.wanted,hg,kz h ht hj this]
   cases b <;> cases y <;> rfl
  ·rename_i q y
   cases yG
   cases q with
   | false =>
    simp only [Region.wanted,hg,pP h ht hj yy]
    try (cases b <;> cases y <;> rfl)
   | true =>
    have:Rep R w (.b y) (a.tmps.getD t undef):=yy
    simp only [Region.wanted,hg,kz h ht hj (this.dx rfl)]
    cases b <;> cases y <;> rfl
  ·cases yG
theorem o6 (hE:fj C.P C.E) (hF:∀f,bE C.P C.gl f (C.E.fs f)) {X:Type} {ops:Array Oper}:∀{os:List Oper} {S:St} {a:Act} {w:World} {K:St→Option X} {r:X},lH C S a w→rR C.P C.E C.nt ops os S K=some r→(∀S' a' w',lH C S' a' w'→K S'=some r→Q .normal a' w')→wpList C.P ops Q os a w
 | [],S,a,w,K,r,h,hr,hQ=>hQ _ _ _ h hr
 | o :: os,S,a,w,K,r,⟨R,τ,h⟩,hr,hQ=>by
  rw [tW] at hr
  split at hr
  ·rename_i e he
   have go:yQ e.p (rR C.P C.E C.nt ops os (eJ S o.dst e) K)=some r→wpList C.P ops Q (o :: os) a w:=fun hr=>by
    obtain ⟨hp,hr⟩:=qX hr
    unfold wpList
    exact sJ h (Lt.refl S) hE hF hp he fun a' w' h'=>o6 hE hF h' hr hQ
   unfold sH at hr
   split at hr
   ·exact go hr
   ·rename_i c hc
    cases c with
    | true=>exact go hr
    | false =>
     rw [af] at hr
     split at hr <;> try (cases hr;done)
     rename_i d hd
     have hw:=oL h hc
     have hl:d<C.nt:=by
      unfold iw at he
      obtain ⟨fP,_⟩:=br.1 he
      unfold lT at fP
      split at fP
      ·rename_i nf;rw [hd] at nf;cases nf
      ·cases fP
      ·rename_i nf;rw [hd] at nf;cases nf
      ·rename_i nf _;rw [hd] at nf;cases nf;exact Nat.le_of_ble_eq_true fP
      ·cases fP
     unfold wpList
     rw [hw,al (by simp),hd]
     refine o6 hE hF (h.yf hl (x := .gd false e.x.1) (g := .no) (v:=undef) rfl rfl (by simp [Gh.bN])) hr hQ
  ·cases hr
structure BJ (C:Ctx) (ops:Array Oper) (l:List (St × dP)):Prop where
 step:∀(i:Nat) (o:Oper) (V:St) (e:dP),ops.toList[i]?=some o→l[i]?=some (V,e)→iw C.P C.E C.nt ops o V=some e∧∀p,e.p=some p→p=true
 off:∀(i j:Nat) (o o':Oper) (V V':St) (e e':dP),i≠j→ops.toList[i]?=some o→ops.toList[j]?=some o'→l[i]?=some (V,e)→l[j]?=some (V',e')→j ∉ (iD ops.toList).getD i []→i ∉ (iD ops.toList).getD j [] →
  ∀k∈fO o'.dst e',(V k).2 = .hid∧k ∉ fO o.dst e
def Rn (ops:Array Oper) (l:List (St × dP)):List Nat→St→St→Prop
 | [],S,S'=>S'=S
 | i :: r,S,S'=>∃V e o,ops.toList[i]?=some o∧l[i]?=some (V,e)∧Lt V S∧Rn ops l r (eJ S o.dst e) S'
theorem Lt.zR {V S:St} {d:Option Nat} {e:dP} (h:∀k∈fO d e,(V k).2 = .hid):Lt V S ↔ Lt V (eJ S d e):=by
 constructor
 ·intro hl k
  by_cases hk:k∈fO d e
  ·exact .inr (h k hk)
  ·rw [gz hk];exact hl k
 ·intro hl k
  by_cases hk:k∈fO d e
  ·exact .inr (h k hk)
  ·have:=hl k
   rwa [gz hk] at this
theorem Rn.front {ops:Array Oper} {l:List (St × dP)} (hp:BJ C ops l) {i:Nat} {B:List Nat}:∀{A:List Nat} {S S':St},Rn ops l (A++i :: B) S S'→(∀j∈A,j≠i∧j ∉ (iD ops.toList).getD i []∧i ∉ (iD ops.toList).getD j [])→Rn ops l (i :: (A++B)) S S'
 | [],_,_,h,_=>h
 | j :: A,S,S',⟨V,e,o,h1,h2,h3,h4⟩,hA=>by
  obtain ⟨V',e',o',k1,k2,k3,k4⟩:=Rn.front hp h4 fun x hx=>hA x (List.mem_cons_of_mem _ hx)
  obtain ⟨gf,ha,hb⟩:=hA j (List.mem_cons_self ..)
  have o1:=hp.off j i o o' V V' e e' gf h1 k1 h2 k2 hb ha
  have o2:=hp.off i j o' o V' V e' e (Ne.symm gf) k1 h1 k2 h2 ha hb
  refine ⟨V',e',o',k1,k2,(Lt.zR fun k hk=>(o2 k hk).1).2 k3,V,e,o,h1,h2,(Lt.zR fun k hk=>(o1 k hk).1).1 h3,?_⟩
  rwa [uO fun k hk=>(o1 k hk).2]
def Ch:List Oper→List (St × dP)→St→St→Prop
 | [],[],S,S'=>S'=S
 | o :: os,(V,e) :: l,S,S'=>Lt V S∧Ch os l (eJ S o.dst e) S'
 | _,_,_,_=>False
theorem Ch.rn {ops:Array Oper} {l:List (St × dP)}:∀(n i:Nat) {S S':St},ops.toList.length=i+n→Ch (ops.toList.drop i) (l.drop i) S S'→Rn ops l (List.range' i n) S S'
 | 0,i,S,S',hn,h=>by
  rw [List.drop_eq_nil_of_le (by omega)] at h
  cases hl:l.drop i with
  | nil=>rw [hl] at h;exact h
  | cons p r=>rw [hl] at h;cases h
 | n+1,i,S,S',hn,h=>by
  have hi:i<ops.toList.length:=by omega
  rw [List.drop_eq_getElem_cons hi] at h
  cases hl:l.drop i with
  | nil=>rw [hl] at h;cases h
  | cons p r =>
   obtain ⟨V,e⟩:=p
   rw [hl] at h
   obtain ⟨h1,h2⟩:=h
   have hg:l[i]?=some (V,e):=by
    have:(l.drop i)[0]?=some (V,e):=by rw [hl];rfl
    rwa [List.getElem?_drop,Nat.add_zero] at this
   have hr:l.drop (i+1)=r:=by rw [←List.drop_drop,hl];rfl
   exact ⟨V,e,_,ah hi,hg,h1,Ch.rn n (i+1) (by omega) (by rw [hr];exact h2)⟩
theorem vY (ds:List Nat) (S:St):Lt (j8 ds S) S:=fun k=>by
 unfold j8
 cases ds.contains k with
 | true=>exact .inr rfl
 | false=>exact .inl rfl
theorem ur {ds:List Nat} {S:St} {k:Nat} (h:k∈ds):(j8 ds S k).2 = .hid:=by
 unfold j8
 have:ds.contains k=true:=by simpa using h
 rw [this];rfl
theorem sP {X:Type} {ops:Array Oper} {W B:List (List Nat)} {K:St→Option X} {r:X}:∀{os:List Oper} {i:Nat} {S:St},tZ C.P C.E C.nt ops W B i os S K=some r →
  ∃l S',l.length=os.length∧Ch os l S S'∧K S'=some r∧∀(n:Nat) (o:Oper) (V:St) (e:dP),os[n]?=some o→l[n]?=some (V,e)→(∃S0,V=j8 (ll W B (i+n)) S0)∧iw C.P C.E C.nt ops o V=some e∧(∀p,e.p=some p→p=true)∧fO o.dst e=W.getD (i+n) []∧∀k∈ll W B (i+n),k ∉ W.getD (i+n) []
 | [],i,S,h=>⟨[],S,rfl,rfl,h,by simp⟩
 | o :: os,i,S,h=>by
  rw [tY] at h
  split at h
  ·rename_i e he
   obtain ⟨h1,h2⟩:=br.1 h
   obtain ⟨hp,h3⟩:=qX h2
   obtain ⟨l,S',k1,k2,k3,k4⟩:=sP h3
   simp only [ae,aF] at h1
   refine ⟨(j8 (ll W B i) S,e) :: l,S',by simp [k1],⟨vY _ _,k2⟩,k3,fun n o' V e' hn hl=>?_⟩
   cases n with
   | zero =>
    cases hn;cases hl
    refine ⟨⟨S,rfl⟩,he,hp,h1.1,fun k hk=>?_⟩
    have:=aw.1 h1.2 k hk
    simpa using this
   | succ n =>
    have:=k4 n o' V e' (by simpa using hn) (by simpa using hl)
    rwa [show i+1+n=i+(n+1) by omega] at this
  ·cases h
theorem BB (hE:fj C.P C.E) (hF:∀f,bE C.P C.gl f (C.E.fs f)) {ops:Array Oper} {l:List (St × dP)} (hlen:l.length=ops.size) (nD:BJ C ops l) (BW:mv ops.toList=true) {S':St} (hQ:∀a' w',lH C S' a' w'→Q .normal a' w') :
  ∀(fuel:Nat) {listed:Array Bool} {S:St} {a:Act} {w:World},lH C S a w→listed.size=ops.size →
   (∀i o,ops.toList[i]?=some o→listed.getD i false=true→∀e∈lG o,listed.getD e false=true) →
   (dN ops.size listed).length≤fuel→Rn ops l (dN ops.size listed) S S'→wpAny C.P .any ops Q fuel listed a w:=by
 have EO:∀{listed:Array Bool},listed.size=ops.size→Region.ready .any ops listed=[]→dN ops.size listed=[]:=by
  intro listed hs hr
  cases wx:dN ops.size listed with
  | nil=>rfl
  | cons i rest =>
   exfalso
   have jh:i∈dN ops.size listed:=by rw [wx];exact List.mem_cons_self ..
   have zD:=jh
   simp only [dN,List.mem_filter,List.mem_range,Bool.not_eq_true'] at zD
   obtain ⟨hi,hl⟩:=zD
   have qD:(dN ops.size listed).Pairwise (· < ·):=List.Pairwise.filter _ List.pairwise_lt_range
   have td:ops.toList[i]?=some ops[i]:=by simp [hi]
   have hb:=xN BW td
   have:i∈Region.ready .any ops listed:=by
    simp only [Region.ready,List.mem_filter,List.mem_range]
    refine ⟨hi,?_⟩
    simp only [hl,aQ,Bool.true_and,Array.getElem?_eq_getElem hi,Option.map_some,Option.getD_some,Array.all_eq_true_iff_forall_mem,Bool.or_eq_true,Bool.not_eq_true']
    intro e he
    cases C1:Region.binds .any e with
    | false=>exact .inl rfl
    | true =>
     right
     have eL:e.on<i:=by
      have:e.on∈lG ops[i]:=aS.2 ⟨e,List.mem_filter.2 ⟨by simpa using he,C1⟩,rfl⟩
      have fT:=aw.1 hb _ this
      simpa using fT
     cases hle:listed.getD e.on false with
     | true=>rfl
     | false =>
      have vg:e.on∈dN ops.size listed:=by
       simp only [dN,List.mem_filter,List.mem_range,Bool.not_eq_true']
       exact ⟨by omega,by rw [mR hs (by omega)];exact hle⟩
      rw [wx] at vg qD
      rcases aC.1 vg with h | h
      ·omega
      ·have:=(List.pairwise_cons.1 qD).1 _ h
       omega
   rw [hr] at this
   cases this
 intro fuel
 induction fuel with
 | zero =>
  intro listed S a w h hs ph hf hr
  have h0:dN ops.size listed=[]:=by simpa using hf
  rw [h0] at hr
  cases hr
  refine ⟨?_,hQ _ _ h⟩
  cases EI:Region.ready .any ops listed with
  | nil=>rfl
  | cons i rest =>
   have:i∈Region.ready .any ops listed:=by rw [EI];exact List.mem_cons_self ..
   simp only [Region.ready,List.mem_filter,List.mem_range,ae] at this
   have h1:i∈dN ops.size listed:=by
    simp only [dN,List.mem_filter,List.mem_range]
    exact ⟨this.1,this.2.1⟩
   rw [h0] at h1
   cases h1
 | succ fuel ih =>
  intro listed S a w h hs ph hf hr
  refine ⟨fun EI=>?_,fun i hi=>?_⟩
  ·rw [EO hs EI] at hr
   cases hr
   exact hQ _ _ h
  ·simp only [Region.ready,List.mem_filter,List.mem_range,ae] at hi
   obtain ⟨vg,DX,Gf⟩:=hi
   have CP:i∈dN ops.size listed:=by
    simp only [dN,List.mem_filter,List.mem_range]
    exact ⟨vg,DX⟩
   have td:ops.toList[i]?=some ops[i]:=by simp [vg]
   simp only [Array.getElem?_eq_getElem vg,Option.map_some,Option.getD_some,Array.all_eq_true_iff_forall_mem,Bool.or_eq_true,Bool.not_eq_true'] at Gf
   have zK:∀e∈lG ops[i],listed.getD e false=true:=by
    intro e he
    simp only [lG,aS,List.mem_filter] at he
    obtain ⟨x,⟨hx,hb⟩,rfl⟩:=he
    rcases Gf x (by simpa using hx) with h | h
    ·rw [hb] at h;cases h
    ·exact h
   obtain ⟨A,B,C7⟩:=List.append_of_mem CP
   have qD:(dN ops.size listed).Pairwise (· < ·):=List.Pairwise.filter _ List.pairwise_lt_range
   rw [C7,List.pairwise_append] at qD
   obtain ⟨-,hB,hA⟩:=qD
   have Gq:∀j∈A,j<i:=fun j hj=>hA j hj i (List.mem_cons_self ..)
   have H5:∀j∈B,i<j:=fun j hj=>(List.pairwise_cons.1 hB).1 j hj
   rw [C7] at hr
   have AR:=hr.front nD (fun j hj=>by
    have EZ:=Gq j hj
    have CN:j∈dN ops.size listed:=by rw [C7];exact List.mem_append_left _ hj
    simp only [dN,List.mem_filter,List.mem_range,Bool.not_eq_true'] at CN
    refine ⟨by omega,fun hb=>?_,fun hb=>?_⟩
    ·have h3:=nz (L:=fun e=>listed.getD e false=true) ph td zK j hb
     rw [mR hs CN.1,h3] at CN
     cases CN.2
    ·have HJ:ops.toList[j]?=some ops[j]:=by simp [CN.1]
     have:=sA BW HJ hb
     omega)
   obtain ⟨V,e,o,k1,k2,k3,k4⟩:=AR
   rw [td] at k1;cases k1
   obtain ⟨s1,s2⟩:=nD.step i _ V e td k2
   obtain ⟨R,τ,h⟩:=h
   simp only [wpOp,Array.getElem?_eq_getElem vg]
   refine sJ h k3 hE hF s2 s1 fun a' w' h'=>?_
   have F3:dN ops.size (listed.setIfInBounds i true)=A++B:=by
    rw [qj hs vg,C7,List.filter_append,List.filter_cons]
    simp only [ne_eq,not_true_eq_false,decide_false,bd,if_false]
    rw [List.filter_eq_self.2 (fun j hj=>by have:=Gq j hj;simp;omega),List.filter_eq_self.2 (fun j hj=>by have:=H5 j hj;simp;omega)]
   refine ih h' (by simp [hs]) ?_ ?_ ?_
   ·intro j o hj CO e he
    have CH:∀x,listed.getD x false=true→(listed.setIfInBounds i true).getD x false=true:=by
     intro x hx
     rw [qK]
     split
     ·rename_i HL
      subst HL
      rw [aq (by rw [hs];exact vg)]
     ·exact hx
    by_cases EZ:j=i
    ·subst EZ
     rw [td] at hj
     cases hj
     exact CH _ (zK e he)
    ·refine CH _ (ph j o hj ?_ e he)
     have HM:i≠j:=fun e=>EZ e.symm
     rw [qK,al HM] at CO
     exact CO
   ·rw [F3]
    rw [C7] at hf
    simp at hf ⊢
    omega
   ·rw [F3];exact k4
theorem ue (hE:fj C.P C.E) (hF:∀f,bE C.P C.gl f (C.E.fs f)) {X:Type} {id:Nat} {ops:Array Oper} {draw:Bool} {S:St} {a:Act} {w:World} {K:St→Option X} {r:X} (h:lH C S a w) (hr:oP C.P C.E C.nt ops draw S K=some r) (hQ:∀S' a' w',lH C S' a' w'→K S'=some r→Q .normal a' w'):(Code.region id ops draw).wp C.P Q a w:=by
 cases draw with
 | false=>exact wp_region_list (o6 hE hF h hr hQ)
 | true =>
  simp only [oP] at hr
  obtain ⟨BW,hr⟩:=br.1 hr
  split at hr
  ·rename_i W _
   obtain ⟨l,S',k1,k2,k3,k4⟩:=sP hr
   simp only [Nat.zero_add] at k4
   have hlen:l.length=ops.size:=by simpa using k1
   have nD:BJ C ops l:=⟨fun i o V e ho hl=>⟨(k4 i o V e ho hl).2.1,(k4 i o V e ho hl).2.2.1⟩,fun i j o o' V V' e e' gf ho Hz hl Ga hj hi k hk=>by
    obtain ⟨⟨S0,rfl⟩,_,_,a1,a2⟩:=k4 i o V e ho hl
    obtain ⟨_,_,_,b1,_⟩:=k4 j o' V' e' Hz Ga
    rw [b1] at hk
    have vg:k∈ll W (iD ops.toList) i:=by
     unfold ll
     rcases Nat.lt_or_ge j W.length with eL | AP
     ·refine List.mem_flatMap.2 ⟨(W[j],j),List.mem_filter.2 ⟨List.mem_zipIdx_iff_getElem?.2 (by simp [ah eL]),?_⟩,?_⟩
      ·have e1:Nat.beq j i=false:=by
        cases hb:Nat.beq j i with
        | false=>rfl
        | true=>exact (gf (aj hb).symm).elim
       simp only [e1,aQ,Bool.true_and,ae,Bool.not_eq_true']
       exact ⟨by simpa using hj,by simpa using hi⟩
      ·rwa [ai,ah eL] at hk
     ·rw [ai,List.getElem?_eq_none AP] at hk;cases hk
    exact ⟨ur vg,by rw [a1];exact a2 k vg⟩⟩
   have wx:dN ops.size (Array.replicate ops.size false)=List.range ops.size:=by
    simp only [dN]
    apply List.filter_eq_self.2
    intro i hi
    have hi:i<ops.size:=by simpa using hi
    simp [Array.getD,hi]
   obtain ⟨R,τ,h⟩:=h
   refine wp_region_any hE.mixed (BB hE hF hlen nD BW (fun a' w' h'=>hQ S' a' w' h' k3) ops.size ⟨R,τ,h.drew⟩ (by simp) ?_ (by rw [wx];simp) ?_)
   ·intro i o _ hl
    exfalso
    by_cases hi:i<ops.size <;> simp [Array.getD,hi] at hl
   ·rw [wx,List.range_eq_range']
    exact Ch.rn ops.size 0 (by simp) (by simpa using k2)
  ·cases hr
end
end Go.Eng
namespace Go.Eng
open Go.RowKit
theorem qT:∀{l:List Nat} {i j k:Nat},hN l=true→l[i]?=some k→l[j]?=some k→i=j
 | x :: l,0,0,k,_,_,_=>rfl
 | x :: l,0,j+1,k,h,h1,h2=>by
  have e:x=k:=by simpa using h1
  subst e
  simp only [hN,ae,aw] at h
  have:=h.1 x (az (by simpa using h2))
  simp at this
 | x :: l,i+1,0,k,h,h1,h2=>by
  have e:x=k:=by simpa using h2
  subst e
  simp only [hN,ae,aw] at h
  have:=h.1 x (az (by simpa using h1))
  simp at this
 | x :: l,i+1,j+1,k,h,h1,h2=>by
  simp only [hN,ae] at h
  exact congrArg (· + 1) (qT (k:=k) h.2 (by simpa using h1) (by simpa using h2))
 | [],i,_,_,_,h,_=>by simp at h
theorem gT:∀{G:GL} {xs:List TV} (k:Nat),dn G xs k=(.dead,.no)∨∃(i:Nat) (g:Gh) (x:TV),G[i]?=some (k,g)∧xs[i]?=some x∧dn G xs k=(x,g)
 | [],_,_ => .inl rfl
 | _ :: _,[],_ => .inl rfl
 | (j,g) :: G,x :: xs,k=>by
  simp only [dn]
  cases hb:Nat.beq k j with
  | true=>exact .inr ⟨0,g,x,by rw [aj hb];rfl,rfl,rfl⟩
  | false =>
   rcases gT (G:=G) (xs:=xs) k with h | ⟨i,g',x',h1,h2,h3⟩
   ·exact .inl h
   ·exact .inr ⟨i+1,g',x',by simpa using h1,by simpa using h2,h3⟩
theorem kM:∀{G:GL} {xs:List TV} {i k:Nat} {g:Gh} {x:TV},hN (G.map (·.1))=true→G[i]?=some (k,g)→xs[i]?=some x→dn G xs k=(x,g)
 | (j,g) :: G,x :: xs,0,k,_,_,_,h1,h2=>by
  cases h1;cases h2
  have:Nat.beq j j=true:=by simp
  simp only [dn,this,ao]
 | (j,g) :: G,x :: xs,i+1,k,_,_,hd,h1,h2=>by
  simp only [aP,hN,ae,aw] at hd
  have hm:k∈G.map (·.1):=aS.2 ⟨_,az (by simpa using h1),rfl⟩
  have:=hd.1 k hm
  simp only [Bool.not_eq_true'] at this
  simp only [dn,this,af]
  exact kM hd.2 (by simpa using h1) (by simpa using h2)
 | [],_,_,_,_,_,_,h,_=>by simp at h
 | _ :: _,[],_,_,_,_,_,_,h=>by simp at h
theorem kR {ts us:List (Nat × Nat)} {p:Nat × Nat} (h:p∈us.filter fun u=>(gr u.1 ts).isNone):p∈us:=(List.mem_filter.1 h).1
theorem bV.n6 {R:Reach} {w:World}:∀{ts:List (Nat × Nat)} {xs:List TV} {ys:List Value},bV R w xs ys→bV R w (n6 ts xs) ys
 | [],_,_,h=>h
 | t :: ts,xs,ys,h=>by
  simp only [Go.Eng.n6,List.foldl_cons]
  exact bV.n6 (ts:=ts) (h.set fun y _ => .pt y)
section
variable {nt:Nat} {R R':Reach} {w:World} {b9:Nat→Prop} {τ:Nat→Value} {S S1:St} {G:GL} {ρ:List (Nat × Option Nat)}
def Fact (nt:Nat) (w:World) (τ:Nat→Value) (S:St) (ρ:List (Nat × Option Nat)) (W:List (Nat × Cell)) (R:Reach) (p:Nat × Gh) (x:TV):Prop :=
 match p.2 with
 | .no=>p.1<nt∧Rep R w x (τ p.1)
 | .cM _=>p.1<nt∧x = .pt∧((∃j,S p.1=(.pt,.cM j))∨∃t,S p.1=(.nl t,.no))
 | .ptr m o=>p.1<nt∧x = .pt∧S p.1=(.pt,.ptr m o)
 | .cl ts=>nt≤p.1∧∃cs us b ys e zs,S p.1=(.ag cs,.cl us)∧τ p.1 = .pointer (some ⟨b,0,none⟩)∧w.heap[b]?=some (.cells ⟨ys⟩ e (0,0))∧x = .ag zs∧bV R w zs ys∧bV R w cs ys∧(∀t∈us,ys[t.1]?=some (τ t.2))∧∀t∈ts,(gr t.1 us).isSome=true∨∃y,cs[t.1]?=some (.nl y)
 | .pv=>nt≤p.1∧((∃j,ft ρ p.1=some j∧S j=(x,.pv))∨(ft ρ p.1=none∧∃t,x = .sl t []))
 | .lv=>nt≤p.1∧((∃j,ft ρ p.1=some j∧(S j=(x,.lv)∨(S j=(x,.pv)∧(j,(x,.lv))∈W)))∨(ft ρ p.1=none∧∃t,x = .sl t []))
 | _=>False
theorem Fact.mono {W W':List (Nat × Cell)} {p:Nat × Gh} {x:TV} (h:Fact nt w τ S ρ W R p x) (k:cD R w R' w) (hw:∀q∈W,q∈W'):Fact nt w τ S ρ W' R' p x:=by
 unfold Fact at h ⊢
 split at h
 ·exact ⟨h.1,h.2.mono k⟩
 ·exact h
 ·exact h
 ·obtain ⟨h0,cs,us,b,ys,e,zs,h1,h2,h3,h4,h5,h6,h7,h8⟩:=h
  exact ⟨h0,cs,us,b,ys,e,zs,h1,h2,h3,h4,h5.mono k,h6.mono k,h7,h8⟩
 ·exact h
 ·refine ⟨h.1,h.2.imp (fun ⟨j,a,b⟩=>⟨j,a,b.imp id fun ⟨c,d⟩=>⟨c,hw _ d⟩⟩) id⟩
 ·exact h.elim
def Cb (nt:Nat) (ws:List (Nat × Cell)):Prop:=∀p∈ws,p.2.2 = .lv
theorem sa {V:St} {c:Cell} {x:TV} {ws:List (Nat × Cell)} (h:tq V c=some (x,ws)):Cb nt ws:=by
 intro p hp
 unfold tq at h
 split at h
 ·split at h
  ·cases h;simp only [List.mem_singleton] at hp;subst hp;rfl
  ·cases h;cases hp
  ·obtain ⟨_,h⟩:=br.1 h;cases h;cases hp
  ·cases h
 ·cases h;cases hp
 ·cases h
theorem kQ {V:St} {o n:Nat}:∀{ts:List (Nat × Nat)} {cs ds:List TV} {ws:List (Nat × Cell)},iC V o n ts cs=some (ds,ws)→Cb nt ws
 | [],_,_,_,h=>by cases h;intro p hp;cases hp
 | (c,k) :: ts,cs,ds,ws,h=>by
  simp only [iC] at h
  split at h
  ·rename_i pC rz h1
   cases hb:(Nat.ble o c&&Nat.blt c (o+n)) with
   | true =>
    rw [hb,ao] at h
    split at h
    ·rename_i h2
     cases h
     intro p hp
     rcases List.mem_append.1 hp with hp | hp
     ·exact sa (nt:=nt) h2 p hp
     ·exact kQ h1 p hp
    ·cases h
   | false=>rw [hb,af] at h;cases h;exact kQ h1
  ·cases h
theorem A3 {V:St} {c:Cell} {x:TV} {ws:List (Nat × Cell)} (h:pr V c=some (x,ws)):Cb nt ws:=by
 unfold pr at h
 split at h
 ·split at h
  ·rename_i hf;cases h;exact kQ hf
  ·cases h
 ·exact sa h
theorem xP (h:Core nt R w b9 τ S1) (hV:Lq S S1) (hS:∀k,k<nt→cp R w τ (S k).1 (S k).2 (τ k)∧∀m∈(S k).2.bN,nt≤m) (hj:∀k j,ft ρ k=some j→nt≤k→nt≤j) {p:Nat × Gh} {x:TV} {ws:List (Nat × Cell)} (he:pS nt S G ρ p=some (x,ws)) :
  ∃R',Core nt R' w b9 τ (cJ S1 ws)∧Fz b9 R w R'∧Fact nt w τ S ρ ws R' p x∧Lq S (cJ S1 ws)∧Cb nt ws:=by
 obtain ⟨k,g⟩:=p
 have Av:Cb nt []:=fun p hp=>by cases hp
 unfold pS at he
 unfold Fact
 simp only at he ⊢
 cases g <;> simp only at he ⊢ <;> try (cases he;done)
 case no =>
  obtain ⟨h1,h2⟩:=br.1 he
  have hk:k<nt:=Nat.le_of_ble_eq_true h1
  obtain ⟨a,b⟩:=hS k hk
  obtain ⟨R',k1,k2,k3,k4⟩:=pq h hV a b h2
  exact ⟨R',k1,k2,⟨hk,k3⟩,k4,A3 h2⟩
 case cM i =>
  obtain ⟨h1,h2⟩:=br.1 he
  have hk:k<nt:=Nat.le_of_ble_eq_true h1
  split at h2 <;> cases h2
  ·exact ⟨R,h,Fz.refl _ _ _,⟨hk,rfl,.inl ⟨_,by assumption⟩⟩,hV,Av⟩
  ·exact ⟨R,h,Fz.refl _ _ _,⟨hk,rfl,.inr ⟨_,by assumption⟩⟩,hV,Av⟩
 case ptr m o =>
  obtain ⟨h1,h2⟩:=br.1 he
  have hk:k<nt:=Nat.le_of_ble_eq_true h1
  split at h2
  ·rename_i e
   obtain ⟨h3,h4⟩:=br.1 h2
   cases h4
   simp only [ae] at h3
   rw [aj h3.1,aj h3.2] at e
   exact ⟨R,h,Fz.refl _ _ _,⟨hk,rfl,e⟩,hV,Av⟩
  ·cases h2
 case cl ts =>
  obtain ⟨h1,h2⟩:=br.1 he
  have hk:nt≤k:=Nat.le_of_ble_eq_true h1
  split at h2
  ·rename_i cs us e
   obtain ⟨h3,h4⟩:=br.1 h2
   split at h4
   ·rename_i pC rz hf
    cases h4
    have e1:S1 k=(.ag cs,.cl us):=by
     rcases hV k with e' | e' | ⟨e',_⟩
     ·rw [←e',e]
     ·rw [e] at e';cases e'
     ·rw [e] at e';cases e'
    have hK:=h.key k
    rw [e1] at hK
    obtain ⟨b,ys,el,xs,a1,a2,a3,a4,a5,a6⟩:=hK
    cases a3
    obtain ⟨R',f1,f2,f3,f4,_⟩:=hM h hV a4 (fun t ht=>⟨by
     have:=h.inv k t.2
     rw [e1] at this
     exact (this (List.mem_map_of_mem (f:=(·.2)) (kR ht))).1,a5 t (kR ht)⟩) hf
    refine ⟨R',f1,f2,⟨hk,cs,us,b,ys,el,_,e,a1,a2,rfl,bV.n6 (iN f3),a4.mono f2.1,a5,fun t ht=>?_⟩,f4,kQ hf⟩
    have:=aw.1 h3 t ht
    rcases Bool.or_eq_true _ _ ▸ this with h | h
    ·exact .inl h
    ·right
     unfold CA at h
     split at h
     ·exact ⟨_,by assumption⟩
     ·cases h
   ·cases h4
  ·cases h2
 case pv =>
  obtain ⟨h1,h2⟩:=br.1 he
  have hk:nt≤k:=Nat.le_of_ble_eq_true h1
  split at h2
  ·rename_i j lX
   split at h2 <;> cases h2
   exact ⟨R,h,Fz.refl _ _ _,⟨hk,.inl ⟨j,lX,by assumption⟩⟩,hV,Av⟩
  ·rename_i lX
   rw [aG] at h2
   obtain ⟨t,_,h2⟩:=h2
   cases h2
   exact ⟨R,h,Fz.refl _ _ _,⟨hk,.inr ⟨lX,t,rfl⟩⟩,hV,Av⟩
 case lv =>
  obtain ⟨h1,h2⟩:=br.1 he
  have hk:nt≤k:=Nat.le_of_ble_eq_true h1
  split at h2
  ·rename_i j lX
   have HC:=hj k j lX hk
   split at h2 <;> cases h2
   ·rename_i e
    have hf:tq S (.pt,.cM j)=some (x,[(j,(x,.lv))]):=by simp only [tq,e]
    obtain ⟨R',k1,k2,_,k4,_,_⟩:=r9 h hV HC hf
    exact ⟨R',k1,k2,⟨hk,.inl ⟨j,lX,.inr ⟨e,List.mem_singleton.2 rfl⟩⟩⟩,k4,sa hf⟩
   ·exact ⟨R,h,Fz.refl _ _ _,⟨hk,.inl ⟨j,lX,.inl (by assumption)⟩⟩,hV,Av⟩
  ·rename_i lX
   rw [aG] at h2
   obtain ⟨t,_,h2⟩:=h2
   cases h2
   exact ⟨R,h,Fz.refl _ _ _,⟨hk,.inr ⟨lX,t,rfl⟩⟩,hV,Av⟩
theorem pQ (C3:Core nt R w b9 τ S) (hj:∀k j,ft ρ k=some j→nt≤k→nt≤j):∀{l:GL} {xs:List TV} {ws:List (Nat × Cell)},lI nt S G ρ l=some (xs,ws) →
  ∃R',Core nt R' w b9 τ (cJ S ws)∧Fz b9 R w R'∧xs.length=l.length∧(∀(i:Nat) (p:Nat × Gh) (x:TV),l[i]?=some p→xs[i]?=some x→Fact nt w τ S ρ ws R' p x)∧Lq S (cJ S ws)∧Cb nt ws
 | [],_,_,h=>by cases h;exact ⟨R,C3,Fz.refl _ _ _,rfl,by simp,(fun k => .inl rfl),fun p hp=>by cases hp⟩
 | p :: l,xs,ws,h=>by
  simp only [lI] at h
  split at h
  ·rename_i x rz h1
   split at h
   ·rename_i xC us h2
    cases h
    obtain ⟨R1,k1,k2,k3,k4,k5,k6⟩:=pQ C3 hj h2
    obtain ⟨R2,m1,m2,m3,m4,m5⟩:=xP k1 k5 (fun k hk=>by
     have hs:=C3.slt k hk
     have hK:=C3.key k
     rw [fi.slot hs] at hK
     exact ⟨hK.cj k2.1 fun _ _=>rfl,fun m hm=>(C3.inv k m hm).1⟩) hj h1
    rw [eI]
    refine ⟨R2,m1,k2.trans m2,by simp [k3],fun i p' x' hi hx=>?_,m4,fun q hq=>?_⟩
    ·cases i with
     | zero=>cases hi;cases hx;exact m3.mono (cD.refl _ _) fun q hq=>List.mem_append_left _ hq
     | succ i=>exact (k4 i p' x' (by simpa using hi) (by simpa using hx)).mono m2.1 fun q hq=>List.mem_append_right _ hq
    ·rcases List.mem_append.1 hq with hq | hq
     ·exact m5 q hq
     ·exact k6 q hq
   ·cases h
  ·cases h
theorem n5:∀{ws:List (Nat × Cell)} {S:St} {k:Nat} {c:Cell},(k,c)∈ws→∃p∈ws,p.1=k∧cJ S ws k=p.2
 | (j,x) :: ws,S,k,c,h=>by
  simp only [cJ]
  by_cases e:k=j
  ·subst e;exact ⟨_,List.mem_cons_self ..,rfl,by rw [bG]⟩
  ·rw [bO _ _ e]
   rcases aC.1 h with h | h
   ·cases h;exact (e rfl).elim
   ·obtain ⟨p,h1,h2,h3⟩:=n5 h (S:=S)
    exact ⟨p,List.mem_cons_of_mem _ h1,h2,h3⟩
def gm (nt:Nat) (τ:Nat→Value) (ρ:List (Nat × Option Nat)) (k:Nat):Value:=if k<nt then τ k else match ft ρ k with | some j=>τ j | none => .slice none 0 0
end
theorem lp {k:Nat} {r:Option Nat}:∀{ρ:List (Nat × Option Nat)},jB k ρ=some r→(k,r)∈ρ
 | (i,j) :: ρ,h=>by
  simp only [jB] at h
  cases hb:Nat.beq i k with
  | true=>rw [hb] at h;cases h;rw [aj hb];exact List.mem_cons_self ..
  | false=>rw [hb] at h;exact List.mem_cons_of_mem _ (lp h)
theorem qi {S:St} {k i:Nat}:∀{G:GL},(k,.cM i)∈G→(∀j,S k=(.pt,.cM j)→(i,some j)∈jv S G)∧∀t,S k=(.nl t,.no)→(i,none)∈jv S G
 | (k',g) :: G,h=>by
  rcases aC.1 h with h | h
  ·cases h
   refine ⟨fun j hj=>?_,fun t hj=>?_⟩ <;> simp only [jv,hj] <;> exact List.mem_append_left _ (List.mem_singleton.2 rfl)
  ·obtain ⟨h1,h2⟩:=qi h (S:=S)
   cases g <;> first | exact ⟨fun j hj=>List.mem_append_right _ (h1 j hj),fun t hj=>List.mem_append_right _ (h2 t hj)⟩ | exact ⟨h1,h2⟩
theorem sS {S:St} {m:Nat} {ts us:List (Nat × Nat)} {cs:List TV} (hm:S m=(.ag cs,.cl us)):∀{G:GL},(m,.cl ts)∈G→∀t∈ts,(∀j,gr t.1 us=some j→(t.2,some j)∈jv S G)∧(gr t.1 us=none→∀y,cs[t.1]?=some (.nl y)→(t.2,none)∈jv S G)
 | (k',g) :: G,h,t,ht=>by
  rcases aC.1 h with h | h
  ·cases h
   refine ⟨fun j hj=>?_,fun hj y hy=>?_⟩ <;> simp only [jv,hm] <;> refine List.mem_append_left _ (List.mem_filterMap.2 ⟨t,ht,?_⟩)
   ·simp only [hj]
   ·simp only [hj,hy]
  ·obtain ⟨h1,h2⟩:=sS hm h t ht
   cases g <;> first | exact ⟨fun j hj=>List.mem_append_right _ (h1 j hj),fun a b c=>List.mem_append_right _ (h2 a b c)⟩ | exact ⟨h1,h2⟩
theorem kG {S:St} {i j:Nat}:∀{G:GL},(i,some j)∈jv S G→∃q,j∈(S q).2.bN
 | (k',g) :: G,h=>by
  cases g <;> first | exact kG (G:=G) h | skip
  ·simp only [jv] at h
   rcases List.mem_append.1 h with h | h
   ·refine ⟨k',?_⟩
    split at h
    ·rename_i e
     simp only [List.mem_singleton,Prod.mk.injEq,aA] at h
     rw [e,h.2];exact List.mem_singleton.2 rfl
    ·simp at h
    ·cases h
   ·exact kG h
  ·rename_i ts
   simp only [jv] at h
   rcases List.mem_append.1 h with h | h
   ·refine ⟨k',?_⟩
    split at h
    ·rename_i cs us e
     obtain ⟨t,_,ht⟩:=List.mem_filterMap.1 h
     split at ht
     ·rename_i hf
      simp only [aA,Prod.mk.injEq] at ht
      rw [e,←ht.2]
      exact aS.2 ⟨_,gi hf,rfl⟩
     ·simp at ht
     ·cases ht
    ·cases h
   ·exact kG h
theorem qU {A:Type} {f:A→Option Nat}:∀{l:List A} {i j k:Nat} {x y:A},hN (l.filterMap f)=true→l[i]?=some x→f x=some k→l[j]?=some y→f y=some k→i=j
 | a :: l,0,0,_,_,_,_,_,_,_,_=>rfl
 | a :: l,0,j+1,k,x,y,hd,h1,h2,h3,h4=>by
  have e:a=x:=by simpa using h1
  subst e
  rw [List.filterMap_cons,h2] at hd
  simp only [hN,ae,aw] at hd
  have:=hd.1 k (List.mem_filterMap.2 ⟨y,az (by simpa using h3),h4⟩)
  simp at this
 | a :: l,i+1,0,k,x,y,hd,h1,h2,h3,h4=>by
  have e:a=y:=by simpa using h3
  subst e
  rw [List.filterMap_cons,h4] at hd
  simp only [hN,ae,aw] at hd
  have:=hd.1 k (List.mem_filterMap.2 ⟨x,az (by simpa using h1),h2⟩)
  simp at this
 | a :: l,i+1,j+1,k,x,y,hd,h1,h2,h3,h4=>by
  have nf:hN (l.filterMap f)=true:=by
   rw [List.filterMap_cons] at hd
   split at hd
   ·exact hd
   ·simp only [hN,ae] at hd;exact hd.2
  exact congrArg (· + 1) (qU nf (by simpa using h1) h2 (by simpa using h3) h4)
 | [],_,_,_,_,_,_,h,_,_,_=>by simp at h
section
variable {C:Ctx} {S:St} {a:Act} {w:World} {R:Reach} {τ:Nat→Value} {G:GL} {xs:List TV}
theorem ua (h:cC C S a w R τ) (he:lj C.nt G S=some xs):∃R',cC C (dn G xs) a w R' (gm C.nt τ (jv S G))∧cD R w R' w:=by
 unfold lj at he
 split at he
 ·rename_i xC ws hv
  obtain ⟨om,he⟩:=br.1 he
  cases he
  generalize Ey:jv S G=ρ at *
  simp only [DJ,ae] at om
  obtain ⟨⟨⟨⟨o1,o2⟩,o3⟩,o4⟩,o5⟩:=om
  -- the names
  have cons:∀i r,(i,r)∈ρ→jB i ρ=some r∧(i<1000000∨r=some i)∧C.nt≤i:=fun i r hi=>by
   have:=aw.1 o2 (i,r) hi
   simp only [ae,Bool.or_eq_true,aF] at this
   exact ⟨this.1.1,this.1.2.imp (fun h=>Nat.le_of_ble_eq_true h) id,Nat.le_of_ble_eq_true this.2⟩
  have EG:∀k j,ft ρ k=some j→C.nt≤k→C.nt≤j:=fun k j hk hn=>by
   unfold ft at hk
   cases hl:jB k ρ with
   | none=>rw [hl] at hk;cases hk;exact hn
   | some r =>
    rw [hl] at hk
    simp only [Option.getD_some] at hk
    subst hk
    have hm:=lp hl
    rw [←Ey] at hm
    obtain ⟨q,hq⟩:=kG hm
    exact (h.core.inv q j hq).1
  obtain ⟨R',k1,k2,k3,k4,k5,k6⟩:=pQ h.core EG hv
  refine ⟨R',⟨h.size,h.defers,?_,fun t ht=>?_,⟨h.io.1,fun k hk=>?_⟩,h.ext.reach k2.1 k2.2,h.gl.cj k2.1⟩,k2.1⟩
  ·have len:xs.length=G.length:=k3
   have DF:∀i r,(i,r)∈ρ→gm C.nt τ ρ i=match r with | some j=>τ j | none => .slice none 0 0:=fun i r hi=>by
    obtain ⟨c1,_,c2⟩:=cons i r hi
    unfold gm ft
    rw [al (by omega),c1]
    cases r <;> rfl
   have Em:∀k,C.nt≤k→jB k ρ=none→gm C.nt τ ρ k=τ k:=fun k hk hl=>by
    unfold gm ft;rw [al (by omega),hl];rfl
   have vM:∀k,k<C.nt→gm C.nt τ ρ k=τ k:=fun k hk=>by unfold gm;rw [aq hk]
   have DG:∀k j,C.nt≤k→ft ρ k=some j→gm C.nt τ ρ k=τ j:=fun k j hk hj=>by unfold gm;rw [al (by omega),hj]
   have yd:∀k,C.nt≤k→ft ρ k=none→gm C.nt τ ρ k = .slice none 0 0:=fun k hk hj=>by unfold gm;rw [al (by omega),hj]
   have DK:∀p∈G,_:=aw.1 o5
   -- Am in the state where all is read that is to be read
   have DH:∀k j x,(k,.pv)∈G→ft ρ k=some j→S j=(x,.pv)→cJ S ws j=(x,.pv):=fun k j x hm hn hs=>by
    have:=DK _ hm
    simp only [hn] at this
    rw [dW (pI this),hs]
   have DM:∀j x,(S j=(x,.lv)∨(S j=(x,.pv)∧(j,(x,.lv))∈ws))→cJ S ws j=(x,.lv):=fun j x hs=>by
    rcases hs with hs | ⟨hs,hm⟩
    ·rcases k5 j with e | e | ⟨e,_⟩
     ·rw [←e,hs]
     ·rw [hs] at e;cases e
     ·rw [hs] at e;cases e
    ·obtain ⟨p,hp,_,DT⟩:=n5 (S:=S) hm
     rcases k5 j with e | e | ⟨_,e⟩
     ·have:=k6 p hp
      rw [←DT,←e,hs] at this;cases this
     ·rw [hs] at e;cases e
     ·rw [e,hs]
   have D2:∀k cs us,S k=(.ag cs,.cl us)→cJ S ws k=(.ag cs,.cl us):=fun k cs us hs=>by
    rcases k5 k with e | e | ⟨e,_⟩
    ·rw [←e,hs]
    ·rw [hs] at e;cases e
    ·rw [hs] at e;cases e
   have key:∀k i g x,G[i]?=some (k,g)→xs[i]?=some x→fi R' w (gm C.nt τ ρ) x g (gm C.nt τ ρ k):=fun k i g x hG hx=>by
    have hm:=az hG
    have hf:=k4 i (k,g) x hG hx
    unfold Fact at hf
    cases g <;> simp only at hf <;> try (exact hf.elim)
    case no =>
     rw [vM k hf.1];exact cp.no hf.2
    case cM i' =>
     obtain ⟨hk,rfl,hf⟩:=hf
     have hK:=h.core.key k
     rw [vM k hk]
     rw [fi.slot (h.core.slt k hk)] at hK
     obtain ⟨n1,n2⟩:=qi (S:=S) hm
     rw [Ey] at n1 n2
     rcases hf with ⟨j,hj⟩ | ⟨t,hj⟩
     ·rw [hj] at hK
      exact ⟨by rw [DF _ _ (n1 j hj)];exact hK.1,hK.2⟩
     ·rw [hj] at hK
      have hv:τ k = .slice none 0 0:=by
       have:Rep R w (.nl t) (τ k):=fg.rep hK
       generalize τ k=v at *
       cases this with
       | sc h=>cases h
       | nl=>rfl
      exact ⟨by rw [DF _ _ (n2 t hj)];exact hv,by rw [hv];rfl⟩
    case ptr m o =>
     obtain ⟨hk,rfl,hj⟩:=hf
     have hK:=h.core.key k
     rw [vM k hk]
     rw [fi.slot (h.core.slt k hk),hj] at hK
     have hi:=h.core.inv k m (by rw [hj];exact List.mem_singleton.2 rfl)
     have hl:=DK _ hm
     simp only [Option.isNone_iff_eq_none] at hl
     obtain ⟨b,b1,b2⟩:∃b,τ m = .pointer (some ⟨b,0,none⟩)∧τ k = .pointer (some ⟨b,o,none⟩):=hK
     exact ⟨b,by rw [Em m hi.1 hl];exact b1,b2⟩
    case cl ts =>
     obtain ⟨hk,cs,us,b,ys,e,zs,a1,a2,a3,rfl,a5,a6,a7,a8⟩:=hf
     have hl:=DK _ hm
     simp only [Option.isNone_iff_eq_none] at hl
     have hK:=k1.key k
     rw [D2 k cs us a1] at hK
     obtain ⟨b',_,_,_,c1,_,_,_,_,c2⟩:=hK
     rw [a2] at c1;cases c1
     refine ⟨b,ys,e,zs,by rw [Em k hk hl];exact a2,a3,rfl,a5,fun t ht=>?_,c2⟩
     obtain ⟨n1,n2⟩:=sS a1 hm t ht
     rw [Ey] at n1 n2
     cases BV:gr t.1 us with
     | some j =>
      rw [DF _ _ (n1 j BV)]
      exact a7 _ (gi BV)
     | none =>
      obtain ⟨y,hy⟩:=(a8 t ht).resolve_left (by rw [BV];simp)
      rw [DF _ _ (n2 BV y hy)]
      obtain ⟨v,hv,_,hr⟩:=a6.get _ _ hy
      rw [hv]
      cases hr with
      | sc h=>cases h
      | nl=>rfl
    case pv =>
     obtain ⟨hk,⟨j,hj,hs⟩ | ⟨hj,t,rfl⟩⟩:=hf
     ·have hK:=k1.key j
      rw [DH k j x hm hj hs] at hK
      rw [DG k j hk hj];exact hK
     ·rw [yd k hk hj];exact ⟨t,[],rfl,.inl ⟨rfl,rfl⟩⟩
    case lv =>
     obtain ⟨hk,⟨j,hj,hs⟩ | ⟨hj,t,rfl⟩⟩:=hf
     ·have hK:=k1.key j
      rw [DM j x hs] at hK
      rw [DG k j hk hj];exact hK
     ·rw [yd k hk hj];exact ⟨t,[],rfl,.inl ⟨rfl,rfl⟩⟩
   have owner:∀k g,dq (gm C.nt τ ρ) (dn G xs) k=some g→∃(i:Nat) (g0:Gh) (j:Nat),G[i]?=some (k,g0)∧g0.own=true∧ft ρ k=some j∧dq τ (cJ S ws) j=some g∧(cJ S ws j).2.s9=false:=fun k g hb=>by
    obtain ⟨ho,hb⟩:=cW hb
    rcases gT (G:=G) (xs:=xs) k with e | ⟨i,g0,x,hG,hx,e⟩
    ·rw [e] at ho;cases ho
    ·rw [e] at ho
     have hm:=az hG
     have hf:=k4 i (k,g0) x hG hx
     unfold Fact at hf
     cases g0 <;> simp only at hf <;> try (first | exact hf.elim | (cases ho;done))
     case cl ts =>
      obtain ⟨hk,cs,us,b,ys,e,zs,a1,a2,a3,rfl,a5,a6,a7,a8⟩:=hf
      have hl:=DK _ hm
      simp only [Option.isNone_iff_eq_none] at hl
      have hn:ft ρ k=some k:=by unfold ft;rw [hl];rfl
      rw [Em k hk hl] at hb
      exact ⟨i,_,k,hG,rfl,hn,dM (by rw [D2 k cs us a1];rfl) (by rw [D2 k cs us a1];rfl) hb,by rw [D2 k cs us a1];rfl⟩
     case pv =>
      obtain ⟨hk,⟨j,hj,hs⟩ | ⟨hj,t,rfl⟩⟩:=hf
      ·rw [DG k j hk hj] at hb
       exact ⟨i,_,j,hG,rfl,hj,dM (by rw [DH k j x hm hj hs];rfl) (by rw [DH k j x hm hj hs];rfl) hb,by rw [DH k j x hm hj hs];rfl⟩
      ·rw [yd k hk hj] at hb;cases hb
     case lv =>
      obtain ⟨hk,⟨j,hj,hs⟩ | ⟨hj,t,rfl⟩⟩:=hf
      ·rw [DG k j hk hj] at hb
       exact ⟨i,_,j,hG,rfl,hj,dM (by rw [DM j x hs];rfl) (by rw [DM j x hs];rfl) hb,by rw [DM j x hs];rfl⟩
      ·rw [yd k hk hj] at hb;cases hb
   refine ⟨fun k=>?_,fun k k' g hb fT=>?_,fun k g hb=>?_,fun j k hk=>?_,k1.kj,fun k hk=>?_,fun k d hk=>?_⟩
   ·rcases gT (G:=G) (xs:=xs) k with e | ⟨i,g,x,hG,hx,e⟩
    ·rw [e];exact cp.no (τ:=gm C.nt τ ρ) (.dead _)
    ·rw [e];exact key k i g x hG hx
   ·obtain ⟨i,g0,j,e1,e2,e3,e4,e5⟩:=owner k g hb
    obtain ⟨i',IM,j',f1,f2,f3,f4,f5⟩:=owner k' g fT
    have:=k1.kh e4 f4
    subst this
    have:=qU o3 e1 (by simp only [e2,ao];exact e3) f1 (by simp only [f2,ao];exact f3)
    subst this
    rw [e1] at f1;cases f1;rfl
   ·obtain ⟨i,g0,j,e1,e2,e3,e4,e5⟩:=owner k g hb
    exact k1.b9 j g e4
   ·rcases gT (G:=G) (xs:=xs) j with e | ⟨i,g,x,hG,hx,e⟩
    ·rw [e] at hk;cases hk
    ·rw [e] at hk
     have:=aw.1 (aw.1 o4 _ (az hG)) k hk
     obtain ⟨q,hq,zC⟩:=List.any_eq_true.1 this
     simp only [ae] at zC
     obtain ⟨zC,EJ⟩:=zC
     obtain ⟨i',rF⟩:=List.mem_iff_getElem?.1 hq
     have eL:i'<xs.length:=by rw [len];exact (av.1 rF).1
     have pd:xs[i']?=some xs[i']:=ah eL
     have F4:=aj zC
     obtain ⟨q1,q2⟩:=q
     simp only at F4 EJ
     subst F4
     have hf:=k4 i' _ _ rF pd
     refine ⟨?_,?_⟩
     ·unfold Fact at hf
      cases q2 <;> simp only at hf <;> first | exact hf.1 | exact hf.elim | cases EJ
     ·rw [kM o1 rF pd];intro e;simp only at e;subst e;cases EJ
   ·rcases gT (G:=G) (xs:=xs) k with e | ⟨i,g,x,hG,hx,e⟩
    ·rw [e];rfl
    ·rw [e]
     have hf:=k4 i (k,g) x hG hx
     unfold Fact at hf
     cases g <;> simp only at hf <;> first | rfl | exact hf.elim | (exfalso;have:=hf.1;omega)
   ·rcases gT (G:=G) (xs:=xs) k with e | ⟨i,g,x,hG,hx,e⟩
    ·rw [e] at hk;cases hk
    ·rw [e] at hk
     simp only at hk
     subst hk
     have hf:=k4 i _ x hG hx
     exact hf.elim
  ·unfold gm;rw [aq ht];exact h.tmps t ht
  ·unfold gm
   have:=h.io.1
   rw [al (by omega)]
   unfold ft
   cases hl:jB k ρ with
   | none=>simp only [Option.getD_none];exact h.io.2 k hk
   | some r =>
    have:=(cons k r (lp hl)).2.1.resolve_left (by omega)
    subst this
    simp only [Option.getD_some];exact h.io.2 k hk
 ·cases he
theorem mJ:∀{l:List Nat} {S:St},cC C S a w R τ→cC C (qk l S) a w R τ
 | [],_,h=>h
 | k :: r,S,h=>by
  unfold qk
  split
  ·rename_i x d hk;exact mJ (h.recover hk)
  ·exact mJ h
theorem jt (h:cC C S a w R τ) (he:eY C.nt G S=some xs):∃R' τ',cC C (dn G xs) a w R' τ'∧cD R w R' w:=by
 obtain ⟨R',h1,h2⟩:=ua (mJ h) he
 exact ⟨R',_,h1,h2⟩
end
end Go.Eng
namespace Go.Eng
section
variable {R:Type} (P:Program) (E:cz) (nt:Nat)
theorem wN (c:Code):vk (R:=R) P E nt c=wM P E nt c:=by
 induction c with
 | seq a b rX pM =>
  show vK nt (vk P E nt a) (vk P E nt b) (vk P E nt b).1=vK nt (wM P E nt a) (wM P E nt b) (hZ P E nt b)
  rw [←rX,←pM];rfl
 | cond x a b rX pM =>
  show tC E nt x (vk P E nt a) (vk P E nt b)=tC E nt x (wM P E nt a) (wM P E nt b)
  rw [rX,pM]
 | block id a ih =>
  show (di fun h S K=>(vk P E nt a).1 h.s1 S (gH id K))=(di fun h S K=>(wM P E nt a).1 h.s1 S (gH id K):nP R)
  rw [ih]
 | scope a ih =>
  show oN nt (vk P E nt a) (vk P E nt a).2=oN nt (wM P E nt a) (lZ P E nt a)
  rw [←ih];rfl
 | _=>rfl
theorem tw (c:Code):hZ (R:=R) P E nt c=ev P E nt c:=by show (vk P E nt c).1=(wM P E nt c).1;rw [wN]
end
section
variable {R:Type} {nt:Nat}
abbrev kY:=List (Option (MX × St))
def nQ (l:kY) (K:MX × St→Option R) (r:R):Prop:=∀q∈l,∃p,q=some p∧K p=some r
def xR (K:dh R) (q:MX × St):Option R:=K q.1 q.2
def gP (g:dh R→Option R):Prop:=∃l:kY,∀(K:dh R) (r:R),g K=some r ↔ nQ l (xR K) r
theorem gP.nil {g:dh R→Option R} (h:∀K,g K=none):gP g:=⟨[none],fun K r=>by rw [h];exact ⟨fun h=>(by cases h),fun h=>(by obtain ⟨p,e,_⟩:=h none (List.mem_singleton.2 rfl);cases e)⟩⟩
theorem gP.one {g:dh R→Option R} (e:MX) (S:St) (h:∀K,g K=K e S):gP g:=⟨[some (e,S)],fun K r=>by rw [h];exact ⟨fun h q hq=>⟨_,List.mem_singleton.1 hq,h⟩,fun h=>by obtain ⟨p,e,h⟩:=h _ (List.mem_singleton.2 rfl);cases e;exact h⟩⟩
theorem lE {x y:Option R} {r:R}:both x y=some r ↔ x=some r∧y=some r:=by
 unfold both
 split
 ·rename_i e;rw [←e];simp
 ·rename_i e;simp only [reduceCtorEq,false_iff];rintro ⟨rfl,rfl⟩;exact e rfl
theorem uZ (x:Option R):both x x=x:=by simp [both]
theorem gP.bind {l:kY} {g:dh R→Option R} {F:dh R→MX × St→Option R} (hF:∀q,gP fun K=>F K q) (h:∀K r,g K=some r ↔ nQ l (F K) r):gP g:=by
 have key:∀l:kY,∃l':kY,∀K r,nQ l (F K) r ↔ nQ l' (xR K) r:=by
  intro l
  induction l with
  | nil=>exact ⟨[],fun K r=>by simp [nQ]⟩
  | cons q t ih =>
   obtain ⟨lt,ht⟩:=ih
   cases q with
   | none=>exact ⟨[none],fun K r=>⟨fun h=>(by obtain ⟨p,e,_⟩:=h none (List.mem_cons_self ..);cases e),fun h=>(by obtain ⟨p,e,_⟩:=h none (List.mem_singleton.2 rfl);cases e)⟩⟩
   | some q =>
    obtain ⟨lq,hq⟩:=hF q
    refine ⟨lq++lt,fun K r=>?_⟩
    have h1:=hq K r
    have h2:=ht K r
    constructor
    ·intro ha x hx
     rcases List.mem_append.1 hx with hx | hx
     ·obtain ⟨p,e,hp⟩:=ha _ (List.mem_cons_self ..)
      cases e
      exact h1.1 hp x hx
     ·exact h2.1 (fun y hy=>ha y (List.mem_cons_of_mem _ hy)) x hx
    ·intro ha x hx
     rcases aC.1 hx with rfl | hx
     ·exact ⟨q,rfl,h1.2 fun y hy=>ha y (List.mem_append_left _ hy)⟩
     ·exact h2.2 (fun y hy=>ha y (List.mem_append_right _ hy)) x hx
 obtain ⟨l',hl⟩:=key l
 exact ⟨l',fun K r=>(h K r).trans (hl K r)⟩
def oJ (f:St→dh R→Option R):Prop:=∀S,gP (f S)
theorem mS {g:Nat→Option R} (hm:∀n r,g n=some r→g (n+1)=some r) {r:R}:yr g=some r ↔ ∃n,g n=some r:=by
 have up:∀n k r,g n=some r→g (n+k)=some r:=by
  intro n k
  induction k with
  | zero=>exact fun r h=>h
  | succ k ih=>exact fun r h=>hm _ _ (ih r h)
 unfold yr
 constructor
 ·intro h
  split at h
  ·rename_i hx;exact ⟨_,h⟩
  ·cases h
 ·rintro ⟨n,hn⟩
  have hx:∃n r,g n=some r:=⟨n,r,hn⟩
  rw [dif_pos hx]
  obtain ⟨r',vf⟩:=hx.choose_spec
  rw [vf]
  have h1:=up _ n _ vf
  have h2:=up _ hx.choose _ hn
  rw [Nat.add_comm] at h2
  rw [h1] at h2
  exact h2
section
variable {ι:Type} {f:ι→dh R→Option R} {tr:MX→St→Option (Option ι)}
def kH (tr:MX→St→Option (Option ι)) (g:ι→Option R) (K:dh R) (q:MX × St):Option R :=
 match tr q.1 q.2 with
 | none=>K q.1 q.2
 | some none=>none
 | some (some j)=>g j
theorem ko {g g':ι→Option R} {K:dh R} {q:MX × St} {r:R} (h:∀j,g j=some r→g' j=some r) (e:kH tr g K q=some r):kH tr g' K q=some r:=by
 unfold kH at e ⊢
 split at e
 ·exact e
 ·cases e
 ·exact h _ e
theorem mq {K:dh R} {i:ι} {l:kY} (hp:∀(K:dh R) r,f i K=some r ↔ nQ l (xR K) r) (n:Nat) (r:R) :
  gZ f tr (n+1) i K=some r ↔ nQ l (kH tr (fun j=>gZ f tr n j K) K) r:=by
 rw [gZ,hp]
 rfl
theorem iQ (hf:∀i,gP (f i)) {K:dh R}:∀(n:Nat) (i:ι) (r:R),gZ f tr n i K=some r→gZ f tr (n+1) i K=some r
 | 0,_,_,h=>by cases h
 | n+1,i,r,h=>by
  obtain ⟨l,hp⟩:=hf i
  rw [mq hp] at h ⊢
  intro q hq
  obtain ⟨p,e,h1⟩:=h q hq
  exact ⟨p,e,ko (fun j hj=>iQ hf n j r hj) h1⟩
theorem mo (hf:∀i,gP (f i)) {K:dh R} {n:Nat} {i:ι} {r:R} (h:gZ f tr n i K=some r):∀m,gZ f tr (n+m) i K=some r
 | 0=>h
 | m+1=>iQ hf _ i r (mo hf h m)
theorem gU (hf:∀i,gP (f i)) (i:ι) (K:dh R) (r:R):uI f tr i K=some r ↔ ∃n,gZ f tr n i K=some r:=mS fun n r=>iQ hf n i r
theorem yj {x y:Option R} (h:∀r,x=some r ↔ y=some r):x=y:=by
 cases x with
 | none=>cases y with
  | none=>rfl
  | some b=>exact absurd ((h b).2 rfl) (by simp)
 | some a=>exact ((h a).1 rfl).symm
theorem oq (hf:∀i,gP (f i)) {K:dh R} {q:MX × St} {r:R}:xR (nh f tr K) q=some r ↔ ∃n,kH tr (fun j=>gZ f tr n j K) K q=some r:=by
 unfold xR nh kH
 cases tr q.1 q.2 with
 | none=>exact ⟨fun h=>⟨0,h⟩,fun ⟨_,h⟩=>h⟩
 | some j=>cases j with
  | none=>exact ⟨fun h=>(by cases h),fun ⟨_,h⟩=>(by cases h)⟩
  | some j=>exact gU hf j K r
theorem tn (hf:∀i,gP (f i)) (i:ι) (K:dh R):uI f tr i K=f i (nh f tr K):=by
 obtain ⟨l,hp⟩:=hf i
 refine yj fun r=>?_
 rw [gU hf,hp]
 constructor
 ·rintro ⟨n,hn⟩ q hq
  cases n with
  | zero=>cases hn
  | succ n =>
   obtain ⟨p,e,h1⟩:=(mq hp n r).1 hn q hq
   exact ⟨p,e,(oq hf).2 ⟨n,h1⟩⟩
 ·intro h
  have key:∀l:kY,(∀q∈l,∃p,q=some p∧xR (nh f tr K) p=some r)→∃n,nQ l (kH tr (fun j=>gZ f tr n j K) K) r:=by
   intro l
   induction l with
   | nil=>exact fun _=>⟨0,fun q hq=>by cases hq⟩
   | cons q t ih =>
    intro h
    obtain ⟨n,hn⟩:=ih fun x hx=>h x (List.mem_cons_of_mem _ hx)
    obtain ⟨p,e,h1⟩:=h q (List.mem_cons_self ..)
    obtain ⟨m,hm⟩:=(oq hf).1 h1
    refine ⟨n+m,fun x hx=>?_⟩
    rcases aC.1 hx with rfl | hx
    ·exact ⟨p,e,ko (fun j hj=>by rw [Nat.add_comm];exact mo hf hj n) hm⟩
    ·obtain ⟨p',e',h2⟩:=hn x hx
     exact ⟨p',e',ko (fun j hj=>mo hf hj m) h2⟩
  obtain ⟨n,hn⟩:=key l h
  exact ⟨n+1,(mq hp n r).2 hn⟩
noncomputable def gp (L:ι→kY) (tr:MX→St→Option (Option ι)):Nat→ι→kY
 | 0,_=>[none]
 | n+1,i=>(L i).flatMap fun q=>match q with
  | none=>[none]
  | some p=>match tr p.1 p.2 with
   | none=>[some p]
   | some none=>[none]
   | some (some j)=>gp L tr n j
theorem qL (hf:∀i,gP (f i)) (i:ι):gP (uI f tr i):=by
 let L:=fun i=>(hf i).choose
 have hL:∀i (K:dh R) r,f i K=some r ↔ nQ (L i) (xR K) r:=fun i=>(hf i).choose_spec
 have hI:∀n i (K:dh R) r,gZ f tr n i K=some r ↔ nQ (gp L tr n i) (xR K) r:=by
  intro n
  induction n with
  | zero=>exact fun i K r=>⟨fun h=>(by cases h),fun h=>by obtain ⟨p,e,_⟩:=h none (List.mem_singleton.2 rfl);cases e⟩
  | succ n ih =>
   intro i K r
   rw [mq (hL i)]
   constructor
   ·intro h q hq
    obtain ⟨x,hx,hq⟩:=List.mem_flatMap.1 hq
    obtain ⟨p,rfl,h1⟩:=h x hx
    simp only at hq
    unfold kH at h1
    cases e:tr p.1 p.2 with
    | none=>rw [e] at h1 hq;exact ⟨p,List.mem_singleton.1 hq,h1⟩
    | some j=>cases j with
     | none=>rw [e] at h1;cases h1
     | some j=>rw [e] at h1 hq;exact (ih j K r).1 h1 q hq
   ·intro h x hx
    have sub:∀q,q∈(match x with
      | none=>[none]
      | some p=>match tr p.1 p.2 with
       | none=>[some p]
       | some none=>[none]
       | some (some j)=>gp L tr n j:kY)→∃p,q=some p∧xR K p=some r:=fun q hq=>h q (List.mem_flatMap.2 ⟨x,hx,hq⟩)
    cases x with
    | none=>obtain ⟨p,e,_⟩:=sub none (List.mem_singleton.2 rfl);cases e
    | some p =>
     refine ⟨p,rfl,?_⟩
     simp only at sub
     unfold kH
     cases e:tr p.1 p.2 with
     | none=>rw [e] at sub;obtain ⟨p',e',h1⟩:=sub _ (List.mem_singleton.2 rfl);cases e';exact h1
     | some j=>cases j with
      | none=>rw [e] at sub;obtain ⟨p',e',_⟩:=sub _ (List.mem_singleton.2 rfl);cases e'
      | some j=>rw [e] at sub;exact (ih j K r).2 sub
 have stay:∀n i,none ∉ gp L tr n i→gp L tr (n+1) i=gp L tr n i:=by
  intro n
  induction n with
  | zero=>intro i h;exact absurd (List.mem_singleton.2 rfl) h
  | succ n ih =>
   intro i h
   rw [gp,gp]
   rw [gp] at h
   have:∀l:kY,none ∉ (l.flatMap fun q=>match q with
     | none=>[none]
     | some p=>match tr p.1 p.2 with
      | none=>[some p]
      | some none=>[none]
      | some (some j)=>gp L tr n j:kY)→(l.flatMap fun q=>match q with
     | none=>[none]
     | some p=>match tr p.1 p.2 with
      | none=>[some p]
      | some none=>[none]
      | some (some j)=>gp L tr (n+1) j:kY)=(l.flatMap fun q=>match q with
     | none=>[none]
     | some p=>match tr p.1 p.2 with
      | none=>[some p]
      | some none=>[none]
      | some (some j)=>gp L tr n j:kY):=by
    intro l
    induction l with
    | nil=>exact fun _=>rfl
    | cons q t Hi =>
     intro h
     rw [List.flatMap_cons,List.mem_append] at h
     rw [List.flatMap_cons,List.flatMap_cons,Hi fun hx=>h (.inr hx)]
     congr 1
     split
     ·rfl
     ·rename_i p
      simp only at h
      split
      ·rfl
      ·rfl
      ·rename_i j e
       rw [e] at h
       exact ih j fun hx=>h (.inl hx)
   exact this _ h
 by_cases hx:∃n,none ∉ gp L tr n i
 ·obtain ⟨n,hn⟩:=hx
  have G4:∀m,gp L tr (n+m) i=gp L tr n i:=by
   intro m
   induction m with
   | zero=>rfl
   | succ m ih=>rw [←ih];exact stay (n+m) i (by rw [ih];exact hn)
  refine ⟨gp L tr n i,fun K r=>?_⟩
  rw [gU hf,←hI]
  refine ⟨fun ⟨m,hm⟩=>?_,fun h=>⟨n,h⟩⟩
  have h1:=mo hf hm n
  rw [Nat.add_comm,hI,G4,←hI] at h1
  exact h1
 ·refine ⟨[none],fun K r=>?_⟩
  rw [gU hf]
  refine ⟨fun ⟨n,hn⟩=>?_,fun h=>by obtain ⟨p,e,_⟩:=h none (List.mem_singleton.2 rfl);cases e⟩
  have:none∈gp L tr n i:=Classical.byContradiction fun h=>hx ⟨n,h⟩
  obtain ⟨p,e,_⟩:=(hI n i K r).1 hn none this
  cases e
end
theorem mA {f:St→dh R→Option R} (hf:oJ f) (G:GL):∀xs,gP (Bw f G xs):=fun xs=>hf (dn G xs)
theorem vZ {f:St→dh R→Option R} (hf:oJ f) (G:GL) (xs:List TV) (K:dh R):sY nt f G xs K=f (dn G xs) (pJ nt f G K):=tn (mA hf G) xs K
theorem uu {f:St→dh R→Option R} (hf:oJ f) (G:GL):oJ (mP nt f G):=fun S=>by
 unfold mP
 cases eY nt G S with
 | none=>exact .nil fun K=>rfl
 | some xs=>exact qL (mA hf G) xs
theorem mz {f:Nat→Option (Ev R)} (hf:∀l g,f l=some g→∀h,oJ (g h)) (ls:List (Nat × GL)) (a:Hint) (i:Nat × List TV):gP (u9 f ls a i):=by
 cases e1:f i.1 with
 | none=>exact .nil fun K=>by simp only [u9,e1]
 | some g =>
  cases e2:mQ i.1 ls with
  | none=>exact .nil fun K=>by simp only [u9,e1,e2]
  | some G =>
   obtain ⟨p,hp⟩:=hf _ g e1 a (dn G i.2)
   exact ⟨p,fun K r=>by simp only [u9,e1,e2];exact hp K r⟩
theorem tV {f:Nat→Option (Ev R)} (hf:∀l g,f l=some g→∀h,oJ (g h)) (ls:List (Nat × GL)) (a:Hint) (i:Nat × List TV) (K:dh R):rN nt f ls a i K=u9 f ls a i (fY nt f ls a K):=tn (mz hf ls a) i K
theorem gP.then {g g':dh R→Option R} (hf:gP g) (F:dh R→dh R) (h:∀K,g' K=g (F K)) (hF:∀e S,gP fun K=>F K e S):gP g':=by
 obtain ⟨l,hl⟩:=hf
 exact gP.bind (F:=fun K q=>F K q.1 q.2) (fun q=>hF q.1 q.2) fun K r=>by rw [h];exact hl (F K) r
theorem rO {f:Ev R} {o:Nat→Option (Ev R)} (hf:∀h,oJ (f h)) (ho:∀l g,o l=some g→∀h,oJ (g h)) (ls:List (Nat × GL)) (a:Hint):oJ fun S K=>f a S (fY nt o ls a K):=fun S =>
 (hf a S).then _ (fun K=>rfl) fun e S'=>by
  cases ht:tP nt ls e S' with
  | none=>exact .one e S' fun K=>by simp only [fY,nh,ht]
  | some j =>
   cases j with
   | none=>exact .nil fun K=>by simp only [fY,nh,ht]
   | some j =>
    obtain ⟨p',AK⟩:=qL (mz ho ls a) (tr:=tP nt ls) j
    exact ⟨p',fun K r=>by simp only [fY,nh,ht];exact AK K r⟩
theorem qc {f g:St→dh R→Option R} (hf:oJ f) (hg:oJ g):oJ fun S K=>f S (tU g K):=fun S =>
 (hf S).then _ (fun K=>rfl) fun e S'=>by
  cases e with
  | normal=>exact hg S'
  | _=>exact .one _ S' fun K=>rfl
theorem oe {f g:St→dh R→Option R} (hf:oJ f) (hg:oJ g) (G:GL):oJ fun S K=>f S (lN nt g G K):=fun S =>
 (hf S).then _ (fun K=>rfl) fun e S'=>by
  cases e with
  | normal =>
   cases hr:eY nt G S' with
   | none=>exact .nil fun K=>by simp only [lN,hr]
   | some xs =>
    obtain ⟨p,hp⟩:=hg (dn G xs)
    exact ⟨p,fun K r=>by simp only [lN,hr];exact hp K r⟩
  | _=>exact .one _ S' fun K=>rfl
theorem sx {f:St→dh R→Option R} (hf:oJ f) (id:Nat):oJ fun S K=>f S (gH id K):=fun S =>
 (hf S).then _ (fun K=>rfl) fun e S'=>by
  cases e with
  | exit j =>
   cases hb:Nat.beq j id with
   | true=>exact .one .normal S' fun K=>by simp only [gH,hb]
   | false=>exact .one (.exit j) S' fun K=>by simp only [gH,hb]
  | _=>exact .one _ S' fun K=>rfl
variable (P:Program) (E:cz)
theorem pE {X:Type} {p:Option Bool} {f:(X→Option R)→Option R} (h:∃q:Option X,∀K,f K=q.bind K):∃q:Option X,∀K,yQ p (f K)=q.bind K:=by
 obtain ⟨q,hq⟩:=h
 cases p with
 | none=>exact ⟨q,hq⟩
 | some b=>cases b with
  | true=>exact ⟨q,hq⟩
  | false=>exact ⟨none,fun K=>rfl⟩
theorem kD (ops:Array Oper):∀(os:List Oper) (S:St),∃p:Option St,∀K:St→Option R,rR P E nt ops os S K=p.bind K
 | [],S=>⟨some S,fun K=>rfl⟩
 | o :: os,S=>by
  show ∃p:Option St,∀K:St→Option R,(match iw P E nt ops o S with | some e=>sH (k9 E nt ops o S) o.dst e S (fun S=>rR P E nt ops os S K) | none=>none)=p.bind K
  cases iw P E nt ops o S with
  | none=>exact ⟨none,fun K=>rfl⟩
  | some e =>
   cases k9 E nt ops o S with
   | none=>exact pE (kD ops os _)
   | some c =>
    cases c with
    | true=>exact pE (kD ops os _)
    | false =>
     cases o.dst with
     | none=>exact ⟨none,fun K=>rfl⟩
     | some d=>exact kD ops os _
theorem qg (ops:Array Oper) (W B:List (List Nat)):∀(os:List Oper) (i:Nat) (S:St),∃p:Option St,∀K:St→Option R,tZ P E nt ops W B i os S K=p.bind K
 | [],_,S=>⟨some S,fun K=>rfl⟩
 | o :: os,i,S=>by
  show ∃p:Option St,∀K:St→Option R,(match iw P E nt ops o (j8 (ll W B i) S) with | some e=>cX (decide (fO o.dst e=W.getD i [])&&(ll W B i).all fun k=>!((W.getD i []).contains k)) (yQ e.p (tZ P E nt ops W B (i+1) os (eJ S o.dst e) K)) | none=>none)=p.bind K
  cases iw P E nt ops o (j8 (ll W B i) S) with
  | none=>exact ⟨none,fun K=>rfl⟩
  | some e =>
   simp only
   generalize (decide (fO o.dst e=W.getD i [])&&(ll W B i).all fun k=>!((W.getD i []).contains k))=b
   cases b with
   | false=>exact ⟨none,fun K=>rfl⟩
   | true=>exact pE (qg ops W B os (i+1) _)
theorem qf (ops:Array Oper) (draw:Bool) (S:St):∃p:Option St,∀K:St→Option R,oP P E nt ops draw S K=p.bind K:=by
 cases draw with
 | false=>exact kD P E ops _ S
 | true =>
  simp only [oP]
  cases mv ops.toList with
  | false=>exact ⟨none,fun K=>rfl⟩
  | true =>
   cases wi P E nt ops ops.toList S with
   | none=>exact ⟨none,fun K=>rfl⟩
   | some W=>exact qg P E ops W _ _ 0 S
theorem jR (c:Code):(∀h,oJ (hZ (R:=R) P E nt c h))∧∀l g,lZ (R:=R) P E nt c l=some g→∀h,oJ (g h):=by
 have mg:∀{f:Ev R},∀l g,(di f).2 l=some g→∀h,oJ (g h):=fun l g e=>by cases e
 induction c with
 | skip=>exact ⟨fun h S => .one .normal S fun K=>rfl,mg⟩
 | label l =>
  refine ⟨fun h S => .one .normal S fun K=>rfl,fun l' g e=>?_⟩
  have e:iF l l'=some g:=e
  unfold iF at e
  cases hb:Nat.beq l l' with
  | true=>rw [hb] at e;cases e;exact fun h S => .one .normal S fun K=>rfl
  | false=>rw [hb] at e;cases e
 | exit id=>exact ⟨fun h S => .one (.exit id) S fun K=>rfl,mg⟩
 | goto l=>exact ⟨fun h S => .one (.goto l) S fun K=>rfl,mg⟩
 | ret=>exact ⟨fun h S => .one .ret S fun K=>rfl,mg⟩
 | region id ops draw =>
  refine ⟨fun h S=>?_,mg⟩
  obtain ⟨p,hp⟩:=qf (R:=R) P E (nt:=nt) ops draw S
  cases p with
  | none=>exact .nil fun K=>hp _
  | some S'=>exact .one .normal S' fun K=>hp _
 | seq a b rX pM =>
  refine ⟨fun h=>?_,fun l g e=>?_⟩
  ·cases h <;> first | exact qc (rX.1 _) (pM.1 _) | exact oe (rX.1 _) (pM.1 _) _
  ·have e:nF nt (lZ P E nt a) (lZ P E nt b) (hZ P E nt b) (hZ P E nt b) l=some g:=e
   unfold nF at e
   split at e
   ·rename_i ga ea
    cases e
    intro h
    cases h <;> first | exact qc (rX.2 l ga ea _) (pM.1 _) | exact oe (rX.2 l ga ea _) (pM.1 _) _
   ·split at e
    ·rename_i gb eb;cases e;exact fun h=>pM.2 l gb eb _
    ·cases e
 | cond x a b rX pM =>
  refine ⟨fun h S=>?_,mg⟩
  obtain ⟨p,hp⟩:=rX.1 h.s1 S
  obtain ⟨p',AK⟩:=pM.1 h.s2 S
  have two:gP (R:=R) fun K=>both (hZ P E nt a h.s1 S K) (hZ P E nt b h.s2 S K):=by
   refine ⟨p++p',fun K r=>?_⟩
   rw [lE,hp,AK]
   refine ⟨fun ⟨h1,h2⟩ q hq=>(List.mem_append.1 hq).elim (h1 q) (h2 q),fun h=>⟨fun q hq=>h q (List.mem_append_left _ hq),fun q hq=>h q (List.mem_append_right _ hq)⟩⟩
  show gP fun K:dh R=>(match dQ E nt S 0 x with | some (.b t,.no)=>cond t (hZ P E nt a h.s1 S K) (hZ P E nt b h.s2 S K) | some (.ub e,.no)=>cond e (both (hZ P E nt a h.s1 S K) (hZ P E nt b h.s2 S K)) (hZ P E nt b h.s2 S K) | _=>none)
  split
  ·rename_i t _
   cases t with
   | true=>exact ⟨p,hp⟩
   | false=>exact ⟨p',AK⟩
  ·rename_i t _
   cases t with
   | true=>exact two
   | false=>exact ⟨p',AK⟩
  ·exact .nil fun K=>rfl
 | block id a ih=>exact ⟨fun h=>sx (ih.1 _) id,mg⟩
 | loop a ih =>
  refine ⟨fun h=>?_,mg⟩
  cases h <;> first | exact uu (ih.1 _) _ | exact fun S => .nil fun K=>rfl
 | rangeFunc _ _ _ _ _ _=>exact ⟨fun h S => .nil fun K=>rfl,mg⟩
 | scope a ih =>
  refine ⟨fun h=>?_,mg⟩
  cases h <;> first | exact rO ih.1 ih.2 _ _ | exact fun S => .nil fun K=>rfl
 | refuse _=>exact ⟨fun h S => .nil fun K=>rfl,mg⟩
theorem yM (c:Code) (h:Hint) (G:GL) (xs:List TV) (K:dh R):sY nt (hZ P E nt c h) G xs K=ev P E nt c h (dn G xs) (pJ nt (hZ P E nt c h) G K):=by
 rw [vZ ((jR P E c).1 h),tw]
theorem wL (c:Code) (ls:List (Nat × GL)) (a:Hint) (i:Nat × List TV) (K:dh R):rN nt (lZ P E nt c) ls a i K=u9 (wM P E nt c).2 ls a i (fY nt (lZ P E nt c) ls a K):=by
 rw [tV (jR P E c).2,←wN];rfl
end
end Go.Eng
namespace Go.Eng
open Go.RowKit
def xU:MX→Exit
 | .normal => .normal
 | .exit id => .exit id
 | .goto l => .goto l
 | .ret => .ret
section
variable {C:Ctx} {R:Type}
theorem lH.eY {S:St} {a:Act} {w:World} {G:GL} {xs:List TV} (h:lH C S a w) (he:eY C.nt G S=some xs):lH C (dn G xs) a w:=by
 obtain ⟨R,τ,h⟩:=h
 obtain ⟨R',τ',h',_⟩:=jt h he
 exact ⟨R',_,h'⟩
theorem nE {P:Program} {a:Act} {w:World} {Q:Exit→Act→World→Prop} {c:Code} (I:Nat→Nat→Act→World→Prop)
  (first:c.wp P (fun e a w=>match e with | .goto l=>∃n,I n l a w | e=>Q e a w) a w)
  (pass:∀n l a w,I n l a w→∃rest,findLabel c l=some rest∧rest.wp P (fun e a' w'=>match e with | .goto l'=>∃m,m<n∧I m l' a' w' | e=>Q e a' w') a w) :
  (Code.scope c).wp P Q a w:=by
 intro b k cs
 have key:∀n l a w,I n l a w→∀rest,findLabel c l=some rest→∃e a' w',Q e a' w'∧Arrives P (lone (b.at a (.code rest :: .inScope c :: k)) cs w) b k cs e a' w':=by
  intro n
  induction n using Nat.strongRecOn with
  | _ n ih =>
   intro l a w hI rest hf
   obtain ⟨FO,CT,hp⟩:=pass n l a w hI
   rw [hf] at CT
   cases CT
   obtain ⟨e,kv,kg,hq,lz⟩:=hp b (.inScope c :: k) cs
   cases e with
   | normal=>exact ⟨.normal,kv,kg,hq,Steps.trans lz (.one step_inScope)⟩
   | exit id=>exact ⟨.exit id,kv,kg,hq,fun k' hk=>lz k' (by simp [exitTo,hk])⟩
   | goto l' =>
    obtain ⟨m,eL,hJ⟩:=hq
    obtain ⟨qh,CS,_⟩:=pass m l' kv kg hJ
    have hg:gotoIn l' (.inScope c :: k)=some (.code qh :: .inScope c :: k):=by simp [gotoIn,CS]
    obtain ⟨A7,Bu,z1,wy,pj⟩:=ih m eL l' kv kg hJ qh CS
    exact ⟨A7,Bu,z1,wy,.of_steps (lz _ hg) pj⟩
   | ret=>exact ⟨_,kv,kg,hq,lz⟩
   | panic ch=>exact ⟨_,kv,kg,hq,lz⟩
   | outgrown=>exact ⟨_,kv,kg,hq,lz⟩
 obtain ⟨e,kv,kg,hq,lz⟩:=first b (.inScope c :: k) cs
 cases e with
 | normal=>exact ⟨.normal,kv,kg,hq,.head step_scope (Steps.trans lz (.one step_inScope))⟩
 | exit id=>exact ⟨.exit id,kv,kg,hq,fun k' hk => .head step_scope (lz k' (by simp [exitTo,hk]))⟩
 | goto l' =>
  obtain ⟨m,hJ⟩:=hq
  obtain ⟨qh,CS,_⟩:=pass m l' kv kg hJ
  have hg:gotoIn l' (.inScope c :: k)=some (.code qh :: .inScope c :: k):=by simp [gotoIn,CS]
  obtain ⟨A7,Bu,z1,wy,pj⟩:=key m l' kv kg hJ qh CS
  exact ⟨A7,Bu,z1,wy,.of_steps (.head step_scope (lz _ hg)) pj⟩
 | ret=>exact ⟨_,kv,kg,hq,.of_steps (.one step_scope) lz⟩
 | panic ch=>exact ⟨_,kv,kg,hq,.of_steps (.one step_scope) lz⟩
 | outgrown=>exact ⟨_,kv,kg,hq,.of_steps (.one step_scope) lz⟩
def ry (C:Ctx) (R:Type) (c:Code) (g:Ev R):Prop:=∀{h:Hint} {S:St} {a:Act} {w:World} {K:dh R} {r:R} {Q:Exit→Act→World→Prop},lH C S a w→g h S K=some r →
  (∀e S' a' w',lH C S' a' w'→K e S'=some r→Q (xU e) a' w')→c.wp C.P Q a w
theorem ry.seq {x y:Code} {g:Ev R} {o:Ev R} (hx:ry C R x g) (hy:ry C R y o):ry C R (.seq x y) (vL C.nt g o o):=by
 intro h S a w K r Q hs he hQ
 have plain:∀{h1 h2:Hint},g h1 S (tU (o h2) K)=some r→(Code.seq x y).wp C.P Q a w:=fun he=>by
  refine wp_seq (hx hs he fun e S' a' w' h' hk=>?_)
  cases e with
  | normal=>exact hy h' hk hQ
  | exit id=>exact hQ (.exit id) S' a' w' h' hk
  | goto l=>exact hQ (.goto l) S' a' w' h' hk
  | ret=>exact hQ .ret S' a' w' h' hk
 cases h <;> first | exact plain he | skip
 rename_i G h1 h2
 have he:g h1 S (lN C.nt (o h2) G K)=some r:=he
 refine wp_seq (hx hs he fun e S' a' w' h' hk=>?_)
 cases e with
 | normal =>
  simp only [lN] at hk
  split at hk
  ·rename_i xs hr
   exact hy (h'.eY hr) hk hQ
  ·cases hk
 | exit id=>exact hQ (.exit id) S' a' w' h' hk
 | goto l=>exact hQ (.goto l) S' a' w' h' hk
 | ret=>exact hQ .ret S' a' w' h' hk
theorem A9 (hE:fj C.P C.E) (hF:∀f,bE C.P C.gl f (C.E.fs f)) (c:Code):ry C R c (hZ C.P C.E C.nt c)∧(∀l g,lZ (R:=R) C.P C.E C.nt c l=some g→∃rest,findLabel c l=some rest∧ry C R rest g)∧∀l,lZ (R:=R) C.P C.E C.nt c l=none→findLabel c l=none:=by
 have mg:∀{f:Ev R} {c:Code},∀l g,(di f).2 l=some g→∃rest,findLabel c l=some rest∧ry C R rest g:=fun l g e=>by cases e
 induction c with
 | skip=>exact ⟨fun hs he hQ=>wp_skip (hQ .normal _ _ _ hs he),mg,fun _ _=>rfl⟩
 | label l =>
  refine ⟨fun hs he hQ=>wp_label (hQ .normal _ _ _ hs he),fun l' g e=>?_,fun l' e=>?_⟩
  ·have e:iF l l'=some g:=e
   unfold iF at e
   cases hb:Nat.beq l l' with
   | true =>
    rw [hb] at e;cases e
    exact ⟨.skip,by rw [aj hb];simp [findLabel],fun hs he hQ=>wp_skip (hQ .normal _ _ _ hs he)⟩
   | false=>rw [hb] at e;cases e
  ·have e:iF (R:=R) l l'=none:=e
   unfold iF at e
   cases hb:Nat.beq l l' with
   | true=>rw [hb] at e;cases e
   | false =>
    have:¬l=l':=fun e=>by rw [e] at hb;simp at hb
    simp [findLabel,this]
 | exit id=>exact ⟨fun hs he hQ=>wp_exit (hQ (.exit id) _ _ _ hs he),mg,fun _ _=>rfl⟩
 | goto l=>exact ⟨fun hs he hQ=>wp_goto (hQ (.goto l) _ _ _ hs he),mg,fun _ _=>rfl⟩
 | ret=>exact ⟨fun hs he hQ=>wp_ret (hQ .ret _ _ _ hs he),mg,fun _ _=>rfl⟩
 | region id ops draw=>exact ⟨fun hs he hQ=>ue hE hF hs he fun S' a' w' h' hk=>hQ .normal S' a' w' h' hk,mg,fun _ _=>rfl⟩
 | seq x y AB zy =>
  refine ⟨ry.seq AB.1 zy.1,fun l g e=>?_,fun l e=>?_⟩
  ·have e:nF C.nt (lZ C.P C.E C.nt x) (lZ C.P C.E C.nt y) (hZ C.P C.E C.nt y) (hZ C.P C.E C.nt y) l=some g:=e
   unfold nF at e
   split at e
   ·rename_i gx ex
    cases e
    obtain ⟨rest,hr,hd⟩:=AB.2.1 l gx ex
    exact ⟨.seq rest y,by simp [findLabel,hr],hd.seq zy.1⟩
   ·rename_i ex
    split at e
    ·rename_i gy ey
     cases e
     obtain ⟨rest,hr,hd⟩:=zy.2.1 l gy ey
     exact ⟨rest,by simp [findLabel,AB.2.2 l ex,hr],fun hs he hQ=>hd hs he hQ⟩
    ·cases e
  ·have e:nF C.nt (lZ C.P C.E C.nt x) (lZ C.P C.E C.nt y) (hZ C.P C.E C.nt y) (hZ C.P C.E C.nt y) l=none:=e
   unfold nF at e
   split at e
   ·cases e
   ·rename_i ex
    split at e
    ·cases e
    ·rename_i ey;simp [findLabel,AB.2.2 l ex,zy.2.2 l ey]
 | cond o x y AB zy =>
  refine ⟨?_,mg,fun _ _=>rfl⟩
  intro h S a w K r Q hs he hQ
  have he:(match dQ C.E C.nt S 0 o with | some (.b t,.no)=>cond t (hZ C.P C.E C.nt x h.s1 S K) (hZ C.P C.E C.nt y h.s2 S K) | some (.ub e,.no)=>cond e (both (hZ C.P C.E C.nt x h.s1 S K) (hZ C.P C.E C.nt y h.s2 S K)) (hZ C.P C.E C.nt y h.s2 S K) | _=>none)=some r:=he
  split at he
  ·rename_i t ho
   have EE:=hs
   obtain ⟨R0,τ,h0⟩:=EE
   have hv:=(cN h0 (Lt.refl S) ho).dx rfl
   refine wp_cond_split hv (fun e=>?_) (fun e=>?_)
   ·subst e;exact AB.1 hs he hQ
   ·subst e;exact zy.1 hs he hQ
  ·rename_i e ho
   have EE:=hs
   obtain ⟨R0,τ,h0⟩:=EE
   obtain ⟨b,hv,hb⟩:∃b,a.eval o = .bool b∧(b=true→e=true):=by
    have hv:=cN h0 (Lt.refl S) ho
    generalize a.eval o=v at hv
    cases hv with
    | sc h=>cases h
    | ub h=>exact ⟨_,rfl,h⟩
   refine wp_cond_split hv (fun e1=>?_) (fun e1=>?_)
   ·rw [hb e1] at he
    exact AB.1 hs (lE.1 he).1 hQ
   ·cases e with
    | false=>exact zy.1 hs he hQ
    | true=>exact zy.1 hs (lE.1 he).2 hQ
  ·cases he
 | block id x ih =>
  refine ⟨?_,mg,fun _ _=>rfl⟩
  intro h S a w K r Q hs he hQ
  have he:hZ C.P C.E C.nt x h.s1 S (gH id K)=some r:=he
  refine wp_block (ih.1 hs he fun e S' a' w' h' hk=>?_)
  cases e with
  | normal=>exact hQ .normal S' a' w' h' hk
  | exit j =>
   simp only [gH] at hk
   cases hb:Nat.beq j id with
   | true =>
    rw [hb] at hk
    have:=aj hb
    simp only [xU,Exit.inBlock,this,if_true]
    exact hQ .normal S' a' w' h' hk
   | false =>
    rw [hb] at hk
    have:j≠id:=fun e=>by rw [e] at hb;simp at hb
    simp only [xU,Exit.inBlock,this,if_false]
    exact hQ (.exit j) S' a' w' h' hk
  | goto l=>exact hQ (.goto l) S' a' w' h' hk
  | ret=>exact hQ .ret S' a' w' h' hk
 | loop x ih =>
  refine ⟨?_,mg,fun _ _=>rfl⟩
  intro h S a w K r Q hs he hQ
  cases h <;> try (cases he;done)
  rename_i G h1
  have he:mP C.nt (hZ C.P C.E C.nt x h1) G S K=some r:=he
  unfold mP at he
  split at he
  ·rename_i xs hr
   obtain ⟨n,hn⟩:=(mS (fun n r=>iQ (mA ((jR C.P C.E x).1 h1) G) (tr:=Ab C.nt G) n xs r)).1 he
   refine wp_loop_ghost (fun n a w=>∃xs,lH C (dn G xs) a w∧gZ (Bw (hZ C.P C.E C.nt x h1) G) (Ab C.nt G) n xs K=some r) n ⟨xs,hs.eY hr,hn⟩ ?_
   rintro n a w ⟨xs,hs,hn⟩
   cases n with
   | zero=>cases hn
   | succ n =>
    rw [gZ] at hn
    refine ih.1 hs hn fun e S' a' w' h' hk=>?_
    cases e with
    | normal =>
     simp only [Ab] at hk
     split at hk
     ·rename_i e;cases e
     ·cases hk
     ·rename_i ys hr
      cases vf:eY C.nt G S' with
      | none=>rw [vf] at hr;cases hr
      | some zs =>
       rw [vf] at hr;cases hr
       exact ⟨n,Nat.lt_succ_self n,_,h'.eY vf,hk⟩
    | exit id=>exact hQ (.exit id) S' a' w' h' hk
    | goto l=>exact hQ (.goto l) S' a' w' h' hk
    | ret=>exact hQ .ret S' a' w' h' hk
  ·cases he
 | rangeFunc _ _ _ _ _ _=>exact ⟨fun _ he=>(by cases he),mg,fun _ _=>rfl⟩
 | scope x ih =>
  refine ⟨?_,mg,fun _ _=>rfl⟩
  intro h S a w K r Q hs he hQ
  cases h <;> try (cases he;done)
  rename_i ls h1
  have he:hZ C.P C.E C.nt x h1 S (fY C.nt (lZ C.P C.E C.nt x) ls h1 K)=some r:=he
  let F:=lZ (R:=R) C.P C.E C.nt x
  have hm:=fun i=>fun n r=>iQ (mz (f:=F) (jR C.P C.E x).2 ls h1) (tr:=tP C.nt ls) (K:=K) n i r
  have go:∀{S' a' w'} l,lH C S' a' w'→∀j,tP C.nt ls (.goto l) S'=some (some j)→j.1=l∧∃G,mQ l ls=some G∧lH C (dn G j.2) a' w':=by
   intro S' a' w' l h' j hj
   simp only [tP] at hj
   split at hj
   ·rename_i G hl
    cases hr:eY C.nt G S' with
    | none=>rw [hr] at hj;cases hj
    | some ys=>rw [hr] at hj;cases hj;exact ⟨rfl,G,hl,h'.eY hr⟩
   ·cases hj
  refine nE (fun n l a w=>∃xs G,mQ l ls=some G∧lH C (dn G xs) a w∧gZ (u9 F ls h1) (tP C.nt ls) n (l,xs) K=some r) ?_ ?_
  ·refine ih.1 hs he fun e S' a' w' h' hk=>?_
   cases e with
   | goto l =>
    simp only [fY,nh] at hk
    split at hk
    ·rename_i e;simp [tP] at e
    ·cases hk
    ·rename_i j hj
     obtain ⟨e1,G,hG,hS⟩:=go l h' j hj
     obtain ⟨n,hn⟩:=(mS (hm j)).1 hk
     exact ⟨n,j.2,G,hG,hS,by rw [←e1];exact hn⟩
   | normal=>exact hQ .normal S' a' w' h' hk
   | exit id=>exact hQ (.exit id) S' a' w' h' hk
   | ret=>exact hQ .ret S' a' w' h' hk
  ·rintro n l a w ⟨xs,G,hG,hS,hn⟩
   cases n with
   | zero=>cases hn
   | succ n =>
    rw [gZ] at hn
    simp only [u9,hG] at hn
    cases hF:F l with
    | none=>rw [hF] at hn;cases hn
    | some g =>
     rw [hF] at hn
     obtain ⟨rest,hr,hd⟩:=ih.2.1 l g hF
     refine ⟨rest,hr,hd hS hn fun e S' a' w' h' hk=>?_⟩
     cases e with
     | goto l' =>
      split at hk
      ·rename_i e;simp [tP] at e
      ·cases hk
      ·rename_i j hj
       obtain ⟨e1,G',H4,r8⟩:=go l' h' j hj
       exact ⟨n,Nat.lt_succ_self n,j.2,G',H4,r8,by rw [←e1];exact hk⟩
     | normal=>exact hQ .normal S' a' w' h' hk
     | exit id=>exact hQ (.exit id) S' a' w' h' hk
     | ret=>exact hQ .ret S' a' w' h' hk
 | refuse _=>exact ⟨fun _ he=>(by cases he),mg,fun _ _=>rfl⟩
theorem se (hE:fj C.P C.E) (hF:∀f,bE C.P C.gl f (C.E.fs f)) (c:Code):∀{h:Hint} {S:St} {a:Act} {w:World} {K:dh R} {r:R} {Q:Exit→Act→World→Prop},lH C S a w→hZ C.P C.E C.nt c h S K=some r →
  (∀e S' a' w',lH C S' a' w'→K e S'=some r→Q (xU e) a' w')→c.wp C.P Q a w:=fun hs he hQ=>(A9 hE hF c).1 hs he hQ
end
end Go.Eng
namespace Go.Eng
open Go.RowKit
def fR (xs:List Value) (k:Nat):Value:=if k<1000000 then xs.getD k undef else xs.getD (k - 1000000) undef
theorem mZ {n:Nat} {ms:List Md} {iJ:List TV} {k:Nat} (h:k<n):wo n ms iJ k=match ms.getD k .pl with | .pl=>(iJ.getD k .dead,.no) | .rf=>(.pt,.ptr (1000000+k) 0) | _=>(.pt,.cM (1000000+k)):=by
 have:Nat.blt k n=true:=Nat.ble_eq_true_of_le h
 unfold wo
 simp only [this,ao]
 rfl
theorem na {n:Nat} {ms:List Md} {iJ:List TV} {k:Nat} (hn:n≤1000000) (h:k<n):wo n ms iJ (1000000+k)=match ms.getD k .pl with | .pl=>(.dead,.no) | .rf=>(iJ.getD k .dead,.cl []) | _=>(iJ.getD k .dead,.pv):=by
 have h1:Nat.blt (1000000+k) n=false:=by
  cases hb:Nat.blt (1000000+k) n with
  | false=>rfl
  | true=>exact absurd (Nat.le_of_ble_eq_true hb:1000000+k+1≤n) (by omega)
 have h2:Nat.ble 1000000 (1000000+k)=true:=Nat.ble_eq_true_of_le (by omega)
 have h3:Nat.blt (1000000+k) (1000000+n)=true:=Nat.ble_eq_true_of_le (by omega)
 unfold wo
 simp only [h1,h2,h3,ao,af,bc,Nat.add_sub_cancel_left]
 rfl
theorem kL {n:Nat} {ms:List Md} {iJ:List TV} {k:Nat} (h1:n≤k) (h2:k<1000000∨1000000+n≤k):wo n ms iJ k=(.dead,.no):=by
 have e1:Nat.blt k n=false:=by
  cases hb:Nat.blt k n with
  | false=>rfl
  | true=>exact absurd (Nat.le_of_ble_eq_true hb:k+1≤n) (by omega)
 have e2:(Nat.ble 1000000 k&&Nat.blt k (1000000+n))=false:=by
  cases hb:(Nat.ble 1000000 k&&Nat.blt k (1000000+n)) with
  | false=>rfl
  | true =>
   simp only [ae] at hb
   have a:=Nat.le_of_ble_eq_true hb.1
   have b:k+1≤1000000+n:=Nat.le_of_ble_eq_true hb.2
   omega
 unfold wo
 simp only [e1,e2,af]
theorem jF {n:Nat} (hn:n≤1000000) (k:Nat):k<n∨(∃j,j<n∧k=1000000+j)∨(n≤k∧(k<1000000∨1000000+n≤k)):=by
 by_cases h1:k<n
 ·exact .inl h1
 ·by_cases h2:k<1000000∨1000000+n≤k
  ·exact .inr (.inr ⟨by omega,h2⟩)
  ·exact .inr (.inl ⟨k - 1000000,by omega,by omega⟩)
theorem rk {P:Program} {E:cz} {gl:Nat→Option (List Value)} {nt:Nat} {w:World} {R:Reach} {ins:List TV} {xs:List Value} {ms:List Md} (hn:xs.length≤nt) (xG:nt≤1000000) (hR:∀b o,R b o→b<w.heap.size) (qH:GlOK gl R w) (ha:pL R w ms ins xs) (hs:BG (· ≠ .pl) ms xs) :
  cC ⟨P,E,nt,w,R,pb ms xs,fR xs,gl⟩ (wo xs.length ms ins) { tmps:=(⟨xs⟩:Array Value)++Array.replicate (nt - xs.length) undef,defers:=[] } w R (fR xs):=by
 have hx:xs.length≤1000000:=Nat.le_trans hn xG
 have arg:∀k,k<xs.length→tK R w (ms.getD k .pl) (ins.getD k .dead) (xs.getD k undef):=fun k hk=>by
  have h1:xs[k]?=some xs[k]:=ah hk
  have h2:ins[k]?=some (ins[k]'(by rw [ha.1];exact hk)):=ah _
  have:=ha.2 k _ _ h2 h1
  rw [ai,ai,ai,h1,h2] at *
  simpa using this
 have t1:∀k,k<xs.length→fR xs k=xs.getD k undef:=fun k hk=>by unfold fR;rw [aq (by omega)]
 have t2:∀k,fR xs (1000000+k)=xs.getD k undef:=fun k=>by unfold fR;rw [al (by omega),Nat.add_sub_cancel_left]
 have own:∀k,(wo xs.length ms ins k).2.own=true→∃j,j<xs.length∧k=1000000+j∧ms.getD j .pl ≠ .pl:=fun k ho=>by
  rcases jF hx k with h | ⟨j,hj,rfl⟩ | ⟨h1,h2⟩
  ·rw [mZ h] at ho
   cases hm:ms.getD k .pl <;> rw [hm] at ho <;> cases ho
  ·refine ⟨j,hj,rfl,fun hm=>?_⟩
   rw [na hx hj,hm] at ho;cases ho
  ·rw [kL h1 h2] at ho;cases ho
 have val:∀k,k<xs.length→xs[k]?=some (xs.getD k undef):=fun k hk=>by rw [ai,ah hk];rfl
 refine ⟨by simp;omega,rfl,⟨fun k=>?_,fun k k' g hb fT=>?_,fun k g hb=>?_,fun j k hk=>?_,hR,fun k hk=>?_,fun k d hk=>?_⟩,fun t ht=>?_,⟨xG,fun k _=>rfl⟩,Ext.refl _ _ _,qH⟩
 ·rcases jF hx k with h | ⟨j,hj,rfl⟩ | ⟨h1,h2⟩
  ·have hA:=arg k h
   rw [mZ h,t1 k h]
   cases hm:ms.getD k .pl <;> rw [hm] at hA
   ·exact cp.no (τ:=fR xs) hA
   ·obtain ⟨b,cs,e,zs,e1,_⟩:=hA
    exact ⟨b,by rw [t2,e1],e1⟩
   all_goals exact ⟨(t2 k).symm,cP.one hA⟩
  ·have hA:=arg j hj
   rw [na hx hj,t2]
   cases hm:ms.getD j .pl <;> rw [hm] at hA
   ·exact cp.no (τ:=fR xs) (.dead _)
   ·obtain ⟨b,cs,e,zs,e1,e2,e3,e4,e5,e6⟩:=hA
    exact ⟨b,cs,e,zs,e1,e2,e3,e4,by simp,e6⟩
   all_goals exact hA
  ·rw [kL h1 h2];exact cp.no (τ:=fR xs) (.dead _)
 ·obtain ⟨o1,b1⟩:=cW hb
  obtain ⟨o2,b2⟩:=cW fT
  obtain ⟨j,hj,rfl,m1⟩:=own k o1
  obtain ⟨j',lX,rfl,m2⟩:=own k' o2
  rw [t2] at b1 b2
  rw [hs j j' _ _ g m1 m2 (val j hj) (val j' lX) b1 b2]
 ·obtain ⟨o1,b1⟩:=cW hb
  obtain ⟨j,hj,rfl,m1⟩:=own k o1
  rw [t2] at b1
  exact .inl ⟨j,_,m1,val j hj,b1⟩
 ·rcases jF hx j with h | ⟨i,hi,rfl⟩ | ⟨h1,h2⟩
  ·rw [mZ h] at hk
   have key:ms.getD j .pl ≠ .pl→k=1000000+j→nt≤k∧(wo xs.length ms ins k).2 ≠ .no:=fun hm e=>by
    subst e
    refine ⟨by omega,?_⟩
    rw [na hx h]
    cases yE:ms.getD j .pl <;> first | exact (hm yE).elim | simp
   cases hm:ms.getD j .pl <;> rw [hm] at hk key <;> simp only [Gh.bN,List.mem_singleton,List.not_mem_nil] at hk
   all_goals exact key (by simp) hk
  ·rw [na hx hi] at hk
   cases hm:ms.getD i .pl <;> rw [hm] at hk <;> simp [Gh.bN] at hk
  ·rw [kL h1 h2] at hk;cases hk
 ·rcases jF hx k with h | ⟨j,hj,rfl⟩ | ⟨h1,h2⟩
  ·rw [mZ h];cases ms.getD k .pl <;> rfl
  ·have:1000000+j<nt:=hk
   omega
  ·rw [kL h1 h2];rfl
 ·rcases jF hx k with h | ⟨j,hj,rfl⟩ | ⟨h1,h2⟩
  ·rw [mZ h] at hk;cases hm:ms.getD k .pl <;> rw [hm] at hk <;> cases hk
  ·rw [na hx hj] at hk;cases hm:ms.getD j .pl <;> rw [hm] at hk <;> cases hk
  ·rw [kL h1 h2] at hk;cases hk
 ·have ht:t<nt:=ht
  unfold fR
  rw [aq (by omega)]
  simp only [Array.getD_eq_getD_getElem?,Array.getElem?_append,List.size_toArray]
  by_cases h:t<xs.length
  ·simp [h,ai]
  ·have EC:t - xs.length<nt - xs.length:=by omega
   rw [al h,ai,List.getElem?_eq_none (by omega)]
   simp [EC]
end Go.Eng
namespace Go.Eng
open Go.RowKit
def oR (tmps:Array Value):ResultVar→Sem Value
 | .tmp t=>pure (tmps.getD t undef)
 | .cell a t=>do loadVar t (←asAddr (tmps.getD a undef))
theorem run_results {P:Program} {w:World} {fn:Func} {tmps:Array Value} {vs:List Value} (h:(fn.results.toList.mapM (oR tmps)).run P w = .ok vs w) :
  (results fn tmps).run P w = .ok (if vs.length=1 then vs.headD undef else .tuple ⟨vs⟩) w:=by
 have e:results fn tmps=(do
   let vs ←fn.results.mapM (oR tmps)
   pure (if h:vs.size=1 then vs[0] else .tuple vs)):=by
  unfold results
  congr 2
 rw [e,Array.mapM_eq_mapM_toList]
 simp only [Sem.run_bind,Sem.run_map,h,Result.andThen_ok,Sem.run_pure]
 match vs with
 | []=>simp
 | [x]=>simp
 | _ :: _ :: _=>simp
section
variable {C:Ctx} {a:Act} {w:World} {τ:Nat→Value}
theorem iT {own:List Nat}:∀{rs:List ResultVar} {i:Nat} {S S':St} {xs:List TV} {R:Reach},cC C S a w R τ→jK C.P C.nt own i rs S=some (xs,S') →
  ∃R' vs,cC C S' a w R' τ∧cD R w R' w∧(rs.mapM (oR a.tmps)).run C.P w = .ok vs w∧xs.length=rs.length∧vs.length=rs.length ∧
   ∀(q:Nat) (r:ResultVar) (x:TV) (v:Value),rs[q]?=some r→xs[q]?=some x→vs[q]?=some v→match r with | .tmp t=>v=a.tmps.getD t undef | .cell _ _=>Rep R' w x v∧(i+q) ∉ own
 | [],i,S,S',xs,R,h,he=>by
  cases he
  exact ⟨R,[],h,cD.refl _ _,rfl,rfl,rfl,by simp⟩
 | .tmp t :: rs,i,S,S',xs,R,h,he=>by
  simp only [jK] at he
  split at he
  ·rename_i xC Iu h1
   cases he
   obtain ⟨R',vs,k1,k2,k3,k4,k5,k6⟩:=iT h h1
   refine ⟨R',a.tmps.getD t undef :: vs,k1,k2,?_,by simp [k4],by simp [k5],fun q r x v hr hx hv=>?_⟩
   ·simp only [List.mapM_cons,oR,Sem.run_bind,Sem.run_pure,Result.andThen_ok,k3]
   ·cases q with
    | zero=>cases hr;cases hv;rfl
    | succ q =>
     have:=k6 q r x v (by simpa using hr) (by simpa using hx) (by simpa using hv)
     rwa [show i+1+q=i+(q+1) by omega] at this
  ·cases he
 | .cell b t :: rs,i,S,S',xs,R,h,he=>by
  simp only [jK] at he
  obtain ⟨h0,he⟩:=br.1 he
  simp only [ae,Bool.not_eq_true'] at h0
  have hb:b<C.nt:=Nat.le_of_ble_eq_true h0.1
  split at he
  ·rename_i m o n agg hS hs
   obtain ⟨h1,he⟩:=br.1 he
   have h1:agg=true∨n=1:=by
    rcases Bool.or_eq_true _ _ ▸ h1 with h | h
    ·exact .inl h
    ·exact .inr (aj h)
   split at he
   ·rename_i cs ts hm
    split at he
    ·rename_i pC ws hf
     split at he
     ·rename_i x hp
      split at he
      ·rename_i xC Iu EH
       cases he
       obtain ⟨bb,ys,e,c1,c2,c3,c4,c5,c6,_⟩:=gX h (Lt.refl S) hm
       obtain ⟨R1,f1,f2,f3,f4,_⟩:=hM h.core (Lt.refl S).q c3 (fun t ht=>⟨(c6 t ht).1,c4 t ht⟩) hf
       have rD:=iX h hb
       rw [hS] at rD
       obtain ⟨b',p1,hv⟩:∃b',τ m = .pointer (some ⟨b',0,none⟩)∧a.tmps.getD b undef = .pointer (some ⟨b',o,none⟩):=rD
       rw [c1] at p1;cases p1
       obtain ⟨inf,hi,rfl,ha⟩:=dU hs
       obtain ⟨hlen,fq⟩:=jx f3 hp h1
       have hc:∀j y,((ys.drop o).take inf.size)[j]?=some y→w.cell? ⟨bb,o+j,none⟩=some y:=fun j y hj=>by
        rw [aH] at hj
        split at hj
        ·rw [List.getElem?_drop] at hj
         simp only [World.cell?,c2];simpa using hj
        ·cases hj
       obtain ⟨R2,vs,k1,k2,k3,k4,k5,k6⟩:=iT (h.fz f1 f2) EH
       refine ⟨R2,(if agg then .agg ⟨(ys.drop o).take inf.size⟩ else ((ys.drop o).take inf.size).headD undef) :: vs,k1,f2.1.trans k2,?_,by simp [k4],by simp [k5],fun q r x' v hr hx og=>?_⟩
       ·simp only [List.mapM_cons,oR,hv,asAddr,Sem.run_bind,Sem.run_pure,Result.andThen_ok,fe hi ha h1 hlen hc,k3]
       ·cases q with
        | zero =>
         cases hr;cases hx;cases og
         exact ⟨(oZ fq).mono k2,by simpa using h0.2⟩
        | succ q =>
         have:=k6 q r x' v (by simpa using hr) (by simpa using hx) (by simpa using og)
         rwa [show i+1+q=i+(q+1) by omega] at this
      ·cases he
     ·cases he
    ·cases he
   ·cases he
  ·cases he
end
theorem dX.of {R:Reach} {w:World}:∀{xs:List TV} {ys:List Value},xs.length=ys.length→(∀(i:Nat) (x:TV) (y:Value),xs[i]?=some x→ys[i]?=some y→Rep R w x y)→dX R w xs ys
 | [],[],_,_ => .nil
 | x :: xs,y :: ys,h,k => .cons (k 0 x y rfl rfl) (dX.of (by simpa using h) fun i a b ha hb=>k (i+1) a b (by simpa using ha) (by simpa using hb))
 | [],_ :: _,h,_=>by simp at h
 | _ :: _,[],h,_=>by simp at h
theorem kF {own:List Nat}:∀{rs:List ResultVar} {i q t:Nat},rs[q]?=some (.tmp t)→(own.contains (i+q)=false→(t,.no)∈iM own i rs)∧(own.contains (i+q)=true→(t,.cM (900000+(i+q)))∈iM own i rs∧(900000+(i+q),.pv)∈iM own i rs)
 | r :: rs,i,0,t,h=>by
  cases h
  refine ⟨fun h=>?_,fun h=>?_⟩ <;> simp only [Nat.add_zero] at h ⊢ <;> simp only [iM,h,ao,af]
  ·exact List.mem_append_left _ (List.mem_singleton.2 rfl)
  ·exact ⟨List.mem_append_left _ (List.mem_cons_self ..),List.mem_append_left _ (List.mem_cons_of_mem _ (List.mem_singleton.2 rfl))⟩
 | r :: rs,i,q+1,t,h=>by
  obtain ⟨h1,h2⟩:=kF (own:=own) (rs:=rs) (i:=i+1) (q:=q) (t:=t) (by simpa using h)
  rw [show i+1+q=i+(q+1) by omega] at h1 h2
  cases r with
  | tmp u=>exact ⟨fun h=>List.mem_append_right _ (h1 h),fun h=>⟨List.mem_append_right _ (h2 h).1,List.mem_append_right _ (h2 h).2⟩⟩
  | cell u v=>exact ⟨h1,h2⟩
theorem oH:∀{ms:List Md} {k q:Nat},(ms[q]?=some .rf→(1000000+(k+q),.cl [])∈jk k ms)∧((ms[q]?=some .sl∨ms[q]?=some .sm)→(1000000+(k+q),.pv)∈jk k ms)
 | [],k,q=>by simp
 | m :: ms,k,0=>by
  refine ⟨fun h=>?_,fun h=>?_⟩
  ·cases h;exact List.mem_cons_self ..
  ·rcases h with h | h <;> cases h <;> exact List.mem_cons_self ..
 | m :: ms,k,q+1=>by
  obtain ⟨h1,h2⟩:=oH (ms:=ms) (k:=k+1) (q:=q)
  rw [show k+1+q=k+(q+1) by omega] at h1 h2
  refine ⟨fun h=>?_,fun h=>?_⟩
  ·have:=h1 (by simpa using h)
   cases m <;> first | exact List.mem_cons_of_mem _ this | exact this
  ·have:=h2 (by simpa using h)
   cases m <;> first | exact List.mem_cons_of_mem _ this | exact this
theorem iL {own:List Nat} {H:St}:∀{rs:List ResultVar} {i:Nat} {xs:List TV},xs.length=rs.length→(iZ own H i rs xs).length=rs.length
 | [],_,_,_=>by simp [iZ]
 | .tmp _ :: rs,i,x :: xs,h=>by simp [iZ,iL (rs:=rs) (i:=i+1) (xs:=xs) (by simpa using h)]
 | .cell _ _ :: rs,i,x :: xs,h=>by simp [iZ,iL (rs:=rs) (i:=i+1) (xs:=xs) (by simpa using h)]
 | _ :: _,_,[],h=>by simp at h
theorem kE {own:List Nat} {H:St}:∀{rs:List ResultVar} {i q:Nat} {xs:List TV} {r:ResultVar} {x:TV},rs[q]?=some r→xs[q]?=some x→(iZ own H i rs xs)[q]?=some (match r with | .tmp t=>cond (own.contains (i+q)) (H (900000+(i+q))).1 (H t).1 | .cell _ _=>x)
 | r :: rs,i,0,x :: xs,_,_,h1,h2=>by cases h1;cases h2;cases r <;> simp [iZ]
 | r :: rs,i,q+1,x :: xs,r',x',h1,h2=>by
  have:=kE (own:=own) (H:=H) (rs:=rs) (i:=i+1) (q:=q) (xs:=xs) (r:=r') (x:=x') (by simpa using h1) (by simpa using h2)
  rw [show i+1+q=i+(q+1) by omega] at this
  cases r <;> simp only [iZ,List.getElem?_cons_succ] <;> exact this
 | [],_,_,_,_,_,h,_=>by simp at h
 | _ :: _,_,_,[],_,_,_,h=>by simp at h
def hY (H:St):Nat→List Md→List TV→List TV
 | k,.rf :: ms,_ :: ins=>(H (1000000+k)).1 :: hY H (k+1) ms ins
 | k,.sl :: ms,_ :: ins=>(H (1000000+k)).1 :: hY H (k+1) ms ins
 | k,_ :: ms,y :: ins=>y :: hY H (k+1) ms ins
 | _,_,_=>[]
theorem nA {H:St}:∀{ms:List Md} {k:Nat} {ins:List TV},ms.length≤ins.length→fV ms ins (kV H k ms)=some (hY H k ms ins)
 | [],k,ins,_=>by cases ins <;> simp [fV,kV,hY,cX]
 | m :: ms,k,y :: ins,h=>by
  have:=nA (H:=H) (ms:=ms) (k:=k+1) (ins:=ins) (by simpa using h)
  cases m <;> simp [fV,kV,hY,this]
 | _ :: _,_,[],h=>by simp at h
theorem oF {H:St}:∀{ms:List Md} {k q:Nat} {ins:List TV} {y:TV},(hY H k ms ins)[q]?=some y→(ms.getD q .pl = .rf∨ms.getD q .pl = .sl→y=(H (1000000+(k+q))).1)∧(ms.getD q .pl = .sm→ins[q]?=some y)∧q<ms.length
 | m :: ms,k,0,x :: ins,y,h=>by
  cases m <;> simp only [hY,List.getElem?_cons_zero,aA] at h <;> subst h <;> simp
 | m :: ms,k,q+1,x :: ins,y,h=>by
  have h':(hY H (k+1) ms ins)[q]?=some y:=by cases m <;> simpa [hY] using h
  obtain ⟨h1,h2,h3⟩:=oF h'
  rw [show k+1+q=k+(q+1) by omega] at h1
  exact ⟨h1,h2,by simp;omega⟩
 | [],k,q,ins,y,h=>by cases ins <;> simp [hY] at h
 | m :: _,_,_,[],_,h=>by cases m <;> simp [hY] at h
theorem oa {H:St}:∀{ms:List Md} {k q:Nat} {ins:List TV} {y:TV},jC H k ms=fN ms ins→ms.length≤ins.length→ms[q]?=some .sm→ins[q]?=some y→y=(H (1000000+(k+q))).1
 | m :: ms,k,0,x :: ins,y,h,_,h1,h2=>by
  cases h1;cases h2
  simp only [jC,fN,bj] at h
  exact h.1.symm
 | m :: ms,k,q+1,x :: ins,y,h,hl,h1,h2=>by
  have h':jC H (k+1) ms=fN ms ins:=by
   cases m <;> simp only [jC,fN,bj] at h <;> first | exact h | exact h.2
  have:=oa h' (by simpa using hl) (by simpa using h1) (by simpa using h2)
  rwa [show k+1+q=k+(q+1) by omega] at this
 | [],_,_,_,_,_,_,h,_=>by simp at h
 | _ :: _,_,_,[],_,_,h,_,_=>by simp at h
theorem mT {H:St}:∀{ms:List Md} {k:Nat} {ins:List TV},ms.length≤ins.length→(jC H k ms).length=(fN ms ins).length
 | [],_,ins,_=>by cases ins <;> rfl
 | m :: ms,k,x :: ins,h=>by
  have:=mT (H:=H) (ms:=ms) (k:=k+1) (ins:=ins) (by simpa using h)
  cases m <;> simp [jC,fN,this]
 | _ :: _,_,[],h=>by simp at h
theorem jN {nt:Nat} {S:St} {G:GL} {ρ:List (Nat × Option Nat)}:∀{l:GL} {xs:List TV} {ws:List (Nat × Cell)},lI nt S G ρ l=some (xs,ws)→xs.length=l.length
 | [],_,_,h=>by cases h;rfl
 | p :: l,xs,ws,h=>by
  simp only [lI] at h
  split at h
  ·split at h
   ·rename_i h2;cases h;simp [jN h2]
   ·cases h
  ·cases h
theorem jO {nt:Nat} {S:St} {G:GL} {ρ:List (Nat × Option Nat)}:∀{l:GL} {xs:List TV} {ws:List (Nat × Cell)} {i:Nat} {p:Nat × Gh} {x:TV},lI nt S G ρ l=some (xs,ws)→l[i]?=some p→xs[i]?=some x→∃us,pS nt S G ρ p=some (x,us)
 | p :: l,xs,ws,i,p',x',h,h1,h2=>by
  simp only [lI] at h
  split at h
  ·rename_i hv
   split at h
   ·rename_i h3
    cases h
    cases i with
    | zero=>cases h1;cases h2;exact ⟨_,hv⟩
    | succ i=>exact jO h3 (by simpa using h1) (by simpa using h2)
   ·cases h
  ·cases h
 | [],_,_,_,_,_,_,h,_=>by simp at h
theorem gY {nt:Nat} {G:GL} {S:St} {xs:List TV} (h:eY nt G S=some xs) {k:Nat} {g:Gh} (hm:(k,g)∈G):∃x,dn G xs k=(x,g)∧(g = .no→k<nt)∧∀i,g = .cM i→k<nt∧x = .pt:=by
 unfold eY lj at h
 split at h
 ·rename_i hv
  obtain ⟨om,he⟩:=br.1 h
  cases he
  simp only [DJ,ae] at om
  obtain ⟨i,hi⟩:=List.mem_iff_getElem?.1 hm
  have eL:i<xs.length:=by rw [jN hv];exact (av.1 hi).1
  have hx:xs[i]?=some xs[i]:=ah eL
  obtain ⟨us,hu⟩:=jO hv hi hx
  refine ⟨_,kM om.1.1.1.1 hi hx,fun e=>?_,fun j e=>?_⟩
  ·subst e
   simp only [pS] at hu
   exact Nat.le_of_ble_eq_true (br.1 hu).1
  ·subst e
   simp only [pS] at hu
   obtain ⟨h1,h2⟩:=br.1 hu
   refine ⟨Nat.le_of_ble_eq_true h1,?_⟩
   split at h2
   ·simp only [aA,Prod.mk.injEq] at h2;exact h2.1.symm
   ·simp only [aA,Prod.mk.injEq] at h2;exact h2.1.symm
   ·cases h2
 ·cases h
section
variable {P:Program} {E:cz} {gl:Nat→Option (List Value)} {nt:Nat} {ms:List Md} {w w0:World} {R0 R2:Reach} {ins outs:List TV} {xs:List Value} {H:St} {a:Act} {kZ:Nat→Value}
theorem mU (hs:cC ⟨P,E,nt,w0,R0,pb ms xs,fR xs,gl⟩ H a w R2 kZ) (hG:∀p∈jk 0 ms,∃x,H p.1=(x,p.2)) {q:Nat} {v:Value} (hm:(ms.getD q .pl).ux) (hv:xs[q]?=some v):∃x g,H (1000000+q)=(x,g)∧(ms.getD q .pl = .rf→g = .cl [])∧(ms.getD q .pl ≠ .rf→g = .pv)∧v=kZ (1000000+q):=by
 have xH:ms[q]?=some (ms.getD q .pl):=by
  cases e:ms[q]? with
  | none=>rw [ai,e] at hm;exact (hm.1 rfl).elim
  | some m=>rw [ai,e];rfl
 have og:v=kZ (1000000+q):=by
  have:kZ (1000000+q)=fR xs (1000000+q):=hs.io.2 _ (Nat.le_add_right _ _)
  rw [this]
  unfold fR
  rw [al (by omega),Nat.add_sub_cancel_left,ai,hv];rfl
 obtain ⟨g1,g2⟩:=oH (ms:=ms) (k:=0) (q:=q)
 rw [Nat.zero_add] at g1 g2
 cases e:ms.getD q .pl <;> rw [e] at hm xH
 ·exact (hm.1 rfl).elim
 ·obtain ⟨x,c1⟩:=hG _ (g1 xH)
  exact ⟨x,_,c1,fun _=>rfl,fun h=>(h rfl).elim,og⟩
 ·obtain ⟨x,c1⟩:=hG _ (g2 (.inl xH))
  exact ⟨x,_,c1,fun h=>by (try cases h),fun _=>rfl,og⟩
 ·obtain ⟨x,c1⟩:=hG _ (g2 (.inr xH))
  exact ⟨x,_,c1,fun h=>by (try cases h),fun _=>rfl,og⟩
 ·exact (hm.2 rfl).elim
theorem rm (hs:cC ⟨P,E,nt,w0,R0,pb ms xs,fR xs,gl⟩ H a w R2 kZ) (hG:∀p∈jk 0 ms,∃x,H p.1=(x,p.2)) (yD:ms.length≤ins.length) (e2:jC H 0 ms=fN ms ins) {q:Nat} {y:TV} {v:Value} (hy:(hY H 0 ms ins)[q]?=some y) (hv:xs[q]?=some v):xB R2 w (ms.getD q .pl) y v:=by
 obtain ⟨y1,y2,y3⟩:=oF hy
 rw [Nat.zero_add] at y1
 by_cases hm:(ms.getD q .pl).ux
 ·obtain ⟨x,g,c1,c2,c3,c4⟩:=mU hs hG hm hv
  have hK:=hs.core.key (1000000+q)
  rw [c1] at hK
  cases e:ms.getD q .pl <;> rw [e] at hm
  ·exact (hm.1 rfl).elim
  ·have rC:=y1 (.inl e)
   rw [c1] at rC
   have:=c2 e
   subst this
   obtain ⟨b,cs,el,zs,p1,p2,p3,p4,p5,p6⟩:=hK
   exact ⟨b,cs,el,zs,by rw [c4];exact p1,p2,by rw [rC];exact p3,p4,by simp,p6⟩
  ·have rC:=y1 (.inr e)
   rw [c1] at rC
   have:=c3 (by rw [e];simp)
   subst this
   rw [rC,c4];exact hK
  ·have xH:ms[q]?=some .sm:=by
    rw [ai,ah y3] at e
    rw [ah y3];exact congrArg some e
   have rC:=oa e2 yD xH (y2 e)
   rw [Nat.zero_add,c1] at rC
   have:=c3 (by rw [e];simp)
   subst this
   rw [rC,c4];exact hK
  ·exact (hm.2 rfl).elim
 ·cases e:ms.getD q .pl <;> rw [e] at hm <;> first | trivial | exact (hm ⟨by simp,by simp⟩).elim
theorem qv {q:Nat} {g:Gh} (c2:ms.getD q .pl = .rf→g = .cl []) (c3:ms.getD q .pl ≠ .rf→g = .pv):g.own=true∧g.s8=false:=by
 by_cases e:ms.getD q .pl = .rf
 ·rw [c2 e];exact ⟨rfl,rfl⟩
 ·rw [c3 e];exact ⟨rfl,rfl⟩
end
theorem nY {nt:Nat} {G:GL} {S:St} {xs:List TV} (h:eY nt G S=some xs) {k m o:Nat} (hm:(k,.ptr m o)∈G):(dn G xs k).1 = .pt:=by
 unfold eY lj at h
 split at h
 ·rename_i hv
  obtain ⟨om,he⟩:=br.1 h
  cases he
  simp only [DJ,ae] at om
  obtain ⟨i,hi⟩:=List.mem_iff_getElem?.1 hm
  have eL:i<xs.length:=by rw [jN hv];exact (av.1 hi).1
  have hx:xs[i]?=some xs[i]:=ah eL
  obtain ⟨us,hu⟩:=jO hv hi hx
  rw [kM om.1.1.1.1 hi hx]
  simp only [pS] at hu
  obtain ⟨_,h2⟩:=br.1 hu
  split at h2
  ·obtain ⟨_,h3⟩:=br.1 h2
   simp only [aA,Prod.mk.injEq] at h3;exact h3.1.symm
  ·cases h2
 ·cases h
theorem Bf {P:Program} {E:cz} {gl:Nat→Option (List Value)} {fn:Func} {sg:cg} {w w0:World} {R0:Reach} {ins outs:List TV} {xs:List Value} {S:St} {a:Act} (hlen:ins.length=xs.length) (hp:xs.length=fn.params.size) (gg:px fn sg=true)
  (h:lH ⟨P,E,fn.ntmps,w0,R0,pb sg.md xs,fR xs,gl⟩ S a w) (ho:ug fn sg=none) (he:uL P fn.ntmps fn sg S=some (outs++fN sg.md ins)) :
  a.defers=[]∧∃x R' eS ys,(results fn a.tmps).run P w = .ok x w∧Ext w0 R0 (pb sg.md xs) w R'∧(∀b o,R' b o→b<w.heap.size)∧pK sg R' w (fun b=>pb sg.md xs b∨w0.heap.size≤b) ins xs outs x eS ys:=by
 simp only [px,ae] at gg
 obtain ⟨⟨⟨⟨⟨⟨⟨b1,b2⟩,b3⟩,b4⟩,b5⟩,b6⟩,b7⟩,b8⟩:=gg
 have b1:fn.ntmps<900000:=Nat.le_of_ble_eq_true b1
 have b2:=Nat.le_of_ble_eq_true b2
 have b3:=Nat.le_of_ble_eq_true b3
 have b4:=aj b4
 have b5:fn.results.size<1000:=Nat.le_of_ble_eq_true b5
 have yD:sg.md.length≤ins.length:=by omega
 rw [ho,Option.isSome_none,Bool.false_or] at b6
 have blt:∀q∈sg.own,q<sg.bC:=fun q hq=>Nat.le_of_ble_eq_true (aw.1 b6 q hq)
 have bs:∀q∈sg.own,Nat.blt q 1000=true:=fun q hq=>Nat.ble_eq_true_of_le (show q+1≤1000 by have:=blt q hq;omega)
 have GC:fX sg.own=true:=aw.2 bs
 have oV:∀q∈sg.own,∀l,jd l q=l[q]?:=fun q hq l=>by unfold jd;rw [bs q hq,ao]
 have oT:∀q∈sg.own,∀l,jZ l q=l[q]?:=fun q hq l=>by unfold jZ;rw [bs q hq,ao]
 obtain ⟨R,τ,h⟩:=h
 simp only [uL,ho] at he
 split at he
 ·rename_i cx S1 hc
  split at he
  ·rename_i ys hr
   obtain ⟨R1,vs,k1,k2,k3,k4,k5,k6⟩:=iT h hc
   obtain ⟨R2,kZ,hs,lx⟩:=jt k1 hr
   have he:=Option.some.inj he
   have gI:=fun {k g}=>gY hr (k:=k) (g:=g)
   generalize hH:dn (wO fn sg) ys=H at *
   have hl:=mT (H:=H) (ms:=sg.md) (k:=0) yD
   obtain ⟨e1,e2⟩:=List.append_inj' he hl
   have pN:(iZ sg.own H 0 fn.results.toList cx).length=sg.bC:=by rw [iL k4,b4,Array.length_toList]
   have CC:vs.length=sg.bC:=by rw [k5,b4,Array.length_toList]
   have zB:outs.take sg.bC=iZ sg.own H 0 fn.results.toList cx:=by rw [←e1,←pN,List.take_left]
   have CU:outs.drop sg.bC=kV H 0 sg.md:=by rw [←e1,←pN,List.drop_left]
   have zI:∀q,sg.own.contains q=true ↔ q∈sg.own:=fun q=>by simp
   -- a result
   have res:∀q v,vs[q]?=some v→∃(r:ResultVar) (x:TV),fn.results.toList[q]?=some r∧cx[q]?=some x∧(match r with | ResultVar.tmp t=>v=a.tmps.getD t undef | ResultVar.cell _ _=>Rep R1 w x v∧q ∉ sg.own):=fun q v hv=>by
    have eL:=(av.1 hv).1
    have h1:fn.results.toList[q]?=some (fn.results.toList[q]'(by omega)):=ah _
    have h2:cx[q]?=some (cx[q]'(by omega)):=ah _
    have:=k6 q _ _ v h1 h2 hv
    rw [Nat.zero_add] at this
    exact ⟨_,_,h1,h2,this⟩
   have vz:∀k x g,H k=(x,g)→k<fn.ntmps→cp R2 w kZ x g (a.tmps.getD k undef):=fun k x g hk eL=>by
    have:=iX hs (t:=k) eL
    rw [hk] at this;exact this
   have Ep:∀q,q<sg.bC→outs[q]?=(iZ sg.own H 0 fn.results.toList cx)[q]?:=fun q hq=>by
    rw [←zB,aH,aq hq]
   -- a result of FQ own
   have own:∀q∈sg.own,∀v,vs[q]?=some v→∃y,outs[q]?=some y∧v=kZ (900000+q)∧H (900000+q)=(y,.pv)∧cP R2 w false v y:=fun q hq v hv=>by
    obtain ⟨r,x,r1,r2,r3⟩:=res q v hv
    have eL:=(av.1 hv).1
    cases r with
    | cell=>exact (r3.2 hq).elim
    | tmp t =>
     obtain ⟨m1,m2⟩:=(kF (own:=sg.own) (i:=0) r1).2 (by rw [Nat.zero_add];exact (zI q).2 hq)
     rw [Nat.zero_add] at m1 m2
     obtain ⟨x1,c1,_,c2⟩:=gI (List.mem_append_left _ m1)
     obtain ⟨x2,d1,_⟩:=gI (List.mem_append_left _ m2)
     obtain ⟨c3,rfl⟩:=c2 _ rfl
     have rD:=vz t _ _ c1 c3
     have hK:=hs.core.key (900000+q)
     rw [d1] at hK
     have og:v=kZ (900000+q):=r3.trans rD.1
     refine ⟨x2,?_,og,d1,by rw [og];exact hK⟩
     rw [Ep q (by omega),kE r1 r2,Nat.zero_add]
     simp only [(zI q).2 hq,ao,d1]
   have C6:∀p∈jk 0 sg.md,∃x,H p.1=(x,p.2):=fun p hp=>by obtain ⟨x,c,_⟩:=gI (List.mem_append_right _ hp);exact ⟨x,c⟩
   refine ⟨hs.defers,_,R2,vs,hY H 0 sg.md ins,run_results k3,hs.ext,hs.core.kj,⟨CC,?_,by rw [CC],?_,fun q hq v y hv hy=>?_,by rw [CU];exact nA yD,fun q y v hy hv=>?_,fun q hq v b hv hb=>?_,fun j j' i i' v v' b hj lX hv og hb fT=>?_,fun i hi v b hv hb q u hm hu CZ=>?_⟩⟩
   ·rw [←e1];simp only [ak,pN];omega
   ·refine dX.of (by simp only [km,GC,ao,List.length_mapIdx,ay];rw [CC,←e1,ak,pN];omega) fun q x v hx hv=>?_
    simp only [km,GC,ao,List.getElem?_mapIdx,aG] at hx
    obtain ⟨y,hy,rfl⟩:=hx
    cases Gj:sg.own.contains q with
    | true=>exact .pt _
    | false =>
     rw [af]
     obtain ⟨r,x,r1,r2,r3⟩:=res q v hv
     rw [zB,kE r1 r2,Nat.zero_add] at hy
     cases r with
     | cell=>cases hy;exact r3.1.mono lx
     | tmp t =>
      simp only [Gj,af,aA] at hy
      subst hy
      have m1:=(kF (own:=sg.own) (i:=0) r1).1 (by rw [Nat.zero_add];exact Gj)
      obtain ⟨x1,c1,c2,_⟩:=gI (List.mem_append_left _ m1)
      rw [c1,r3]
      exact fg.rep (vz t _ _ c1 (c2 rfl))
   ·rw [oV q hq] at hv
    rw [oT q hq] at hy
    obtain ⟨y',o1,_,_,o2⟩:=own q hq v hv
    rw [o1] at hy;cases hy;exact o2
   ·exact rm hs C6 yD e2 hy hv
   ·rw [oV q hq] at hv
    obtain ⟨y,_,o1,o2,_⟩:=own q hq v hv
    rw [o1] at hb
    exact hs.core.b9 (900000+q) b (dM (by rw [o2];rfl) (by rw [o2];rfl) hb)
   ·rw [oV i (az hj)] at hv
    rw [oV i' (az lX)] at og
    obtain ⟨y,_,o1,o2,_⟩:=own i (az hj) v hv
    obtain ⟨y',_,He,FT,_⟩:=own i' (az lX) v' og
    rw [o1] at hb
    rw [He] at fT
    have:=hs.core.kh (dM (by rw [o2];rfl) (by rw [o2];rfl) hb) (dM (by rw [FT];rfl) (by rw [FT];rfl) fT)
    have:i=i':=by omega
    subst this
    exact qT b7 hj lX
   ·rw [oV i hi] at hv
    obtain ⟨y,_,o1,o2,_⟩:=own i hi v hv
    obtain ⟨x,g,c1,c2,c3,c4⟩:=mU hs C6 hm hu
    rw [o1] at hb
    rw [c4] at CZ
    have CJ:=qv c2 c3
    have:=hs.core.kh (dM (by rw [o2];rfl) (by rw [o2];rfl) hb) (dM (by rw [c1];exact CJ.1) (by rw [c1];exact CJ.2) CZ)
    have eL:=(av.1 hv).1
    have:fn.results.size=sg.bC:=b4.symm
    omega
  ·cases he
 ·cases he
theorem Bc {P:Program} {E:cz} {gl:Nat→Option (List Value)} {fn:Func} {sg:cg} {w w0:World} {R0:Reach} {ins outs:List TV} {xs:List Value} {S:St} {a:Act} {r c:Nat} {t:TypeId} (hlen:ins.length=xs.length) (hp:xs.length=fn.params.size) (gg:px fn sg=true)
  (h:lH ⟨P,E,fn.ntmps,w0,R0,pb sg.md xs,fR xs,gl⟩ S a w) (ho:ug fn sg=some ((r,t),c)) (he:uL P fn.ntmps fn sg S=some (outs++fN sg.md ins)) :
  a.defers=[]∧∃x R' eS ys,(results fn a.tmps).run P w = .ok x w∧Ext w0 R0 (pb sg.md xs) w R'∧(∀b o,R' b o→b<w.heap.size)∧pK sg R' w (fun b=>pb sg.md xs b∨w0.heap.size≤b) ins xs outs x eS ys:=by
 simp only [px,ae] at gg
 obtain ⟨⟨⟨⟨⟨⟨⟨b1,b2⟩,b3⟩,b4⟩,b5⟩,b6⟩,b7⟩,b8⟩:=gg
 have b1:fn.ntmps<900000:=Nat.le_of_ble_eq_true b1
 have b3:=Nat.le_of_ble_eq_true b3
 have b4:=aj b4
 have yD:sg.md.length≤ins.length:=by omega
 obtain ⟨R,τ,h⟩:=h
 simp only [uL,ho] at he
 obtain ⟨wv,yA⟩:fn.results.toList=[.cell r t]∧sg.own=[1000+c]:=by
  unfold ug at ho
  split at ho
  ·rename_i a' t' j h1 h2
   cases hb:Nat.blt j 1000 with
   | true=>rw [hb] at ho;cases ho
   | false =>
    rw [hb] at ho;cases ho
    have:1000≤j:=Nat.le_of_not_lt fun eL=>by rw [show Nat.blt j 1000=true from Nat.ble_eq_true_of_le eL] at hb;cases hb
    rw [h1,h2,show 1000+(j - 1000)=j by omega];exact ⟨rfl,rfl⟩
  ·cases ho
 have yC:sg.bC=1:=by rw [b4,←Array.length_toList,wv];rfl
 unfold Df at he
 split at he
 ·rename_i m n IK Ho
  split at he
  ·rename_i ys hr
   obtain ⟨R2,kZ,hs,lx⟩:=jt h hr
   have gI:=fun {k g}=>gY hr (k:=k) (g:=g)
   generalize hH:dn (uN r m c sg) ys=H at *
   obtain ⟨x1,c1,_,_⟩:=gI (k:=r) (g := .ptr m 0) (List.mem_cons_self ..)
   obtain ⟨x2,c2,_,_⟩:=gI (k:=m) (g := .cl [(c,900000)]) (List.mem_cons_of_mem _ (List.mem_cons_self ..))
   obtain ⟨y,c3,_,_⟩:=gI (k:=900000) (g := .pv) (List.mem_cons_of_mem _ (List.mem_cons_of_mem _ (List.mem_cons_self ..)))
   have C6:∀p∈jk 0 sg.md,∃x,H p.1=(x,p.2):=fun p hp=>by obtain ⟨x,c,_⟩:=gI (List.mem_cons_of_mem _ (List.mem_cons_of_mem _ (List.mem_cons_of_mem _ hp)));exact ⟨x,c⟩
   rw [c2] at he
   split at he
   ·rename_i cs g e
    cases e
    obtain ⟨hh,he⟩:=br.1 he
    simp only [ae] at hh
    have hn:=aj hh.1
    have pN:r<fn.ntmps:=Nat.le_of_ble_eq_true hh.2
    have he:=Option.some.inj he
    have hl:=mT (H:=H) (ms:=sg.md) (k:=0) yD
    rw [←List.cons_append] at he
    obtain ⟨e1,e2⟩:=List.append_inj' he hl
    rw [c3] at e1
    have oh:=iX hs (t:=r) pN
    rw [c1] at oh
    have hV:=hs.core.key m
    rw [c2] at hV
    obtain ⟨b,zs,el,xC,p1,p2,p3,p4,p5,p6⟩:=hV
    cases p3
    have hv:a.tmps.getD r undef = .pointer (some ⟨b,0,none⟩):=by
     have EA:=nY hr (List.mem_cons_self ..)
     rw [hH,c1] at EA
     simp only at EA
     subst EA
     obtain ⟨b',q1,q2⟩:∃b',kZ m = .pointer (some ⟨b',0,none⟩)∧a.tmps.getD r undef = .pointer (some ⟨b',0,none⟩):=oh
     rw [p1] at q1;cases q1;exact q2
    have hy:=p5 (c,900000) (List.mem_singleton.2 rfl)
    simp only at hy
    have hK:=hs.core.key 900000
    rw [c3] at hK
    obtain ⟨inf,hi,kb,ha⟩:=dU Ho
    have Ez:=p4.length
    have vh:c<zs.length:=(av.1 hy).1
    have fy:(fn.results.toList.mapM (oR a.tmps)).run P w = .ok [.agg ⟨zs⟩] w:=by
     rw [wv]
     simp only [List.mapM_cons,List.mapM_nil,oR,hv,asAddr,Sem.run_bind,Sem.run_pure,Result.andThen_ok,fe hi ha (.inl rfl) (w:=w) (b:=b) (off:=0) (ys:=zs) (by omega) (fun j y hj=>by simp only [World.cell?,p2];simpa using hj),if_true]
    have EN:Nat.blt (1000+c) 1000=false:=by
     cases hb:Nat.blt (1000+c) 1000 with
     | false=>rfl
     | true=>have:1000+c+1≤1000:=Nat.le_of_ble_eq_true hb;omega
    have oV:∀q∈sg.own,∀v,jd [.agg ⟨zs⟩] q=some v→v=kZ 900000:=fun q hq v hv=>by
     rw [yA,List.mem_singleton] at hq
     subst hq
     unfold jd at hv
     simp only [EN,af,List.getElem?_cons_zero,Nat.add_sub_cancel_left] at hv
     rw [hy] at hv;cases hv;rfl
    have F6:∀{v b},v=kZ 900000→Value.dq v=some b→dq kZ H 900000=some b:=fun e hb=>by subst e;exact dM (by rw [c3];rfl) (by rw [c3];rfl) hb
    refine ⟨hs.defers,_,R2,[.agg ⟨zs⟩],hY H 0 sg.md ins,run_results fy,hs.ext,hs.core.kj,⟨yC.symm,?_,by rw [yC];rfl,?_,fun q hq v y' hv rC=>?_,by rw [yC,←e1];exact nA yD,fun q y v hy hv=>?_,fun q hq v b hv hb=>?_,fun j j' i i' v v' b hj lX hv og hb fT=>?_,fun i hi v b hv hb q u hm hu CZ=>?_⟩⟩
    ·rw [yC,←e1];simp
    ·have CG:fX [1000+c]=false:=by unfold fX;rw [List.all_cons,EN];rfl
     rw [yC,←e1,yA]
     simp only [List.take_succ_cons,List.take_zero,km,CG,af,aP,bo,DI]
     refine .cons (.ag ?_) .nil
     have:((cs.set c y).mapIdx fun k z=>cond ([1000+c].contains (1000+k)) TV.pt z)=cs.set c .pt:=by
      apply List.ext_getElem?
      intro k
      rw [List.getElem?_mapIdx,List.getElem?_set,List.getElem?_set]
      by_cases e:c=k
      ·subst e;simp [show c<cs.length by omega]
      ·have e':¬k=c:=fun h=>e h.symm
       simp [e,e']
     rw [this]
     exact p4.set fun _ _ => .pt _
    ·rw [oV q hq v hv]
     rw [yA,List.mem_singleton] at hq
     subst hq
     unfold jZ at rC
     rw [←e1] at rC
     simp only [EN,af,List.getElem?_cons_zero,Nat.add_sub_cancel_left,List.getElem?_set,if_true,show c<cs.length by omega] at rC
     cases rC;exact hK
    ·exact rm hs C6 yD e2 hy hv
    ·exact hs.core.b9 900000 b (F6 (oV q hq v hv) hb)
    ·rw [yA] at hj lX
     have:=(av.1 hj).1
     have:=(av.1 lX).1
     simp at *;omega
    ·obtain ⟨x,g,d1,d2,d3,d4⟩:=mU hs C6 hm hu
     rw [d4] at CZ
     have CJ:=qv d2 d3
     have:=hs.core.kh (F6 (oV i hi v hv) hb) (dM (by rw [d1];exact CJ.1) (by rw [d1];exact CJ.2) CZ)
     omega
   ·cases he
  ·cases he
 ·cases he
theorem Bd {P:Program} {E:cz} {gl:Nat→Option (List Value)} {fn:Func} {sg:cg} {w w0:World} {R0:Reach} {ins outs:List TV} {xs:List Value} {S:St} {a:Act} (hlen:ins.length=xs.length) (hp:xs.length=fn.params.size) (gg:px fn sg=true)
  (h:lH ⟨P,E,fn.ntmps,w0,R0,pb sg.md xs,fR xs,gl⟩ S a w) (he:uL P fn.ntmps fn sg S=some (outs++fN sg.md ins)) :
  a.defers=[]∧∃x R' eS ys,(results fn a.tmps).run P w = .ok x w∧Ext w0 R0 (pb sg.md xs) w R'∧(∀b o,R' b o→b<w.heap.size)∧pK sg R' w (fun b=>pb sg.md xs b∨w0.heap.size≤b) ins xs outs x eS ys:=by
 cases ho:ug fn sg with
 | none=>exact Bf hlen hp gg h ho he
 | some p=>obtain ⟨⟨r,t⟩,c⟩:=p;exact Bc hlen hp gg h ho he
end Go.Eng
namespace Go.Eng
open Go.RowKit
theorem rT:∀{rs:List ResultVar} {i q t:Nat},rs[q]?=some (.tmp t)→(t,.no)∈iM [] i rs:=fun {rs i q t} h=>(kF (own:=[]) (i:=i) h).1 (by simp)
theorem ob (ins:List TV):fN [] ins=[]:=by cases ins <;> rfl
theorem sQ {C:Ctx} {a:Act} {w:World} {R1 R2:Reach} {kZ:Nat→Value} {G:GL} {ys cx:List TV} {S:St} {rs:List ResultVar} {i:Nat} {vs:List Value} (hr:eY C.nt G S=some ys) (hs:cC C (dn G ys) a w R2 kZ) (cj:cD R1 w R2 w) (hG:∀p∈iM [] i rs,p∈G) (k4:cx.length=rs.length) (k5:vs.length=rs.length)
  (k6:∀(q:Nat) (r:ResultVar) (x:TV) (v:Value),rs[q]?=some r→cx[q]?=some x→vs[q]?=some v→match r with | .tmp t=>v=a.tmps.getD t undef | .cell _ _=>Rep R1 w x v∧(i+q) ∉ ([]:List Nat)):dX R2 w (iZ [] (dn G ys) i rs cx) vs:=by
 refine dX.of (by rw [iL k4,k5]) fun q x v hx hv=>?_
 have eL:=(av.1 hv).1
 have h1:rs[q]?=some (rs[q]'(by omega)):=ah _
 have h2:cx[q]?=some (cx[q]'(by omega)):=ah _
 have h3:=k6 q _ _ v h1 h2 hv
 rw [kE h1 h2] at hx
 generalize rs[q]'(by omega)=r at *
 cases r with
 | cell=>cases hx;exact h3.1.mono cj
 | tmp t =>
  simp only [List.contains_nil,af,aA] at hx
  subst hx
  obtain ⟨x1,c1,c2,_⟩:=gY hr (hG _ (rT h1))
  have rD:=iX hs (t:=t) (c2 rfl)
  rw [c1] at rD
  rw [c1,h3]
  exact fg.rep rD
def sE (xs:List Value) (i:Nat) (u:Value) (k:Nat):Value:=if k<1000000 then xs.getD k undef else if k=1000000 then xs.getD i undef else if k=1000001 then u else undef
def DO (b:Nat) (e:Bool) (u:Value) (g:Nat):Prop:=g=b∨(e=true∧Value.dq u=some g)
theorem xr {P:Program} {E:cz} {gl:Nat→Option (List Value)} {nt i c b:Nat} {e:Bool} {w:World} {R:Reach} {ins x:List TV} {xs zs:List Value} {u:Value} {y:TV} {el:TypeId} (hn:xs.length≤nt) (xG:nt≤1000000) (hR:∀b o,R b o→b<w.heap.size) (qH:GlOK gl R w) (hl:ins.length=xs.length+1)
  (nD:∀j x v,j≠i→ins[j]?=some x→xs[j]?=some v→Rep R w x v) (BP:xs[i]?=some (.pointer (some ⟨b,0,none⟩))) (E0:ins[i]?=some (.ag x)) (hb:w.heap[b]?=some (.cells ⟨zs⟩ el (0,0))) (hL:bV R w x zs) (AW:∀o,¬R b o) (hu:zs[c]?=some u) (hy:ins[xs.length]?=some y) (he:e=true→cP R w false u y∧Value.dq u≠some b) :
  cC ⟨P,E,nt,w,R,DO b e u,sE xs i u,gl⟩ (ve xs.length i c e ins) { tmps:=(⟨xs⟩:Array Value)++Array.replicate (nt - xs.length) undef,defers:=[] } w R (sE xs i u):=by
 have hi:i<xs.length:=(av.1 BP).1
 have blt:∀{k n:Nat},¬k<n→Nat.blt k n=false:=fun {k n} h=>by
  cases hb:Nat.blt k n with
  | false=>rfl
  | true=>exact absurd (Nat.le_of_ble_eq_true hb:k+1≤n) (by omega)
 have bne:∀{k n:Nat},k≠n→Nat.beq k n=false:=fun {k n} h=>by
  cases hb:Nat.beq k n with
  | false=>rfl
  | true=>exact absurd (aj hb) h
 have s1:∀k,k<xs.length→ve xs.length i c e ins k=if k=i then (.pt,.ptr 1000000 0) else (ins.getD k .dead,.no):=fun k hk=>by
  unfold ve
  rw [show Nat.blt k xs.length=true from Nat.ble_eq_true_of_le hk,ao]
  by_cases h:k=i
  ·subst h;simp
  ·rw [bne h,af,al h]
 have s2:ve xs.length i c e ins 1000000=(.ag x,.cl (cond e [(c,1000001)] [])):=by
  unfold ve
  rw [blt (by omega),af]
  simp only [Nat.beq_refl,ao]
  rw [ai,E0];rfl
 have s3:e=true→ve xs.length i c e ins 1000001=(y,.pv):=fun he=>by
  unfold ve
  rw [blt (by omega),af,bne (by omega),af,he]
  simp only [Nat.beq_refl,Bool.true_and,ao]
  rw [ai,hy];rfl
 have s4:∀k,xs.length≤k→k≠1000000→(k=1000001→e=false)→ve xs.length i c e ins k=(.dead,.no):=fun k h1 h2 h3=>by
  unfold ve
  rw [blt (by omega),af,bne h2,af]
  by_cases h:k=1000001
  ·rw [h3 h];rfl
  ·rw [bne h,Bool.and_false,af]
 have cs:∀k,k<xs.length∨k=1000000∨(k=1000001∧e=true)∨(xs.length≤k∧k≠1000000∧(k=1000001→e=false)):=fun k=>by
  by_cases h1:k<xs.length
  ·exact .inl h1
  by_cases h2:k=1000000
  ·exact .inr (.inl h2)
  cases e with
  | true =>
   by_cases h3:k=1000001
   ·exact .inr (.inr (.inl ⟨h3,rfl⟩))
   ·exact .inr (.inr (.inr ⟨by omega,h2,fun h=>(h3 h).elim⟩))
  | false=>exact .inr (.inr (.inr ⟨by omega,h2,fun _=>rfl⟩))
 have t1:∀k,k<xs.length→sE xs i u k=xs.getD k undef:=fun k hk=>by unfold sE;rw [aq (by omega)]
 have t2:sE xs i u 1000000 = .pointer (some ⟨b,0,none⟩):=by unfold sE;rw [al (by omega),aq rfl,ai,BP];rfl
 have t3:sE xs i u 1000001=u:=by unfold sE;rw [al (by omega),al (by omega),aq rfl]
 have own:∀k,(ve xs.length i c e ins k).2.own=true→k=1000000∨(k=1000001∧e=true):=fun k ho=>by
  rcases cs k with h | h | h | ⟨h1,h2,h3⟩
  ·rw [s1 k h] at ho;split at ho <;> cases ho
  ·exact .inl h
  ·exact .inr h
  ·rw [s4 k h1 h2 h3] at ho;cases ho
 have bk:∀k g,dq (sE xs i u) (ve xs.length i c e ins) k=some g→(k=1000000∧g=b)∨(k=1000001∧e=true∧Value.dq u=some g):=fun k g hb=>by
  obtain ⟨o1,b1⟩:=cW hb
  rcases own k o1 with rfl | ⟨rfl,h⟩
  ·rw [t2] at b1;cases b1;exact .inl ⟨rfl,rfl⟩
  ·rw [t3] at b1;exact .inr ⟨rfl,h,b1⟩
 refine ⟨by simp;omega,rfl,⟨fun k=>?_,fun k k' g hb fT=>?_,fun k g hb=>?_,fun j k hk=>?_,hR,fun k hk=>?_,fun k d hk=>?_⟩,fun t ht=>?_,⟨xG,fun k _=>rfl⟩,Ext.refl _ _ _,qH⟩
 ·rcases cs k with h | rfl | ⟨rfl,h⟩ | ⟨h1,h2,h3⟩
  ·rw [s1 k h,t1 k h]
   by_cases hk:k=i
   ·subst hk
    rw [aq rfl]
    exact ⟨b,t2,by rw [ai,BP];rfl⟩
   ·rw [al hk]
    have e1:xs[k]?=some (xs.getD k undef):=by rw [ai,ah h];rfl
    have e2:ins[k]?=some (ins.getD k .dead):=by rw [ai,ah (by omega:k<ins.length)];rfl
    exact cp.no (nD k _ _ hk e2 e1)
  ·rw [s2,t2]
   refine ⟨b,zs,el,x,rfl,hb,rfl,hL,fun t ht=>?_,AW⟩
   cases e with
   | false=>cases ht
   | true =>
    rw [ao,List.mem_singleton] at ht
    subst ht
    rw [t3];exact hu
  ·rw [s3 h,t3];exact (he h).1
  ·rw [s4 k h1 h2 h3];exact cp.no (τ:=sE xs i u) (.dead _)
 ·rcases bk k g hb with ⟨rfl,rfl⟩ | ⟨rfl,h,e1⟩ <;> rcases bk k' _ fT with ⟨rfl,h2⟩ | ⟨rfl,h2,e2⟩
  ·rfl
  ·exact ((he h2).2 e2).elim
  ·subst h2;exact ((he h).2 e1).elim
  ·rfl
 ·rcases bk k g hb with ⟨_,rfl⟩ | ⟨_,h,e1⟩
  ·exact .inl (.inl rfl)
  ·exact .inl (.inr ⟨h,e1⟩)
 ·rcases cs j with h | rfl | ⟨rfl,h⟩ | ⟨h1,h2,h3⟩
  ·rw [s1 j h] at hk
   split at hk
   ·simp only [Gh.bN,List.mem_singleton] at hk
    subst hk
    exact ⟨xG,by rw [s2];simp⟩
   ·cases hk
  ·rw [s2] at hk
   cases e with
   | false=>cases hk
   | true =>
    simp only [ao,Gh.bN,aP,bo,List.mem_singleton] at hk
    subst hk
    exact ⟨by show nt≤1000001;omega,by rw [s3 rfl];simp⟩
  ·rw [s3 h] at hk;cases hk
  ·rw [s4 j h1 h2 h3] at hk;cases hk
 ·have hk:k<nt:=hk
  rcases cs k with h | rfl | ⟨rfl,h⟩ | ⟨h1,h2,h3⟩
  ·rw [s1 k h];split <;> rfl
  ·omega
  ·omega
  ·rw [s4 k h1 h2 h3];rfl
 ·rcases cs k with h | rfl | ⟨rfl,h⟩ | ⟨h1,h2,h3⟩
  ·rw [s1 k h] at hk;split at hk <;> cases hk
  ·rw [s2] at hk;cases hk
  ·rw [s3 h] at hk;cases hk
  ·rw [s4 k h1 h2 h3] at hk;cases hk
 ·have ht:t<nt:=ht
  unfold sE
  rw [aq (by omega)]
  simp only [Array.getD_eq_getD_getElem?,Array.getElem?_append,List.size_toArray]
  by_cases h:t<xs.length
  ·simp [h,ai]
  ·have EC:t - xs.length<nt - xs.length:=by omega
   rw [al h,ai,List.getElem?_eq_none (by omega)]
   simp [EC]
theorem Bb {P:Program} {E:cz} {gl:Nat→Option (List Value)} {fn:Func} {c b:Nat} {e:Bool} {u:Value} {BL:Nat→Value} {w w0:World} {R0:Reach} {outs:List TV} {S:St} {a:Act} (ht0:BL 1000000 = .pointer (some ⟨b,0,none⟩))
  (h:lH ⟨P,E,fn.ntmps,w0,R0,DO b e u,BL,gl⟩ S a w) (he:A5 P fn.ntmps fn c S=some outs) :
  a.defers=[]∧∃R' eS sF xL x' u' y',(results fn a.tmps).run P w = .ok (if eS.length=1 then eS.headD undef else .tuple ⟨eS⟩) w∧Ext w0 R0 (DO b e u) w R'∧(∀b o,R' b o→b<w.heap.size)∧eS.length=fn.results.size∧outs.drop fn.results.size=[.ag x',y']∧dX R' w (outs.take fn.results.size) eS ∧
   w.heap[b]?=some (.cells ⟨sF⟩ xL (0,0))∧bV R' w x' sF∧(∀o,¬R' b o)∧sF[c]?=some u'∧cP R' w false u' y'∧∀g,Value.dq u'=some g→g≠b∧((e=true∧Value.dq u=some g)∨w0.heap.size≤g):=by
 obtain ⟨R,τ,h⟩:=h
 unfold A5 at he
 split at he <;> try (cases he;done)
 rename_i cx S1 hc
 split at he <;> try (cases he;done)
 rename_i ys hr
 obtain ⟨R1,vs,k1,k2,k3,k4,k5,k6⟩:=iT h hc
 obtain ⟨R2,kZ,hs,lx⟩:=jt k1 hr
 have he:=Option.some.inj he
 have gI:=fun {k g}=>gY hr (k:=k) (g:=g)
 have fq:=sQ hr hs lx (i:=0) (rs:=fn.results.toList) (fun p hp=>List.mem_cons_of_mem _ (List.mem_cons_of_mem _ hp)) k4 k5 k6
 obtain ⟨x1,c1,_,_⟩:=gI (k:=1000000) (g := .cl [(c,910000)]) (List.mem_cons_self ..)
 obtain ⟨y1,c2,_,_⟩:=gI (k:=910000) (g := .pv) (List.mem_cons_of_mem _ (List.mem_cons_self ..))
 generalize hH:dn ((1000000,.cl [(c,910000)]) :: (910000,.pv) :: iM [] 0 fn.results.toList) ys=H at *
 rw [c1,c2] at he
 have pN:(iZ [] H 0 fn.results.toList cx).length=fn.results.size:=by rw [iL k4,Array.length_toList]
 have CC:vs.length=fn.results.size:=by rw [k5,Array.length_toList]
 have C5:=hs.core.key 1000000
 rw [c1] at C5
 obtain ⟨b',zs,el,x2,p1,p2,p3,p4,p5,p6⟩:=C5
 have fT:kZ 1000000 = .pointer (some ⟨b,0,none⟩):=(hs.io.2 1000000 (Nat.le_refl _)).trans ht0
 rw [fT] at p1;cases p1
 simp only at p3
 subst p3
 have C4:=hs.core.key 910000
 rw [c2] at C4
 have xK:dq kZ H 1000000=some b:=dM (by rw [c1];rfl) (by rw [c1];rfl) (by rw [fT];rfl)
 refine ⟨hs.defers,R2,vs,zs,el,x2,kZ 910000,y1,run_results k3,hs.ext,hs.core.kj,CC,?_,?_,p2,p4,p6,p5 _ (List.mem_singleton.2 rfl),C4,fun g hg=>?_⟩
 ·rw [←he,←pN,List.drop_left]
 ·rw [←he,←pN,List.take_left];exact fq
 ·have zL:dq kZ H 910000=some g:=dM (by rw [c2];rfl) (by rw [c2];rfl) hg
  have gf:g≠b:=fun e=>by subst e;have:=hs.core.kh xK zL;omega
  refine ⟨gf,?_⟩
  rcases hs.core.b9 910000 g zL with (h | h) | h
  ·exact (gf h).elim
  ·exact .inl h
  ·exact .inr h
theorem Be {P:Program} {E:cz} {gl:Nat→Option (List Value)} {fn:Func} {oc:Option Nat} {BL:Nat→Value} {io:Nat→Prop} {w w0:World} {R0:Reach} {outs:List TV} {S:St} {a:Act} (td:∀b,¬io b) (xG:fn.ntmps<900000)
  (h:lH ⟨P,E,fn.ntmps,w0,R0,io,BL,gl⟩ S a w) (he:A6 P fn.ntmps fn oc S=some outs) :
  a.defers=[]∧∃R' eS b zs el x rs,(results fn a.tmps).run P w = .ok (if eS.length+1=1 then .pointer (some ⟨b,0,none⟩) else .tuple ⟨.pointer (some ⟨b,0,none⟩) :: eS⟩) w∧Ext w0 R0 (fun _=>False) w R'∧(∀b o,R' b o→b<w.heap.size)∧eS.length+1=fn.results.size∧outs.take fn.results.size = .ag x :: rs∧dX R' w rs eS ∧
   w0.heap.size≤b∧w.heap[b]?=some (.cells ⟨zs⟩ el (0,0))∧bV R' w x zs∧(∀o,¬R' b o)∧DA R' w w0.heap.size b zs (outs.drop fn.results.size) oc:=by
 obtain ⟨R,τ,h⟩:=h
 unfold A6 at he
 split at he <;> try (cases he;done)
 rename_i t Ak wv
 split at he <;> try (cases he;done)
 rename_i m Gp
 split at he <;> try (cases he;done)
 rename_i cx S1 hc
 split at he <;> try (cases he;done)
 rename_i ys hr
 obtain ⟨R1,vs,k1,k2,k3,k4,k5,k6⟩:=iT h hc
 obtain ⟨R2,kZ,hs,lx⟩:=jt k1 hr
 have he:=Option.some.inj he
 have gI:=fun {k g}=>gY hr (k:=k) (g:=g)
 have fq:=sQ hr hs lx (i:=1) (rs:=Ak) (fun p hp=>List.mem_append_right _ hp) k4 k5 k6
 have kb:fn.results.size=Ak.length+1:=by rw [←Array.length_toList,wv];rfl
 have g1:(t,.ptr m 0)∈gN t m oc:=by cases oc <;> exact List.mem_cons_self ..
 have g2:∃ts,(m,.cl ts)∈gN t m oc∧(match oc with | none=>ts=[] | some c=>ts=[(c,910000)]∧(910000,.pv)∈gN t m oc):=by
  cases oc with
  | none=>exact ⟨_,List.mem_cons_of_mem _ (List.mem_cons_self ..),rfl⟩
  | some c=>exact ⟨_,List.mem_cons_of_mem _ (List.mem_cons_self ..),rfl,List.mem_cons_of_mem _ (List.mem_cons_of_mem _ (List.mem_cons_self ..))⟩
 obtain ⟨ts,g2,g3⟩:=g2
 obtain ⟨x0,c0,_,_⟩:=gI (List.mem_append_left _ g1)
 obtain ⟨x1,c1,_,_⟩:=gI (List.mem_append_left _ g2)
 have Ea:=nY hr (List.mem_append_left _ g1)
 rw [c0] at Ea
 simp only at Ea
 subst Ea
 generalize hH:dn (gN t m oc++iM [] 1 Ak) ys=H at *
 have pN:(iZ [] H 1 Ak cx).length=Ak.length:=iL k4
 have C5:=hs.core.key m
 rw [c1] at C5
 obtain ⟨b,zs,el,x2,p1,p2,p3,p4,p5,p6⟩:=C5
 simp only at p3
 subst p3
 have H2:=hs.core.key t
 rw [c0] at H2
 have ID:t<fn.ntmps∨¬t<fn.ntmps:=Nat.lt_or_ge .. |>.imp id Nat.not_lt.2
 have xK:dq kZ H m=some b:=dM (by rw [c1];rfl) (by rw [c1];rfl) (by rw [p1];rfl)
 have B1:w0.heap.size≤b:=(hs.core.b9 m b xK).resolve_left (td b)
 have hv:a.tmps.getD t undef = .pointer (some ⟨b,0,none⟩):=by
  have Hn:t<fn.ntmps:=by
   have hh:=hr
   unfold eY lj at hh
   split at hh
   ·rename_i F0
    obtain ⟨i,hi⟩:=List.mem_iff_getElem?.1 (List.mem_append_left (iM [] 1 Ak) g1)
    obtain ⟨us,hu⟩:=jO F0 hi (x:=_) (ah (by rw [jN F0];exact (av.1 hi).1))
    simp only [pS] at hu
    exact Nat.le_of_ble_eq_true (br.1 hu).1
   ·cases hh
  have rD:=iX hs (t:=t) Hn
  rw [c0] at rD
  obtain ⟨b',q1,q2⟩:∃b',kZ m = .pointer (some ⟨b',0,none⟩)∧a.tmps.getD t undef = .pointer (some ⟨b',0,none⟩):=rD
  rw [p1] at q1;cases q1;exact q2
 have fy:(fn.results.toList.mapM (oR a.tmps)).run P w = .ok (.pointer (some ⟨b,0,none⟩) :: vs) w:=by
  rw [wv]
  simp only [List.mapM_cons,oR,Sem.run_bind,Sem.run_pure,Result.andThen_ok,k3,hv]
 have EF:=run_results fy
 rw [c1] at he
 refine ⟨hs.defers,R2,vs,b,zs,el,x2,iZ [] H 1 Ak cx,?_,⟨hs.ext.os,hs.ext.tape,hs.ext.output,hs.ext.size,fun g hg _=>hs.ext.heap g hg (td g),hs.ext.cj,fun g o hg=>(hs.ext.oQ g o hg).imp id fun h=>h.imp id (td g)⟩,hs.core.kj,by rw [k5,kb],?_,fq,B1,p2,p4,p6,?_⟩
 ·rw [EF]
  simp only [aJ]
  split <;> rfl
 ·rw [←he,kb,List.take_succ_cons,←pN,List.take_left]
 ·cases oc with
  | none =>
   show outs.drop fn.results.size=[]
   rw [←he,kb,List.drop_succ_cons,←pN,List.drop_left]
  | some k =>
   obtain ⟨rfl,g4⟩:=g3
   obtain ⟨y1,c2,_,_⟩:=gI (List.mem_append_left _ g4)
   have C4:=hs.core.key 910000
   rw [c2] at C4
   refine ⟨y1,kZ 910000,?_,p5 _ (List.mem_singleton.2 rfl),C4,fun g hg=>?_⟩
   ·rw [←he,kb,List.drop_succ_cons,←pN,List.drop_left]
    simp only [c2]
   ·have zL:dq kZ H 910000=some g:=dM (by rw [c2];rfl) (by rw [c2];rfl) hg
    have gf:g≠b:=fun e=>by
     subst e
     have:=hs.core.kh xK zL
     rw [this] at c1
     rw [c1] at c2;cases c2
    exact ⟨gf,(hs.core.b9 910000 g zL).resolve_left (td g)⟩
theorem sK {P:Program} {E:cz} {gl:Nat→Option (List Value)} (hE:fj P E) (hF:∀f,bE P gl f (E.fs f)) {f:Nat} {c:eE} {sg:cg} (hint:Hint) (hG:∀ins outs,(c ins).holds outs→dD P E f sg hint ins=some (outs++fN sg.md ins)):bE P gl f (c,sg):=by
 have base:∀{ins outs:List TV},(c ins).holds outs→∃fn body,P.funcs[f]?=some fn∧fn.body=some body∧px fn sg=true∧uK fn sg ins=true∧gL P f=true∧fn.ntmps<900000∧fn.params.size≤fn.ntmps∧fn.results.size=sg.bC∧hZ P E fn.ntmps body hint (BO fn.params.size sg ins) (si P fn.ntmps fn sg)=some (outs++fN sg.md ins):=fun {ins outs} hc=>by
  have hr:=hG ins outs hc
  unfold dD at hr
  split at hr <;> try (cases hr;done)
  rename_i fn hf
  split at hr <;> try (cases hr;done)
  rename_i body hb
  obtain ⟨h1,hr⟩:=br.1 hr
  simp only [ae] at h1
  obtain ⟨gg,hl⟩:=h1
  have zG:=gg
  simp only [px,ae] at zG
  obtain ⟨⟨⟨⟨⟨⟨⟨b1,b2⟩,b3⟩,b4⟩,b5⟩,b6⟩,b7⟩,b8⟩:=zG
  refine ⟨fn,body,hf,hb,gg,hl,?_,Nat.le_of_ble_eq_true b1,Nat.le_of_ble_eq_true b2,(aj b4).symm,by rw [tw];exact hr⟩
  unfold gL
  rw [hf]
  simp only [Option.any_some,hb,Option.isSome_some,Bool.true_and]
  exact b8
 unfold bE
 split <;> rename_i hk <;> simp only at hk
 ·intro ins outs hc
  obtain ⟨fn,body,hf,hb,gg,hl,wz,b1,b2,b3,hr⟩:=base hc
  simp only [uK,BO,si,hk] at hl hr
  have hl:=aj hl
  refine ⟨wz,fun w R xs hR qH ha hs=>?_⟩
  have hx:xs.length=fn.params.size:=by rw [←ha.1,hl]
  refine calls_of_wp hf hb ?_
  have kb:(⟨xs⟩:Array Value).size=xs.length:=rfl
  rw [kb]
  have wD:=rk (P:=P) (E:=E) (nt:=fn.ntmps) (by omega) (by omega) hR qH ha hs
  rw [←hx] at hr
  refine se (C:=⟨P,E,fn.ntmps,w,R,pb sg.md xs,fR xs,gl⟩) hE hF body ⟨R,_,wD⟩ hr fun e S' a' w' h' hq=>?_
  have fin:qQ P fn.ntmps fn sg S'=some (outs++fN sg.md ins)→_:=fun hq=>by
   simp only [qQ,hk] at hq
   exact Bd ha.1 hx gg h' hq
  cases e with
  | ret =>
   obtain ⟨d,x,R',eS,ys,k1,k2,k3,k4⟩:=fin hq
   exact ⟨d,x,k1,x,R',eS,ys,rfl,k2,k3,k4⟩
  | normal =>
   obtain ⟨d,x,R',eS,ys,k1,k2,k3,k4⟩:=fin hq
   exact ⟨d,x,k1,x,R',eS,ys,rfl,k2,k3,k4⟩
  | _=>cases hq
 ·rename_i i k e
  intro ins outs hc
  obtain ⟨fn,body,hf,hb,gg,hl,wz,b1,b2,b3,hr⟩:=base hc
  simp only [uK,BO,si,hk,ae] at hl hr
  obtain ⟨hm,hl⟩:=hl
  have hl:=aj hl
  have xH:sg.md=[]:=by simpa using hm
  rw [xH,ob,bm] at hr
  refine ⟨wz,fun w R xs b zs el x u y hR qH yx nD BP E0 HV hL AW hu hy he=>?_⟩
  have hx:xs.length=fn.params.size:=by omega
  refine calls_of_wp hf hb ?_
  have kb:(⟨xs⟩:Array Value).size=xs.length:=rfl
  rw [kb]
  have wD:=xr (P:=P) (E:=E) (nt:=fn.ntmps) (by omega) (by omega) hR qH yx nD BP E0 HV hL AW hu hy he
  rw [←hx] at hr
  refine se (C:=⟨P,E,fn.ntmps,w,R,DO b e u,sE xs i u,gl⟩) hE hF body ⟨R,_,wD⟩ hr fun e' S' a' w' h' hq=>?_
  have ht0:sE xs i u 1000000 = .pointer (some ⟨b,0,none⟩):=by unfold sE;rw [al (by omega),aq rfl,ai,BP];rfl
  have fin:qQ P fn.ntmps fn sg S'=some outs→_:=fun hq=>by
   simp only [qQ,hk] at hq
   exact Bb ht0 h' hq
  rw [←b3]
  cases e' with
  | ret =>
   obtain ⟨d,R',eS,sF,xL,x',u',y',k1,k2⟩:=fin hq
   exact ⟨d,_,k1,R',eS,sF,xL,x',u',y',rfl,k2⟩
  | normal =>
   obtain ⟨d,R',eS,sF,xL,x',u',y',k1,k2⟩:=fin hq
   exact ⟨d,_,k1,R',eS,sF,xL,x',u',y',rfl,k2⟩
  | _=>cases hq
 ·rename_i oc
  intro ins outs hc
  obtain ⟨fn,body,hf,hb,gg,hl,wz,b1,b2,b3,hr⟩:=base hc
  simp only [uK,BO,si,hk,ae] at hl hr
  obtain ⟨hm,hl⟩:=hl
  have hl:=aj hl
  have xH:sg.md=[]:=by simpa using hm
  rw [xH,ob,bm] at hr
  refine ⟨wz,fun w R xs hR qH ha=>?_⟩
  have hx:xs.length=fn.params.size:=by rw [←ha.length,hl]
  refine calls_of_wp hf hb ?_
  have kb:(⟨xs⟩:Array Value).size=xs.length:=rfl
  rw [kb]
  have pl:∀i,([]:List Md).getD i .pl = .pl:=fun i=>by simp
  have wD:=rk (P:=P) (E:=E) (nt:=fn.ntmps) (ms:=[]) (by omega) (by omega) hR qH ⟨ha.length,fun i x v hi hv=>by
   obtain ⟨v',h1,h2⟩:=ha.get i x hi
   rw [hv] at h1;cases h1
   rw [pl i];exact h2⟩ (fun i j v v' b hi=>(hi (pl i)).elim)
  rw [←hx] at hr
  refine se (C:=⟨P,E,fn.ntmps,w,R,pb [] xs,fR xs,gl⟩) hE hF body ⟨R,_,wD⟩ hr fun e' S' a' w' h' hq=>?_
  have fin:=fun hq:qQ P fn.ntmps fn sg S'=some outs=>Be (oc:=oc) (outs:=outs) (by rintro b ⟨i,v,hm,_⟩;exact hm (pl i)) b1 h' (by simpa only [qQ,hk] using hq)
  rw [←b3]
  cases e' with
  | ret =>
   obtain ⟨d,R',eS,b,zs,el,x,rs,k1,k2⟩:=fin hq
   exact ⟨d,_,k1,R',eS,b,zs,el,x,rs,rfl,k2⟩
  | normal =>
   obtain ⟨d,R',eS,b,zs,el,x,rs,k1,k2⟩:=fin hq
   exact ⟨d,_,k1,R',eS,b,zs,el,x,rs,rfl,k2⟩
  | _=>cases hq
end Go.Eng
namespace Go.Eng
open Go.RowKit
def sV:eE × cg:=(fun _ => .err,{})
theorem tS {P:Program} {gl:Nat→Option (List Value)} {f:Nat}:bE P gl f sV:=fun _ _ h=>h.elim
def look {A:Type} (z:A):List (Nat × A)→Nat→A
 | [],_=>z
 | (k,c) :: r,n=>cond (Nat.beq n k) c (look z r n)
abbrev ze:=List (Nat × (ez × Nat))
abbrev Zs:=List (Nat × List TV)
def kJ {A:Type}:List (Nat × A)→Nat→Option A
 | [],_=>none
 | (k,c) :: r,n=>cond (Nat.beq n k) (some c) (kJ r n)
def dH (ty:ze) (z:Zs) (l:List (Nat × (eE × cg))) (ld:List Nat:=[]):cz:=⟨look sV l,kJ ty,kJ z,ld⟩
theorem sh {P:Program} {gl:Nat→Option (List Value)} {l:List (Nat × (eE × cg))} (h:∀p∈l,bE P gl p.1 p.2):∀f,bE P gl f (look sV l f):=by
 intro f
 induction l with
 | nil=>exact tS
 | cons p r ih =>
  obtain ⟨k,c⟩:=p
  simp only [look]
  cases hb:Nat.beq f k with
  | true=>rw [aj hb];exact h (k,c) (List.mem_cons_self ..)
  | false=>exact ih fun q hq=>h q (List.mem_cons_of_mem _ hq)
theorem lr {A:Type} {n:Nat} {x:A}:∀{l:List (Nat × A)},kJ l n=some x→(n,x)∈l
 | (k,c) :: r,h=>by
  simp only [kJ] at h
  cases hb:Nat.beq n k with
  | true=>rw [hb] at h;cases h;rw [aj hb];exact List.mem_cons_self ..
  | false=>rw [hb] at h;exact List.mem_cons_of_mem _ (lr h)
def zS:Value→TV→Bool
 | .slice none 0 0,.sl _ []=>true
 | v,x=>sG v x
def lC:List Value→List TV→Bool
 | [],[]=>true
 | x :: xs,y :: ys=>zS x y&&lC xs ys
 | _,_=>false
theorem oA {R:Reach} {w:World}:∀{vs:List Value} {xs:List TV},lC vs xs=true→bV R w xs vs
 | [],[],_ => .nil
 | v :: vs,x :: xs,h=>by
  simp only [lC,ae] at h
  have h1:Rep R w x v∧v.oneCell'=true:=by
   have:=h.1
   unfold zS at this
   split at this
   ·exact ⟨.sn _,rfl⟩
   ·exact mE this
  exact .cons h1.2 h1.1 (oA h.2)
 | [],_ :: _,h=>by simp [lC] at h
 | _ :: _,[],h=>by simp [lC] at h
def nT (P:Program) (ty:ze):Bool:=ty.all fun p=>match P.underlying p.1 with
 | some (.slice e)=>match P.info? e with
  | some i=>Nat.beq i.size p.2.1.size&&Nat.beq i.bytes p.2.2&&(match i.zero with
   | some z=>lC z.cells.toList (p.2.1.tv p.2.1.iH).cells
   | none=>false)
  | none=>false
 | _=>false
def tL (P:Program) (z:Zs):Bool:=z.all fun p=>jH P p.1&&match (P.info? p.1).bind (·.zero) with
 | some v=>jm v.cells.toList p.2
 | none=>false
theorem sf {P:Program} {ty:ze} {z:Zs} {l:List (Nat × (eE × cg))} {ld:List Nat} (hm:P.follows .mixedOrders=true) (h1:nT P ty=true) (h2:tL P z=true):fj P (dH ty z l ld):=by
 refine ⟨hm,fun t st b he=>?_,fun t c he=>?_⟩
 ·have:=aw.1 h1 _ (lr (l:=ty) he)
  simp only at this
  split at this
  ·rename_i e hu
   split at this
   ·rename_i i hi
    simp only [ae] at this
    obtain ⟨⟨k1,k2⟩,k3⟩:=this
    split at k3
    ·rename_i zv hz
     have hL:∀R w,bV R w (st.tv st.iH).cells zv.cells.toList:=fun R w=>oA k3
     refine ⟨e,i,zv,hu,hi,aj k1,aj k2,hz,?_,hL⟩
     have:=(hL (fun _ _=>False) default).length
     rw [ez.fM] at this
     simpa using this.symm
    ·cases k3
   ·cases this
  ·cases this
 ·have:=aw.1 h2 _ (lr (l:=z) he)
  simp only [ae] at this
  refine ⟨this.1,?_⟩
  have h:=this.2
  split at h
  ·rename_i v hv
   exact ⟨v,hv,h⟩
  ·cases h
theorem meets {P:Program} {gl:Nat→Option (List Value)} {ty:ze} {z:Zs} {l:List (Nat × (eE × cg))} {ld:List Nat} (hm:P.follows .mixedOrders=true∧nT P ty=true∧tL P z=true) (hE:∀p∈l,bE P gl p.1 p.2) {f:Nat} (hint:Hint) {c:eE} {sg:cg}
  (hG:∀ins outs,(c ins).holds outs→dD P (dH ty z l ld) f sg hint ins=some (outs++fN sg.md ins)):bE P gl f (c,sg) :=
 sK (sf hm.1 hm.2.1 hm.2.2) (sh hE) hint hG
def Fit (F:List TV→OT) (l:List TV→List TV) (ins:List TV):iV→Prop
 | .ok outs=>F ins=some (outs++l ins)
 | .eC p outs=>p=true→F ins=some (outs++l ins)
 | .err=>True
theorem fits {c:eE} {F:List TV→OT} {l:List TV→List TV} (h:∀ins,Fit F l ins (c ins)):∀ins outs,(c ins).holds outs→F ins=some (outs++l ins):=fun ins outs hc=>by
 have h:=h ins
 cases e:c ins with
 | ok ws=>rw [e] at h hc;obtain rfl:outs=ws:=hc;exact h
 | eC p ws=>rw [e] at h hc;obtain ⟨hp,rfl⟩:p=true∧outs=ws:=hc;exact h hp
 | err=>rw [e] at hc;exact hc.elim
theorem jq {P:Program} {gl:Nat→Option (List Value)} {f:Nat} {sg:cg} {c':eE} (h:∀ti fk,(c' ti).holds fk→∃c:eE,bE P gl f (c,sg)∧(c ti).holds fk):bE P gl f (c',sg):=by
 unfold bE at *
 cases hk:sg.kd <;> simp only [hk] at * <;>
  exact fun ins outs hc=>by
   obtain ⟨c,hs,hc⟩:=h ins outs hc
   exact hs ins outs hc
theorem fG {P:Program} {gl:Nat→Option (List Value)} {f:Nat} {sg:cg} {c:eE} (h:∀ti fk,¬(c ti).holds fk):bE P gl f (c,sg):=by
 unfold bE
 cases hk:sg.kd <;> simp only <;> exact fun ins outs hc=>(h ins outs hc).elim
theorem all_nil {A:Type} {p:A→Prop}:∀x∈([]:List A),p x:=fun _ h=>by cases h
theorem all_cons {A:Type} {p:A→Prop} {a:A} {l:List A} (h:p a) (t:∀x∈l,p x):∀x∈a :: l,p x:=fun x hx=>by
 rcases aC.1 hx with rfl | hx
 ·exact h
 ·exact t x hx
def Old (w:World):Reach:=fun b _=>b<w.heap.size
theorem calls_of_spec {P:Program} {gl:Nat→Option (List Value)} {f:Nat} {c:eE} (h:bE P gl f (c,{})) {ti:List TV} {xs:List Value} {w:World}
  (qH:GlOK gl (Old w) w) (hc:(c ti).holds [.b true]) (ha:dX (Old w) w ti xs):Calls P f ⟨xs⟩ w fun e w'=>e = .returned (.bool true)∧Below w.heap.size w w':=by
 refine ((h ti [.b true] hc).2 w (Old w) xs (fun b o hb=>hb) qH ⟨ha.length,fun i x v hx hv=>?_⟩ fun i j v v' b hi=>(hi (by simp)).elim).mono ?_
 ·obtain ⟨y,h1,h2⟩:=ha.get i x hx
  rw [hv] at h1;cases h1;exact h2
 ·rintro e w' ⟨x,R',eS,ys,rfl,hx,hr,ho⟩
  refine ⟨?_,hx.os,hx.tape,hx.output,hx.size,fun k hk=>hx.heap k hk ?_⟩
  ·congr 1
   have hl:eS.length=1:=ho.len
   have fq:=ho.rep
   rw [ho.val]
   match eS,hl with
   | [y],_ =>
    simp only [if_true,List.headD_cons]
    have fq:dX R' w' [.b true] [y]:=fq
    cases fq with
    | cons a _=>exact a.dx rfl
  ·rintro ⟨i,v,hm,_⟩
   exact hm (by simp)
theorem uz {n:Int} {l:Nat}:dj n l=true ↔ 0≤n∧n<l:=by simp [dj]
theorem uU {a b:Int} {l:Nat}:dV a b l=true ↔ 0≤a∧a≤b∧b≤l:=by simp [dV,and_assoc]
theorem xw {n b:Nat}:eO n b=true ↔ n≤maxLen∧n * b≤140737488355328:=by simp [eO]
theorem od {n:Nat}:lM n=true ↔ n≤maxLen:=by simp [lM]
end Go.Eng
namespace Go.Eng
open Go.IntWalk
theorem bw {R:Type} {p:Bool} {x:Option R} (h:p=true):ck p x=x:=by rw [h];rfl
theorem K1 (a b:Bool):(!a || (a&&(b || (a&&!b))))=true:=by cases a <;> cases b <;> rfl
theorem K0 (a b:Bool):(!a || (a&&(!b || (a&&b))))=true:=by cases a <;> cases b <;> rfl
theorem ln:maxLen=9223372036854775807:=by decide
theorem yY {n:Nat} (h:n≤1099511627776):lM n=true:=od.2 (by rw [ln];omega)
theorem fQ {n b:Nat} (h:n * b≤140737488355328) (h2:n≤140737488355328):eO n b=true:=xw.2 ⟨by rw [ln];omega,h⟩
theorem eT {n:Int} {l:Nat} (h0:0≤n) (h1:n<l):dj n l=true:=uz.2 ⟨h0,h1⟩
theorem gj {a b:Int} {l:Nat} (h0:0≤a) (h1:a≤b) (h2:b≤l):dV a b l=true:=uU.2 ⟨h0,h1,h2⟩
theorem iz (n:Nat):(BitVec.ofInt 64 (n:Int))=BitVec.ofNat 64 n:=by
 apply BitVec.eq_of_toNat_eq;rw [BitVec.toNat_ofInt,BitVec.toNat_ofNat];omega
theorem zd (a b:Nat) (ha:a<9223372036854775808) (hb:b<9223372036854775808):intBitsV .and .i64 a b=((a &&& b:Nat):Int):=by
 have h1:a &&& b≤a:=Nat.and_le_left
 have e:intBitsV .and .i64 a b=IntKind.i64.wrap (((BitVec.ofInt 64 (a:Int) &&& BitVec.ofInt 64 (b:Int)).toNat:Nat):Int):=rfl
 rw [e,iz,iz,BitVec.toNat_and,BitVec.toNat_ofNat,BitVec.toNat_ofNat,Nat.mod_eq_of_lt (by omega),Nat.mod_eq_of_lt (by omega)]
 exact i64_in _ (by omega)
theorem Cp {a b k:Nat} (ha:a<2 ^ k) (hb:b<2 ^ k):a ||| b<2 ^ k:=Nat.or_lt_two_pow ha hb
theorem An (a b:Nat) (ha:a<9223372036854775808) (hb:b<9223372036854775808):intBitsV .or .i64 a b=((a ||| b:Nat):Int):=by
 have h1:a ||| b<9223372036854775808:=Cp (k:=63) (by simpa using ha) (by simpa using hb)
 have e:intBitsV .or .i64 a b=IntKind.i64.wrap (((BitVec.ofInt 64 (a:Int) ||| BitVec.ofInt 64 (b:Int)).toNat:Nat):Int):=rfl
 rw [e,iz,iz,BitVec.toNat_or,BitVec.toNat_ofNat,BitVec.toNat_ofNat,Nat.mod_eq_of_lt (by omega),Nat.mod_eq_of_lt (by omega)]
 exact i64_in _ (by omega)
theorem lk {a b k:Nat} (hb:b<2 ^ k):(a * 2 ^ k) ||| b=a * 2 ^ k+b:=by
 rw [←Nat.shiftLeft_eq,Nat.shiftLeft_add_eq_or_of_lt hb]
theorem drop_cons {α:Type} {l:List α} {i:Nat} (hi:i<l.length) (d:α):l.drop i=l.getD i d :: l.drop (i+1):=by
 rw [List.drop_eq_getElem_cons hi,ai,ah hi];rfl
theorem z8 (n:Nat):(UInt8.ofInt (n:Int)).toNat=n % 256:=by
 have h:=kA (n:Int)
 rw [wrap_u8'] at h;omega
end Go.Eng
namespace Go.Eng
def bits:Nat→Nat→List Bool
 | 0,_=>[]
 | f+1,n=>cond (Nat.ble n 1) [] (Nat.beq (n % 2) 1 :: bits f (n / 2))
section
variable {R:Type} (P:Program) (E:cz) (nt:Nat)
noncomputable def walk:List Bool→Code→Hint→dh R→Code × Hint × dh R
 | [],c,h,K=>(c,h,K)
 | false :: p,.seq a b,.j G h1 h2,K=>walk p a h1 (lN nt (hZ P E nt b h2) G K)
 | true :: p,.seq _ b,.j _ _ h2,K=>walk p b h2 K
 | false :: p,.seq a b,h,K=>walk p a h.s1 (tU (ev P E nt b h.s2) K)
 | true :: p,.seq _ b,h,K=>walk p b h.s2 K
 | false :: p,.cond _ a _,h,K=>walk p a h.s1 K
 | true :: p,.cond _ _ b,h,K=>walk p b h.s2 K
 | _ :: p,.block id a,h,K=>walk p a h.s1 (gH id K)
 | _ :: p,.loop a,.l G h,K=>walk p a h (pJ nt (hZ P E nt a h) G K)
 | _ :: p,.scope a,.sc ls h,K=>walk p a h (fY nt (lZ P E nt a) ls h K)
 | _ :: _,_,_,_=>(.skip,.o,fun _ _=>none)
end
noncomputable def BM (P:Program) (E:cz) (f:Nat) (sg:cg) (h:Hint) (p:Nat):Nat × Code × Hint × dh (List TV) :=
 match P.funcs[f]? with
 | some fn=>match fn.body with
  | some c=>(fn.ntmps,walk P E fn.ntmps (bits 500 p) c h (si P fn.ntmps fn sg))
  | none=>(0,.skip,.o,fun _ _=>none)
 | none=>(0,.skip,.o,fun _ _=>none)
noncomputable def fp (P:Program) (E:cz) (f:Nat) (sg:cg) (h:Hint) (p:Nat) (xs:List TV):OT :=
 match BM P E f sg h p with
 | (nt,.seq _ b,.j G _ h2,K)=>hZ P E nt b h2 (dn G xs) K
 | _=>none
noncomputable def j9 (P:Program) (E:cz) (f:Nat) (sg:cg) (h:Hint) (p:Nat) (xs:List TV):OT :=
 match BM P E f sg h p with
 | (nt,.loop a,.l G h1,K)=>sY nt (hZ P E nt a h1) G xs K
 | _=>none
noncomputable def jD (P:Program) (E:cz) (f:Nat) (sg:cg) (h:Hint) (p l:Nat) (xs:List TV):OT :=
 match BM P E f sg h p with
 | (nt,.scope a,.sc ls h1,K)=>rN nt (lZ P E nt a) ls h1 (l,xs) K
 | _=>none
theorem dv (P:Program) (E:cz) (f:Nat) (sg:cg) (h:Hint) (p:Nat) (xs:List TV):fp P E f sg h p xs=match BM P E f sg h p with
  | (nt,.seq _ b,.j G _ h2,K)=>ev P E nt b h2 (dn G xs) K
  | _=>none:=by
 unfold fp
 split
 ·rw [tw]
 ·rfl
theorem gn (P:Program) (E:cz) (f:Nat) (sg:cg) (h:Hint) (p:Nat) (xs:List TV):j9 P E f sg h p xs=match BM P E f sg h p with
  | (nt,.loop a,.l G h1,K)=>ev P E nt a h1 (dn G xs) (pJ nt (hZ P E nt a h1) G K)
  | _=>none:=by
 unfold j9
 split
 ·rw [yM]
 ·rfl
theorem gS (P:Program) (E:cz) (f:Nat) (sg:cg) (h:Hint) (p l:Nat) (xs:List TV):jD P E f sg h p l xs=match BM P E f sg h p with
  | (nt,.scope a,.sc ls h1,K)=>u9 (wM P E nt a).2 ls h1 (l,xs) (fY nt (lZ P E nt a) ls h1 K)
  | _=>none:=by
 unfold jD
 split
 ·rw [wL]
 ·rfl
end Go.Eng
namespace Go.Eng
open Go.RowKit Go.Sort
theorem lF {w w':World} {R:Reach} {io:Nat→Prop} (hR:∀b o,R b o→b<w.heap.size) (h:Below w.heap.size w w'):Ext w R io w' R :=
 ⟨h.os,h.tape,h.output,h.size,fun b hb _=>h.block b hb,fun b o hr=>⟨hr,by simp only [World.cell?,h.block b (hR b o hr)]⟩,fun b o hr => .inl hr⟩
theorem tH {R:Reach} {w:World} {ti:List TV} {xs:List Value} (h:pL R w [] ti xs):dX R w ti xs:=dX.of h.1 fun i x y hx hy=>h.2 i x y hx hy
theorem rK {P:Program} {gl:Nat→Option (List Value)} {f:Nat} {c:eE} (hb:gL P f=true) (h:∀(ti fk:List TV) (w:World) (R:Reach) (xs:List Value),(c ti).holds fk→dX R w ti xs→(∀b o,R b o→b<w.heap.size)→GlOK gl R w →
  Calls P f ⟨xs⟩ w fun e w'=>∃x,e = .returned x∧Below w.heap.size w w'∧∀R w',dX R w' fk [x]):bE P gl f (c,{}):=by
 refine fun ti fk hc=>⟨hb,fun w R xs hR qH ha _=>(h ti fk w R xs hc (tH ha) hR qH).mono ?_⟩
 rintro e w' ⟨x,rfl,zK,hx⟩
 have hl:fk.length=1:=by simpa using (hx R w').length
 match fk,hl with
 | [y],_ =>
  refine ⟨x,R,[x],[],rfl,lF hR zK,fun b o hr=>Nat.lt_of_lt_of_le (hR b o hr) zK.size,?_⟩
  exact ⟨rfl,Nat.le_refl _,rfl,hx R w',fun i hi=>(by cases hi),rfl,fun i y v hy=>(by simp at hy),fun i hi=>(by cases hi),fun j j' i i' v v' b hj=>(by simp at hj),fun i hi=>(by cases hi)⟩
theorem p7 {P:Program} {gl:Nat→Option (List Value)} {f n:Nat} {c:eE} (hb:gL P f=true) (hn:n≠1) (h:∀(ti fk:List TV) (w:World) (R:Reach) (xs:List Value),(c ti).holds fk→dX R w ti xs→(∀b o,R b o→b<w.heap.size)→GlOK gl R w →
  Calls P f ⟨xs⟩ w fun e w'=>∃ys,ys.length=n∧e = .returned (.tuple ⟨ys⟩)∧Below w.heap.size w w'∧∀R w',dX R w' fk ys):bE P gl f (c,{ bC:=n }):=by
 refine fun ti fk hc=>⟨hb,fun w R xs hR qH ha _=>(h ti fk w R xs hc (tH ha) hR qH).mono ?_⟩
 rintro e w' ⟨ys,hy,rfl,zK,hx⟩
 have hl:fk.length=n:=by rw [(hx R w').length,hy]
 refine ⟨.tuple ⟨ys⟩,R,ys,[],rfl,lF hR zK,fun b o hr=>Nat.lt_of_lt_of_le (hR b o hr) zK.size,?_⟩
 have e1:fk.take n=fk:=List.take_of_length_le (by omega)
 have e2:fk.drop n=[]:=aW (by omega)
 refine ⟨hy,by show n≤_;omega,by show _=if n=1 then _ else _;rw [al hn],?_,fun i hi=>(by cases hi),?_,fun i y v hy=>(by simp at hy),fun i hi=>(by cases hi),fun j j' i i' v v' b hj=>(by simp at hj),fun i hi=>(by cases hi)⟩
 ·have e3:km [] (fk.take n)=fk:=by rw [e1,ql]
  show dX R w' (km [] (fk.take n)) ys
  rw [e3];exact hx R w'
 ·show fV [] ti (fk.drop n)=some []
  rw [e2];rfl
theorem mI {R:Reach} {w:World}:∀{ti:List TV} {xs ys:List Value},dX R w ti xs→ti.mapM TV.val=some ys→xs=ys
 | [],_,_,.nil,h=>by simpa using h
 | x :: r,_,_,.cons a b,h=>by
  rw [List.mapM_cons] at h
  obtain ⟨v,hv,h⟩:=aE.1 h
  obtain ⟨vs,rY,h⟩:=aE.1 h
  cases h
  rw [a.dx hv,mI b rY]
theorem Ci {R:Reach} {w:World} {l:IY}:Rep R w (.s l) (.string ⟨⟨l⟩⟩) := .sc rfl
theorem Cj {R:Reach} {w:World} {n:Int}:Rep R w (.i .i64 n) (.int .i64 n) := .sc rfl
theorem Ck {R:Reach} {w:World} {x:TV} {v:Value} (h:Rep R w x v):dX R w [x] [v] := .cons h .nil
def yJ:List (Nat × List Value)→Nat→Option (List Value)
 | [],_=>none
 | (k,v) :: r,n=>cond (Nat.beq n k) (some v) (yJ r n)
def pX (k:IntKind) (zs:List Int):List Value:=zs.map fun z=>Value.int k z
theorem A0 {P:Program} {w:World} {name:String} {k:IntKind} {zs:List Int} {g:Nat} (h:Lib.TabIs P w name k zs) (hg:P.globalNamed name=some g) (o:Nat):Old w g o∧w.cell? ⟨g,o,none⟩=(pX k zs)[o]?:=by
 have hs:g<w.heap.size:=by
  unfold Lib.TabIs World.var? at h
  rw [hg] at h
  simp only [Option.bind_some] at h
  cases hh:w.heap[g]? with
  | none=>rw [hh] at h;cases h
  | some x=>exact (Array.getElem?_eq_some_iff.1 hh).1
 exact ⟨hs,by have:=World.var?_cell hg h o;simpa [pX] using this⟩
theorem Ad {P:Program} {gl:Nat→Option (List Value)} {R:Reach} {w:World} {name:String} {k:IntKind} {z:Int} {zs:List Int} {g:Nat} (h:GlOK gl R w) (e:gl g=some (pX k (z :: zs))) (hg:P.globalNamed name=some g):Lib.TabIs P w name k (z :: zs):=by
 have h2:=fun o=>(h g _ e o).2
 have h0:=h2 0
 unfold Lib.TabIs World.var?
 rw [hg]
 simp only [Option.bind_some]
 simp only [World.cell?] at h0 h2
 cases hh:w.heap[g]? with
 | none=>rw [hh] at h0;cases h0
 | some x =>
  rw [hh] at h0 h2
  cases x with
  | cells cs e f =>
   simp only at h2 ⊢
   congr 1
   apply Array.ext_getElem?
   intro i
   have:=h2 i
   simp only [Option.isSome_none,bd,if_false] at this
   rw [this]
   simp [pX]
  | _=>cases h0
theorem gl_nil {R:Reach} {w:World}:GlOK (yJ []) R w:=fun _ _ h=>by cases h
theorem gl_cons {P:Program} {w:World} {name:String} {k:IntKind} {zs:List Int} {g:Nat} {r:List (Nat × List Value)} (h:Lib.TabIs P w name k zs) (hg:P.globalNamed name=some g) (t:GlOK (yJ r) (Old w) w):GlOK (yJ ((g,pX k zs) :: r)) (Old w) w:=fun n vs hn o=>by
 unfold yJ at hn
 cases hb:Nat.beq n g with
 | true=>rw [hb] at hn;cases hn;rw [aj hb];exact A0 h hg o
 | false=>rw [hb] at hn;exact t n vs hn o
theorem sz (w:World) (k:Nat) (os:Array Obj):Below w.heap.size w (grow (w.drewN k) os) :=
 ⟨rfl,rfl,rfl,by show w.heap.size≤(w.heap++os).size;simp,fun i hi=>heap_grow_old (w.drewN k) os hi⟩
end Go.Eng
