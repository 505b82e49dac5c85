/- Texts of my own, one behind the other: XW, XX, XY, XT, VA, XZ, YA, YB, YC, YD, YE, YF, YG, VB, YH, XArithP, YI, YJ. -/
import Derived.Test.YthcgadjgfbnedaaGreatDoorT1
import Derived.Laws.Externs
import Derived.Lib.BytesEntry
import Derived.Deep.LoopGhost
import Derived.ScopeJumps
import Derived.IntWalk
import Derived.Below
import Derived.Lib.LaidTab
import Derived.Lib.ItoaNum
import Derived.Sort.Grow
import Derived.Deep.Draws
set_option linter.unusedVariables false
set_option linter.unusedSimpArgs false
namespace Go.Eng
open Go.RowKit
section
variable {C:Ctx} {S V:St} {a:Act} {w w':World} {R:Reach} {τ:Nat→Value} {o:Oper} {d:Nat}
theorem cG.Dp (h:cG C S a w R τ) {k2:Nat} {v:Value} {x:TV} {R':Reach} (lU:(S k2).2 = .no∧k2<1000000∧C.nt≤k2) (cq:cH R w R' w') (hn:∀b o,R' b o→R b o∨Value.dv v=some b) (os:w'.os=w.os) (tape:w'.tape=w.tape) (out:w'.output=w.output) (size:w.heap.size≤w'.heap.size)
  (heap:∀b,Value.dv v≠some b→b<w.heap.size→w'.heap[b]?=w.heap[b]?) (hb:∀b,Value.dv v=some b→w.heap.size≤b∧b<w'.heap.size) (new:eZ R' w' τ x .pv v):cG C (bN S k2 (x,.pv)) a w' R' (kq τ k2 v):=by
 have CH:∀b,b<w.heap.size→Value.dv v≠some b:=fun b h1 h2=>by have:=(hb b h2).1;omega
 refine ⟨h.size,h.defers,h.core.tR lU.2.2 cq (fun j b _ sd=>?_) new (.inr lU.1) ⟨by rw [lU.1];rfl,rfl⟩ (by simp) (fun _ => .inr lU.1) (fun b _ hv=>⟨.inr (Nat.le_trans h.ext.size (hb b hv).1),.inl (hb b hv).1⟩) (by simp [Gh.bP]) (fun b o hr=>?_),
  fun t ht=>by rw [dn _ _ (by omega)];exact h.tmps t ht,⟨h.io.1,fun j hj=>by rw [dn _ _ (by omega)];exact h.io.2 j hj⟩,
  h.ext.trans (io':=fun b=>Value.dv v=some b) ⟨os,tape,out,size,fun b fJ hv=>heap b hv fJ,cq,fun b o hr=>(hn b o hr).imp id .inr⟩ (fun b hv => .inr (Nat.le_trans h.ext.size (hb b hv).1)),h.gl.cq cq⟩
 ·have hl:=h.core.lt sd
  exact ⟨heap b (CH b hl) hl,fun o hr=>(hn b o hr).resolve_right (CH b hl)⟩
 ·rcases hn b o hr with hr | hr
  ·have:=h.core.j9 b o hr;omega
  ·exact (hb b hr).2
theorem cG.recover (h:cG C S a w R τ) {k c:Nat} {x:TV} (hk:S k=(x,.pw c)):cG C (bN (bN S k (x,.pv)) c (.dead,.zz)) a w R τ :=
 ⟨h.size,h.defers,by have:=h.core.recover hk;rwa [mf,mf] at this,h.tmps,h.io,h.ext,h.gl⟩
variable (h:cG C S a w R τ) (hV:Lt V S)
include h hV
section
variable (hd:o.dst=some d) (hl:d<C.nt)
include hd hl
theorem go_app (hE:fc C.P C.E) {t u:TypeId} {x y:Operand} {st:dS} {jQ k k2:Nat} {l m:List st.El} {news:List Value} {du:TypeDesc} {g c:Gh} {z:TV} (ho:o.op = .call { callee := .builtin .append,args:=#[x,y],argTypes:=#[t,u] }) (ht:C.E.ty t=some (st,jQ)) (hx:dQ C.E C.nt V t x=some (.pt,.cT k)) (hk:S k=(.sl st l,g))
  (hu:C.P.underlying u=some du) (po:∀k,du ≠ .int k) (nd:Source C.P w st.size (a.eval y) m.length news) (hL:bX R w ((m.map st.tv).flatMap TV.cells) news) (ot:fg (l.length+m.length) jQ=true) (lU:(S k2).2 = .no∧k2<1000000∧C.nt≤k2) (hg:(g = .pv∧c = .zz∧z = .dead)∨(g = .lv∧c = .us∧z = .sl st l)) :
  cQ C o a w (bN (bN (bN S k (z,c)) k2 (.sl st (l++m),g)) d (.pt,.cT k2)):=by
 obtain ⟨e,i,zv,h1,h2,h3,h4,h5,h6,h7⟩:=hE.ty _ _ _ ht
 obtain ⟨q1,_,q3⟩:=dN h hV hx
 have hv:a.eval x=τ k:=q1.1
 have hK:=h.core.key k
 rw [hk] at hK
 simp only [fg,ae,az] at ot
 have uI:g.own=true∧g.ta=false∧g.slot=false:=by rcases hg with ⟨rfl,_⟩ | ⟨rfl,_⟩ <;> exact ⟨rfl,rfl,rfl⟩
 obtain ⟨p,hp,HF⟩:∃p,cV R w p (τ k) (.sl st l)∧∀R w τ x v,eZ R w τ x g v=cV R w p v x:=by rcases hg with ⟨rfl,_⟩ | ⟨rfl,_⟩ <;> exact ⟨_,hK,fun _ _ _ _ _=>rfl⟩
 obtain ⟨v,w',R',ft,hs,cq,hn,os,tape,out,size,heap,hb,ng⟩:=BK (P:=C.P) (ty:=o.type) h.core.j9 h1 h2 h5 (by rw [h3];exact h6) hu po h3 hp nd hL ot.1 (by rw [h4];exact ot.2)
 have pn:v.oneCell'=true:=by
  rcases hs.cells with ⟨_,rfl⟩ | ⟨_,_,_,_,_,rfl,_⟩ <;> rfl
 have rG:=h.Bc (k:=k) (k2:=k2) (x := .sl st (l++m)) (g:=g) (c:=c) (y:=z) ⟨(q3 k (by simp [Gh.bP])).1,by rw [hk];exact ⟨uI.1,uI.2.1⟩⟩ lU cq hn os tape out size heap hb (by rcases hg with ⟨rfl,_⟩ | ⟨rfl,_⟩ <;> simp) (by rw [HF];exact hs)
  (by rcases hg with ⟨_,rfl,_⟩ | ⟨_,rfl,_⟩ <;> simp) (by
   rcases hg with ⟨_,rfl,_⟩ | ⟨rfl,rfl,rfl⟩
   ·trivial
   ·exact (cV.rep hK).1.mono cq)
 refine rG.ox (v:=v) hd hl ?_ (g := .cT k2) ⟨(dh _ _ _).symm,pn⟩ rfl fun j hj=>?_
 ·simp only [execOp,ho,hv,Sem.run_bind]
  have:(Builtin.append_ #[t,u] o.type #[τ k,a.eval y]).run C.P w = .ok v w':=ft
  simp [resolve,invoke,builtin,this,hv]
 ·simp only [Gh.bP,List.mem_singleton] at hj
  subst hj
  exact ⟨lU.2.2,by rw [bF];rcases hg with ⟨rfl,_⟩ | ⟨rfl,_⟩ <;> simp⟩
theorem go_lend (hE:fc C.P C.E) {t u:TypeId} {x y:Operand} {st:dS} {jQ k k2:Nat} {l m:List st.El} {news:List Value} {du:TypeDesc} (ho:o.op = .call { callee := .builtin .append,args:=#[x,y],argTypes:=#[t,u] }) (ht:C.E.ty t=some (st,jQ)) (hv:a.eval x=τ k) (A1:C.nt≤k) (hk:S k=(.sl st l,.pv))
  (hu:C.P.underlying u=some du) (po:∀k,du ≠ .int k) (nd:Source C.P w st.size (a.eval y) m.length news) (hL:bX R w ((m.map st.tv).flatMap TV.cells) news) (ot:fg (l.length+m.length) jQ=true) (lU:(S k2).2 = .no∧k2<1000000∧C.nt≤k2) :
  cQ C o a w (bN (bN (bN S k (.sl st l,.pw k2)) k2 (.sl st (l++m),.pc k)) d (.pt,.cT k2)):=by
 have _:=hV
 obtain ⟨e,i,zv,h1,h2,h3,h4,h5,h6,h7⟩:=hE.ty _ _ _ ht
 have hK:cV R w false (τ k) (.sl st l):=by have:=h.core.key k;rw [hk] at this;exact this
 simp only [fg,ae,az] at ot
 have fP:k2≠k:=by rintro rfl;rw [hk] at lU;cases lU.1
 obtain ⟨v,w',R',ft,hs,cq,hn,os,tape,out,size,heap,hb,ng⟩:=BK (P:=C.P) (ty:=o.type) h.core.j9 h1 h2 h5 (by rw [h3];exact h6) hu po h3 hK nd hL ot.1 (by rw [h4];exact ot.2)
 have pn:v.oneCell'=true:=by
  rcases hs.cells with ⟨_,rfl⟩ | ⟨_,_,_,_,_,rfl,_⟩ <;> rfl
 have rG:=h.Bc (k:=k) (k2:=k2) (x := .sl st (l++m)) (g := .pv) (c := .zz) (y := .dead) ⟨A1,by rw [hk];exact ⟨rfl,rfl⟩⟩ lU cq hn os tape out size heap hb (.inl rfl) hs (.inl rfl) trivial
 have own:∀b,gb (kq τ k2 v) (.pw k2) (τ k)=some b→Value.dv (τ k)=some b∧Value.dv v≠some b:=fun b fJ=>by
  simp only [gb,dh] at fJ
  split at fJ
  ·cases fJ
  ·rename_i E7;exact ⟨fJ,fun e=>E7 (by rw [fJ,e])⟩
 have hp:BU R' w' (kq τ k2 v k) (.sl st l) (kq τ k2 v k2):=by
  rw [dh,dn _ _ (Ne.symm fP)]
  cases uJ:Value.dv (τ k) with
  | none=>exact .inl ⟨hK.cq cq fun g hg=>(by rw [uJ] at hg;cases hg),.inl uJ⟩
  | some b =>
   by_cases D5:Value.dv v=some b
   ·obtain ⟨g,cap,q,e1,e2⟩:=ng b D5 uJ
    refine .inr ⟨st,l,g,cap,_,rfl,?_,e2⟩
    obtain ⟨t2,l2,e3,⟨_,e4⟩ | ⟨g',FG,_,_,_,e4,_⟩⟩:=hK
    ·rw [e4] at uJ;cases uJ
    ·cases e3;rw [e1] at e4;cases e4;exact e1
   ·refine .inl ⟨hK.cq cq fun g hg=>?_,.inr (by rw [uJ];exact Ne.symm D5)⟩
    rw [uJ] at hg;cases hg
    exact ⟨heap b D5 (hK.lt uJ),fun o hr=>(hn b o hr).resolve_right D5⟩
 have e1:bN (bN S k (.dead,.zz)) k2 (.sl st (l++m),.pv) k=(.dead,.zz):=by rw [bQ _ _ (Ne.symm fP),bF]
 have Fq:=rG.core.DJ (k:=k) (d:=k2) (t:=st) (l:=l) (m:=m) A1 lU.2.2 e1 (bF ..) hp (fun b fJ=>by
  rw [dn _ _ (Ne.symm fP)] at fJ
  obtain ⟨q1,q2⟩:=own b fJ
  have GD:dv τ S k=some b:=dL (by rw [hk];rfl) (by rw [hk];rfl) q1
  refine ⟨h.core.cg k b GD,fun j hj=>?_⟩
  by_cases c1:j=k2
  ·rw [c1] at hj
   have:=(cZ hj).2
   rw [dh] at this
   exact q2 this
  ·by_cases c2:j=k
   ·rw [c2] at hj;have:=(cZ hj).1;rw [e1] at this;cases this
   ·have ej:bN (bN S k (.dead,.zz)) k2 (.sl st (l++m),.pv) j=S j:=by rw [bQ _ _ c1,bQ _ _ c2]
    have lV:dv τ S j=some b:=by
     unfold dv at hj ⊢
     rw [ej,dn _ _ c1] at hj
     rw [←hj,wE fun q hq=>?_]
     refine (dn _ _ ?_).symm
     rintro rfl
     exact (h.core.inv j q hq).2 lU.1
    exact c2 (h.core.sep _ _ _ lV GD))
 rw [mf,mf] at Fq
 have e2:bN (bN (bN (bN S k (.dead,.zz)) k2 (.sl st (l++m),.pv)) k (.sl st l,.pw k2)) k2 (.sl st (l++m),.pc k)=bN (bN S k (.sl st l,.pw k2)) k2 (.sl st (l++m),.pc k):=by
  funext j
  by_cases c1:j=k2
  ·rw [c1,bF,bF]
  ·by_cases c2:j=k
   ·rw [c2,bQ _ _ (Ne.symm fP),bF,bQ _ _ (Ne.symm fP),bF]
   ·rw [bQ _ _ c1,bQ _ _ c2,bQ _ _ c1,bQ _ _ c2,bQ _ _ c1,bQ _ _ c2]
 rw [e2] at Fq
 have HN:cG C (bN (bN S k (.sl st l,.pw k2)) k2 (.sl st (l++m),.pc k)) a w' R' (kq τ k2 v):=⟨rG.size,rG.defers,Fq,rG.tmps,rG.io,rG.ext,rG.gl⟩
 refine HN.ox (v:=v) hd hl ?_ (g := .cT k2) ⟨(dh _ _ _).symm,pn⟩ rfl fun j hj=>?_
 ·have:(Builtin.append_ #[t,u] o.type #[τ k,a.eval y]).run C.P w = .ok v w':=ft
  simp [execOp,ho,resolve,invoke,builtin,this,hv]
 ·simp only [Gh.bP,List.mem_singleton] at hj
  subst hj
  exact ⟨lU.2.2,by rw [bF];simp⟩
theorem go_apn (hE:fc C.P C.E) {t u:TypeId} {x y:Operand} {st:dS} {jQ k2:Nat} {m:List st.El} {news:List Value} {du:TypeDesc} (ho:o.op = .call { callee := .builtin .append,args:=#[x,y],argTypes:=#[t,u] }) (ht:C.E.ty t=some (st,jQ)) (hx:dQ C.E C.nt V t x=some (.nl st,.no))
  (hu:C.P.underlying u=some du) (po:∀k,du ≠ .int k) (nd:Source C.P w st.size (a.eval y) m.length news) (hL:bX R w ((m.map st.tv).flatMap TV.cells) news) (ot:fg m.length jQ=true) (lU:(S k2).2 = .no∧k2<1000000∧C.nt≤k2) :
  cQ C o a w (bN (bN S k2 (.sl st m,.pv)) d (.pt,.cT k2)):=by
 obtain ⟨e,i,zv,h1,h2,h3,h4,h5,h6,h7⟩:=hE.ty _ _ _ ht
 have hv:a.eval x = .slice none 0 0:=by
  have:=cR h hV hx
  generalize a.eval x=v at this ⊢
  cases this with
  | sc h=>cases h
  | nl=>rfl
 simp only [fg,ae,az] at ot
 obtain ⟨v,w',R',ft,hs,cq,hn,os,tape,out,size,heap,hb,ng⟩:=BK (P:=C.P) (ty:=o.type) (p:=false) (x0 := .slice none 0 0) (l:=[]) h.core.j9 h1 h2 h5 (by rw [h3];exact h6) hu po h3 ⟨st,[],rfl,.inl ⟨rfl,rfl⟩⟩ nd hL (by simpa using ot.1) (by rw [h4];simpa using ot.2)
 have pn:v.oneCell'=true:=by
  rcases hs.cells with ⟨_,rfl⟩ | ⟨_,_,_,_,_,rfl,_⟩ <;> rfl
 refine (h.Dp (x := .sl st m) lU cq hn os tape out size heap (fun b hv=>⟨(hb b hv).1.resolve_right (by simp [Value.dv]),(hb b hv).2⟩) hs).ox (v:=v) hd hl ?_ (g := .cT k2) ⟨(dh _ _ _).symm,pn⟩ rfl fun j hj=>?_
 ·have:(Builtin.append_ #[t,u] o.type #[.slice none 0 0,a.eval y]).run C.P w = .ok v w':=ft
  simp [execOp,ho,resolve,invoke,builtin,this,hv]
 ·simp only [Gh.bP,List.mem_singleton] at hj
  subst hj
  exact ⟨lU.2.2,by rw [bF];simp⟩
theorem go_psl {t:TypeId} {x y:Operand} {st:dS} {k k2:Nat} {l:List st.El} {n:Int} (hE:fc C.P C.E) (ho:o.op = .slice t x none (some y) none) (ht:lS C.E t st=true) (hx:dQ C.E C.nt V t x=some (.pt,.cT k)) (hk:S k=(.sl st l,.pv)) (hy:ir C.E C.nt V (some y)=some (some n)) (hc:en 0 n l.length=true)
  (lU:(S k2).2 = .no∧k2<1000000∧C.nt≤k2):cQ C o a w (bN (bN (bN S k (.dead,.zz)) k2 (.sl st (l.take n.toNat),.pv)) d (.pt,.cT k2)):=by
 obtain ⟨e,inf,ht,rH,hz⟩:=jH hE ht
 obtain ⟨q1,_,q3⟩:=dN h hV hx
 have hv:a.eval x=τ k:=q1.1
 have hK:=h.core.key k
 rw [hk] at hK
 have hb:=fun cap ng=>bounds h hV (lo:=none) (p:=none) rfl hy hc true (cap:=cap) ng (fun e=>by cases e)
 simp only [Option.getD_some,Option.getD_none] at hb
 obtain ⟨_,_,Gj⟩:=hb l.length (Nat.le_refl _)
 generalize hu:n.toNat=u at *
 have eJ:(l.take u).length=u:=by rw [aB];omega
 have fin:∀v,(execOp a.eval o).run C.P w = .ok (.value v) w→cV R w false v (.sl st (l.take u))→(∀b,Value.dv v=some b→Value.dv (τ k)=some b)→v.oneCell'=true→cQ C o a w (bN (bN (bN S k (.dead,.zz)) k2 (.sl st (l.take u),.pv)) d (.pt,.cT k2)):=fun v ft hs hb pn=>by
  have rG:=h.Bc (w':=w) (R':=R) (k:=k) (k2:=k2) (v:=v) (x := .sl st (l.take u)) (g := .pv) (c := .zz) (y := .dead) ⟨(q3 k (by simp [Gh.bP])).1,by rw [hk];exact ⟨rfl,rfl⟩⟩ lU (cH.refl _ _) (fun _ _ => .inl) rfl rfl rfl (Nat.le_refl _) (fun _ _ _=>rfl) (fun b fJ=>⟨.inr (hb b fJ),hs.lt fJ⟩) (.inl rfl) hs (.inl rfl) trivial
  refine rG.ox (v:=v) hd hl ft (g := .cT k2) ⟨(dh _ _ _).symm,pn⟩ rfl fun j hj=>?_
  simp only [Gh.bP,List.mem_singleton] at hj
  subst hj
  exact ⟨lU.2.2,by rw [bF];simp⟩
 rcases cV.cells hK with ⟨rfl,e1⟩ | ⟨g,cap,cur,ce,fz,e1,e2,e3,e4,e5,e6,e7,e8⟩
 ·obtain rfl:u=0:=by simpa using Gj
  have lp:=(hb 0 (by simp)).1
  simp only [aO] at lp
  refine fin (.slice none 0 0) ?_ ⟨st,[],rfl,.inl ⟨rfl,rfl⟩⟩ (fun b hb=>by cases hb) rfl
  simp only [execOp,ho,hv,e1,Instr.sliceAt,Instr.slice,Sem.run_bind,run_underlying ht,Result.andThen_ok,Option.map_none,Option.map_some,run_sizeOf rH,Sem.run_pure]
  simp at lp
  simp [lp]
 ·have lp:=(hb cap e5).1
  refine fin (.slice (some ⟨g,0,none⟩) u cap) ?_ ⟨st,l.take u,rfl,.inr ⟨g,cap,cur,ce,fz,by rw [eJ],e2,e3,e4,by omega,e6,?_,fun o=>⟨fun hr=>by simpa using (e8 o).1 hr,fun hr=>by simp at hr⟩⟩⟩ (fun b hb=>by rw [e1];exact hb) rfl
  ·simp only [execOp,ho,hv,e1,Instr.sliceAt,Instr.slice,Sem.run_bind,run_underlying ht,Result.andThen_ok,Option.map_none,Option.map_some,run_sizeOf rH,Sem.run_pure]
   simp at lp
   simp [lp,addr_add]
  ·rw [eJ]
   have:((l.take u).map st.tv).flatMap TV.cells=((l.map st.tv).flatMap TV.cells).take (u * st.size):=by
    have e:=congrArg (fun m:List st.El=>(m.map st.tv).flatMap TV.cells) (List.take_append_drop u l)
    simp only [List.map_append,List.flatMap_append] at e
    rw [←e,show u * st.size=(((l.take u).map st.tv).flatMap TV.cells).length by rw [gT,eJ],List.take_left]
   rw [this]
   have hle:u * st.size≤l.length * st.size:=aT _ Gj
   have:=e7.take (u * st.size)
   rwa [List.take_take,Nat.min_eq_left hle] at this
end
theorem go_stt (hd:o.dst=none) {x v:Operand} {t:TypeId} {inf:TypeInfo} {m q k:Nat} {cs:List TV} {ts:List (Nat × Nat)} (ho:o.op = .store t x v) (hi:C.P.info? t=some inf) (hn:inf.size=1) (hx:dQ C.E C.nt V 0 x=some (.pt,.ptr m q)) (hm:S m=(.ag cs,.cl ts)) (hv:dQ C.E C.nt V t v=some (.pt,.cT k)) (fQ:q<cs.length) (fP:k≠m) (B5:∀t∈ts,t.2≠m) :
  cQ C o a w (bN S m (.ag (dY cs q [.pt]),.cl ((q,k) :: sU q 1 ts))):=by
 obtain ⟨q1,_,q3⟩:=dN h hV hv
 have e1:a.eval v=τ k:=q1.1
 have e2:(a.eval v).oneCell'=true:=q1.2
 have e3:(a.eval v).cells.toList=[a.eval v]:=ob e2
 refine go_st' h hV hd ho hi hx hm (qs:=[.pt]) (by rw [e3];exact .cons e2 (.pt _) .nil) (by simp [hn]) (by omega) fun u hu=>?_
 rcases aD.1 hu with rfl | hu
 ·exact ⟨fP,.inr ⟨(q3 k (by simp [Gh.bP])).1,(q3 k (by simp [Gh.bP])).2,Nat.le_refl _,by rw [e3,e1];simp⟩⟩
 ·obtain ⟨h1,h2⟩:=n7 hu
  rw [hn]
  exact ⟨B5 u h1,.inl ⟨h1,h2⟩⟩
theorem go_sto (hd:o.dst=none) {x v:Operand} {t:TypeId} {inf:TypeInfo} {m:Nat} {cs xs:List TV} {ts us:List (Nat × Nat)} (ho:o.op = .store t x v) (hi:C.P.info? t=some inf) (hx:dQ C.E C.nt V 0 x=some (.pt,.ptr m 0)) (hm:S m=(.ag cs,.cl ts)) (hv:dQ C.E C.nt V t v=some (.ag xs,.ow us)) (hn:xs.length=inf.size) (fQ:inf.size=cs.length) (D6:∀t∈us,t.2≠m) :
  cQ C o a w (bN S m (.ag xs,.cl us)):=by
 obtain ⟨q1,_,q3⟩:=dN h hV hv
 obtain ⟨ys,vs,e1,e2,e3,e4⟩:∃ys vs,a.eval v = .agg ⟨ys⟩∧TV.ag xs = .ag vs∧bX R w vs ys∧∀p∈us,ys[p.1]?=some (τ p.2):=q1
 cases e2
 have e5:(a.eval v).cells.toList=ys:=by rw [e1];rfl
 have:=go_st' h hV hd ho hi hx hm (qs:=xs) (us:=us) (by rw [e5];exact e3) hn (by omega) fun u hu=>⟨D6 u hu,.inr ⟨(q3 u.2 (List.mem_map_of_mem (f:=(·.2)) hu)).1,(q3 u.2 (List.mem_map_of_mem (f:=(·.2)) hu)).2,Nat.zero_le _,by rw [e5,Nat.sub_zero];exact e4 u hu⟩⟩
 have e6:dY cs 0 xs=xs:=by simp [dY,hn,fQ]
 rwa [e6] at this
end
end Go.Eng
namespace Go.Eng
open Go.RowKit
def gJ (P:Program) (f:Nat):Bool:=(P.funcs[f]?).any fun fn=>fn.body.isSome&&!(fn.name == "runtime.NumGoroutine")
def CK:Nat→Value:=fun _=>undef
def tM (R:Reach) (w:World) (m:Md) (x:TV) (v:Value):Prop :=
 match m with
 | .pl=>Rep R w x v
 | .rf=>oM R w CK v x []
 | _=>cV R w false v x
def pQ (R:Reach) (w:World) (ms:List Md) (ins:List TV) (xs:List Value):Prop:=ins.length=xs.length∧∀i x v,ins[i]?=some x→xs[i]?=some v→tM R w (ms.getD i .pl) x v
def BR (p:Md→Prop) (ms:List Md) (xs:List Value):Prop:=∀i j v v' b,p (ms.getD i .pl)→p (ms.getD j .pl)→xs[i]?=some v→xs[j]?=some v'→Value.dv v=some b→Value.dv v'=some b→i=j
def pj (ms:List Md) (xs:List Value) (b:Nat):Prop:=∃i v,ms.getD i .pl ≠ .pl∧xs[i]?=some v∧Value.dv v=some b
def Md.uB (m:Md):Prop:=m ≠ .pl∧m ≠ .gv
def xD (R:Reach) (w:World) (m:Md) (y:TV) (v:Value):Prop :=
 match m with
 | .rf=>oM R w CK v y []
 | .sl=>cV R w false v y
 | .sm=>cV R w false v y
 | _=>True
def iT (vs:List Value) (i:Nat):Option Value:=cond (Nat.blt i 1000) (vs[i]?) (match vs[0]? with | some (Value.agg cs)=>cs.toList[i - 1000]? | _=>none)
structure pP (sg:cr) (R:Reach) (w:World) (cg:Nat→Prop) (ins:List TV) (xs:List Value) (outs:List TV) (x:Value) (eN:List Value) (ys:List TV):Prop where
 len:eN.length=sg.bE
 le:sg.bE≤outs.length
 val:x=if sg.bE=1 then eN.headD undef else .tuple ⟨eN⟩
 rep:dW R w (ka sg.own (outs.take sg.bE)) eN
 own:∀i∈sg.own,∀v y,iT eN i=some v→jV outs i=some y→cV R w false v y
 back:fK sg.md ins (outs.drop sg.bE)=some ys
 DC:∀i y v,ys[i]?=some y→xs[i]?=some v→xD R w (sg.md.getD i .pl) y v
 cg:∀i∈sg.own,∀v b,iT eN i=some v→Value.dv v=some b→cg b
 EA:∀(j j' i i':Nat) (v v':Value) (b:Nat),sg.own[j]?=some i→sg.own[j']?=some i'→iT eN i=some v→iT eN i'=some v'→Value.dv v=some b→Value.dv v'=some b→j=j'
 Ez:∀i∈sg.own,∀v b,iT eN i=some v→Value.dv v=some b→∀q u,(sg.md.getD q .pl).uB→xs[q]?=some u→Value.dv u≠some b
def z6 (P:Program) (gl:Nat→Option (List Value)) (f:Nat) (c:eH × cr):Prop :=
 ∀ins outs,(c.1 ins).holds outs→gJ P f=true∧∀w R xs,(∀b o,R b o→b<w.heap.size)→GlOK gl R w→pQ R w c.2.md ins xs→BR (· ≠ .pl) c.2.md xs →
  Calls P f ⟨xs⟩ w fun e w'=>∃x R' eN ys,e = .returned x∧Ext w R (pj c.2.md xs) w' R'∧(∀b o,R' b o→b<w'.heap.size)∧pP c.2 R' w' (fun b=>pj c.2.md xs b∨w.heap.size≤b) ins xs outs x eN ys
def z1 (P:Program) (gl:Nat→Option (List Value)) (f n i k:Nat) (c:eH) (e:Bool):Prop :=
 ∀ins outs,(c ins).holds outs→gJ P f=true∧∀w R xs b zs el x u y,(∀b o,R b o→b<w.heap.size)→GlOK gl R w→ins.length=xs.length+1→(∀j x v,j≠i→ins[j]?=some x→xs[j]?=some v→Rep R w x v) →
  xs[i]?=some (.pointer (some ⟨b,0,none⟩))→ins[i]?=some (.ag x)→w.heap[b]?=some (.cells ⟨zs⟩ el (0,0))→bX R w x zs→(∀o,¬R b o)→zs[k]?=some u→ins[xs.length]?=some y→(e=true→cV R w false u y∧Value.dv u≠some b) →
  Calls P f ⟨xs⟩ w fun ex w'=>∃R' eN sH xP x' u' y',ex = .returned (if eN.length=1 then eN.headD undef else .tuple ⟨eN⟩)∧Ext w R (fun g=>g=b∨(e=true∧Value.dv u=some g)) w' R'∧(∀b o,R' b o→b<w'.heap.size)∧eN.length=n∧outs.drop n=[.ag x',y']∧dW R' w' (outs.take n) eN ∧
   w'.heap[b]?=some (.cells ⟨sH⟩ xP (0,0))∧bX R' w' x' sH∧(∀o,¬R' b o)∧sH[k]?=some u'∧cV R' w' false u' y'∧∀g,Value.dv u'=some g→g≠b∧((e=true∧Value.dv u=some g)∨w.heap.size≤g)
def DQ (R:Reach) (w:World) (n b:Nat) (zs:List Value) (l:List TV):Option Nat→Prop
 | none=>l=[]
 | some k=>∃y u,l=[y]∧zs[k]?=some u∧cV R w false u y∧∀g,Value.dv u=some g→g≠b∧n≤g
def z7 (P:Program) (gl:Nat→Option (List Value)) (f n:Nat) (c:eH) (oc:Option Nat):Prop :=
 ∀ins outs,(c ins).holds outs→gJ P f=true∧∀w R xs,(∀b o,R b o→b<w.heap.size)→GlOK gl R w→dW R w ins xs →
  Calls P f ⟨xs⟩ w fun ex w'=>∃R' eN b zs el x rs,ex = .returned (if eN.length+1=1 then .pointer (some ⟨b,0,none⟩) else .tuple ⟨.pointer (some ⟨b,0,none⟩) :: eN⟩)∧Ext w R (fun _=>False) w' R'∧(∀b o,R' b o→b<w'.heap.size)∧eN.length+1=n∧outs.take n = .ag x :: rs∧dW R' w' rs eN ∧
   w.heap.size≤b∧w'.heap[b]?=some (.cells ⟨zs⟩ el (0,0))∧bX R' w' x zs∧(∀o,¬R' b o)∧DQ R' w' w.heap.size b zs (outs.drop n) oc
def bD (P:Program) (gl:Nat→Option (List Value)) (f:Nat) (c:eH × cr):Prop :=
 match c.2.kd with
 | .pl=>z6 P gl f c
 | .wr i k e=>z1 P gl f c.2.bE i k c.1 e
 | .nw oc=>z7 P gl f c.2.bE c.1 oc
def zm (V:St) (R:Reach) (w:World) (τ:Nat→Value) (m:Md) (c:Cell) (x:TV) (v:Value):Prop :=
 match m with
 | .pl=>Rep R w x v
 | .rf=>∃k cs ts b ys e xs,c=(.pt,.ptr k 0)∧V k=(.ag cs,.cl ts)∧v=τ k∧τ k = .pointer (some ⟨b,0,none⟩)∧w.heap[b]?=some (.cells ⟨ys⟩ e (0,0))∧x = .ag xs∧bX R w xs ys
 | m=>(∃k g,c=(.pt,.cT k)∧V k=(x,g)∧(g = .pv∨(m = .sm∧∃r,g = .pc r))∧v=τ k)∨((m = .sm∨m = .gv)∧∃t,c=(.nl t,.no)∧x = .sl t []∧v = .slice none 0 0)
theorem zm.mono {V:St} {R R':Reach} {w:World} {τ:Nat→Value} {m:Md} {c:Cell} {x:TV} {v:Value} (h:zm V R w τ m c x v) (k:cH R w R' w):zm V R' w τ m c x v:=by
 cases m <;> simp only [zm] at h ⊢ <;> first | exact h.mono k | exact h | skip
 obtain ⟨q,cs,ts,b,ys,e,xs,h1,h2,h3,h4,h5,h6,h7⟩:=h
 exact ⟨q,cs,ts,b,ys,e,xs,h1,h2,h3,h4,h5,h6,h7.mono k⟩
inductive kT (V:St) (R:Reach) (w:World) (τ:Nat→Value):List Md→List Cell→List TV→List Value→Prop
 | nil (ms:List Md):kT V R w τ ms [] [] []
 | cons {ms:List Md} {c:Cell} {x:TV} {v:Value} {cs:List Cell} {xs:List TV} {vs:List Value}:zm V R w τ (ms.headD .pl) c x v→kT V R w τ ms.tail cs xs vs→kT V R w τ ms (c :: cs) (x :: xs) (v :: vs)
theorem kT.mono {V:St} {R R':Reach} {w:World} {τ:Nat→Value} (k:cH R w R' w):∀{ms:List Md} {cs:List Cell} {xs:List TV} {vs:List Value},kT V R w τ ms cs xs vs→kT V R' w τ ms cs xs vs
 | _,_,_,_,.nil _ => .nil _
 | _,_,_,_,.cons a b => .cons (a.mono k) (kT.mono k b)
theorem kT.len {V:St} {R:Reach} {w:World} {τ:Nat→Value}:∀{ms:List Md} {cs:List Cell} {xs:List TV} {vs:List Value},kT V R w τ ms cs xs vs→xs.length=vs.length∧cs.length=vs.length
 | _,_,_,_,.nil _=>⟨rfl,rfl⟩
 | _,_,_,_,.cons _ b=>by obtain ⟨h1,h2⟩:=kT.len b;simp [h1,h2]
theorem uN {ms:List Md} {i:Nat}:ms.tail.getD i .pl=ms.getD (i+1) .pl:=by cases ms <;> rfl
theorem uO {ms:List Md}:ms.headD .pl=ms.getD 0 .pl:=by cases ms <;> rfl
theorem kT.get {V:St} {R:Reach} {w:World} {τ:Nat→Value}:∀{ms:List Md} {cs:List Cell} {xs:List TV} {vs:List Value},kT V R w τ ms cs xs vs→∀(i:Nat) (v:Value),vs[i]?=some v→∃c x,cs[i]?=some c∧xs[i]?=some x∧zm V R w τ (ms.getD i .pl) c x v
 | _,_,_,_,.nil _,i,v,h=>by simp at h
 | _,_,_,_,.cons a b,0,v,h=>by cases h;exact ⟨_,_,rfl,rfl,by rw [←uO];exact a⟩
 | _,_,_,_,.cons a b,i+1,v,h=>by
  obtain ⟨c,x,h1,h2,h3⟩:=kT.get b i v (by simpa using h)
  exact ⟨c,x,by simpa using h1,by simpa using h2,by rw [←uN];exact h3⟩
section
variable {nt:Nat} {R:Reach} {w:World} {cg:Nat→Prop} {τ:Nat→Value} {S V:St}
theorem zg {rw:Bool} (h:Core nt R w cg τ S) (hV:Lq V S) {m:Md} {c:Cell} {v:Value} {x:TV} {ws:List (Nat × Cell)} (hs:cz R w τ c.1 c.2 v) (hc:∀k∈c.2.bP,nt≤k) (he:BJ V rw m c=some (x,ws)) :
  ∃R',Core nt R' w cg τ (cO S ws)∧Fz cg R w R'∧zm V R' w τ m c x v∧Lq V (cO S ws):=by
 have cT:∀{m:Md} {k:Nat} {g:Gh},m ≠ .pl→m ≠ .rf→c=(.pt,.cT k)→ws=[]→V k=(x,g)→(g = .pv∨(m = .sm∧∃r,g = .pc r))→∃R',Core nt R' w cg τ (cO S ws)∧Fz cg R w R'∧zm V R' w τ m c x v∧Lq V (cO S ws):=by
  rintro m k g h1 h2 rfl rfl hk hg
  have:v=τ k:=hs.1
  refine ⟨R,h,Fz.refl _ _ _,?_,hV⟩
  cases m <;> first | exact (h1 rfl).elim | exact (h2 rfl).elim | exact .inl ⟨k,g,rfl,hk,hg,this⟩
 unfold BJ at he
 split at he
 ·have fr:pA V c=some (x,ws)→∃R',Core nt R' w cg τ (cO S ws)∧Fz cg R w R'∧zm V R' w τ .pl c x v∧Lq V (cO S ws):=fun he=>by
   obtain ⟨R',h1,h2,h3,h4⟩:=pz h hV hs hc he
   exact ⟨R',h1,h2,h3,h4⟩
  cases rw with
  | false=>exact fr he
  | true =>
   rw [ao] at he
   unfold CF at he
   split at he
   ·cases he
    exact ⟨R,h,Fz.refl _ _ _,hs,hV⟩
   ·exact fr he
 ·rename_i k
  split at he
  ·rename_i cs ts hk
   split at he
   ·rename_i pG rB hf
    cases he
    have e:S k=(.ag cs,.cl ts):=by
     rcases hV k with e | e | ⟨e,_⟩
     ·rw [←e,hk]
     ·rw [hk] at e;cases e
     ·rw [hk] at e;cases e
    have hK:=h.key k
    rw [e] at hK
    obtain ⟨b,ys,el,xs,h1,h2,h3,h4,h5,h6⟩:=hK
    cases h3
    obtain ⟨b',p1,hv⟩:∃b,τ k = .pointer (some ⟨b,0,none⟩)∧v = .pointer (some ⟨b,0,none⟩):=hs
    obtain ⟨R',f1,f2,f3,f4,_⟩:=gZ h hV h4 (fun t ht=>⟨by
     have:=h.inv k t.2
     rw [e] at this
     exact (this (List.mem_map_of_mem (f:=(·.2)) ht)).1,h5 t ht⟩) hf
    exact ⟨R',f1,f2,⟨k,cs,ts,b,ys,el,_,rfl,hk,by rw [hv,p1],h1,h2,rfl,iG f3⟩,f4⟩
   ·cases he
  ·cases he
 ·cases he
 ·rename_i k n1 _
  split at he
  ·rename_i y hk
   cases he
   exact cT (by intro e;subst e;simp_all) (by intro e;subst e;simp_all) rfl rfl (by assumption) (.inl rfl)
  ·rename_i y r hk
   cases he
   exact cT (by simp) (by simp) rfl rfl (by assumption) (.inr ⟨rfl,_,rfl⟩)
  ·cases he
 ·rename_i t
  cases he
  refine ⟨R,h,Fz.refl _ _ _,.inr ⟨.inl rfl,t,rfl,rfl,?_⟩,hV⟩
  have:Rep R w (.nl t) v:=eX.rep hs
  cases this with
  | sc h=>cases h
  | nl=>rfl
 ·rename_i t
  cases he
  refine ⟨R,h,Fz.refl _ _ _,.inr ⟨.inr rfl,t,rfl,rfl,?_⟩,hV⟩
  have:Rep R w (.nl t) v:=eX.rep hs
  cases this with
  | sc h=>cases h
  | nl=>rfl
 ·cases he
theorem ry {rw:Bool}:∀{cs:List Cell} {ms:List Md} {R:Reach} {S:St} {vs:List Value} {xs:List TV} {ws:List (Nat × Cell)},Core nt R w cg τ S→Lq V S→Cells R w τ nt cs vs→rz V rw ms cs=some (xs,ws) →
  ∃R',Core nt R' w cg τ (cO S ws)∧Fz cg R w R'∧kT V R' w τ ms cs xs vs∧Lq V (cO S ws)
 | [],ms,R,S,_,_,_,h,hV,.nil,he=>by cases he;exact ⟨R,h,Fz.refl _ _ _,.nil _,hV⟩
 | c :: cs,ms,R,S,_,_,_,h,hV,.cons a b t,he=>by
  simp only [rz] at he
  split at he
  ·rename_i x ws e1
   split at he
   ·rename_i xs us e2
    cases he
    obtain ⟨R1,h1,k1,r1,q1⟩:=ry h hV t e2
    obtain ⟨R2,h2,k2,r2,q2⟩:=zg h1 q1 (a.cq k1.1 fun _ _=>rfl) b e1
    rw [eF]
    exact ⟨R2,h2,k1.trans k2,.cons r2 (r1.mono k2.1),q2⟩
   ·cases he
  ·cases he
theorem o7:∀{l:List (Nat × Cell)} {S:St} {k:Nat} {x:Cell},(k,x)∈l→(∀y,(k,y)∈l→y=x)→cO S l k=x
 | (j,y) :: l,S,k,x,h,hu=>by
  simp only [cO]
  by_cases e:k=j
  ·subst e
   rw [bF]
   exact hu y (List.mem_cons_self ..)
  ·rw [bQ _ _ e]
   rcases aD.1 h with h | h
   ·cases h;exact (e rfl).elim
   ·exact o7 h fun y hy=>hu y (List.mem_cons_of_mem _ hy)
theorem jT {V:St}:∀{ms:List Md} {cs:List Cell} {ys:List TV} {p:Nat × Cell},p∈eA V ms cs ys→∃i c y,cs[i]?=some c∧ys[i]?=some y∧i<ms.length∧gG V (ms.getD i .pl) c y=some p
 | m :: ms,c :: cs,y :: ys,p,h=>by
  simp only [eA] at h
  split at h
  ·rename_i q e
   rcases aD.1 h with rfl | h
   ·exact ⟨0,c,y,rfl,rfl,by simp,e⟩
   ·obtain ⟨i,c',y',h1,h2,h3,h4⟩:=jT h
    exact ⟨i+1,c',y',by simpa using h1,by simpa using h2,by simpa using h3,h4⟩
  ·obtain ⟨i,c',y',h1,h2,h3,h4⟩:=jT h
   exact ⟨i+1,c',y',by simpa using h1,by simpa using h2,by simpa using h3,h4⟩
 | [],_,_,_,h=>by simp [eA] at h
 | _ :: _,[],_,_,h=>by simp [eA] at h
 | _ :: _,_ :: _,[],_,h=>by simp [eA] at h
theorem iH {V:St}:∀{ms:List Md} {cs:List Cell} {ys:List TV} {p:Nat × Cell} {i:Nat} {c:Cell} {y:TV},cs[i]?=some c→ys[i]?=some y→i<ms.length→gG V (ms.getD i .pl) c y=some p→p∈eA V ms cs ys
 | m :: ms,c :: cs,y :: ys,p,0,_,_,h1,h2,_,h4=>by
  cases h1;cases h2
  simp only [eA]
  have:gG V m c y=some p:=h4
  rw [this];exact List.mem_cons_self ..
 | m :: ms,c :: cs,y :: ys,p,i+1,_,_,h1,h2,h3,h4=>by
  have:=iH (ms:=ms) (cs:=cs) (ys:=ys) (i:=i) (by simpa using h1) (by simpa using h2) (by simpa using h3) h4
  simp only [eA]
  split
  ·exact List.mem_cons_of_mem _ this
  ·exact this
 | [],_,_,_,_,_,_,_,_,h,_=>by simp at h
 | _ :: _,[],_,_,_,_,_,h,_,_,_=>by simp at h
 | _ :: _,_ :: _,[],_,_,_,_,_,h,_,_=>by simp at h
theorem qU {k:Nat} {x:Cell} {l:List (Nat × Cell)} (h:pF ((k,x) :: l)=true) {p:Nat × Cell} (hp:p∈l):p.1≠k:=by
 simp only [pF,ae,aw] at h
 have:=h.1 p hp
 intro e
 rw [e] at this
 simp at this
theorem uW {p:Nat × Cell} {l:List (Nat × Cell)} (h:pF (p :: l)=true):pF l=true:=by
 obtain ⟨k,x⟩:=p
 simp only [pF,ae] at h;exact h.2
theorem pE {V:St}:∀{ms:List Md} {cs:List Cell} {ys:List TV} {k i j:Nat} {c c':Cell} {y y':TV} {x x':Cell},pF (eA V ms cs ys)=true→cs[i]?=some c→ys[i]?=some y→i<ms.length→gG V (ms.getD i .pl) c y=some (k,x) →
  cs[j]?=some c'→ys[j]?=some y'→j<ms.length→gG V (ms.getD j .pl) c' y'=some (k,x')→i=j
 | m :: ms,c :: cs,y :: ys,k,0,0,_,_,_,_,_,_,_,_,_,_,_,_,_,_,_=>rfl
 | m :: ms,c :: cs,y :: ys,k,0,j+1,_,_,_,_,_,_,hd,h1,h2,h3,h4,k1,k2,k3,k4=>by
  cases h1;cases h2
  have e:gG V m c y=some (k,_):=h4
  simp only [eA,e] at hd
  exact (qU hd (iH (by simpa using k1) (by simpa using k2) (by simpa using k3) k4) rfl).elim
 | m :: ms,c :: cs,y :: ys,k,i+1,0,_,_,_,_,_,_,hd,h1,h2,h3,h4,k1,k2,k3,k4=>by
  cases k1;cases k2
  have e:gG V m c y=some (k,_):=k4
  simp only [eA,e] at hd
  exact (qU hd (iH (by simpa using h1) (by simpa using h2) (by simpa using h3) h4) rfl).elim
 | m :: ms,c :: cs,y :: ys,k,i+1,j+1,_,_,_,_,_,_,hd,h1,h2,h3,h4,k1,k2,k3,k4=>by
  have nP:pF (eA V ms cs ys)=true:=by
   simp only [eA] at hd
   split at hd
   ·exact uW hd
   ·exact hd
  rw [pE nP (by simpa using h1) (by simpa using h2) (by simpa using h3) h4 (by simpa using k1) (by simpa using k2) (by simpa using k3) k4]
 | [],_,_,_,_,_,_,_,_,_,_,_,_,_,_,h,_,_,_,_,_=>by simp at h
 | _ :: _,[],_,_,_,_,_,_,_,_,_,_,_,h,_,_,_,_,_,_,_=>by simp at h
 | _ :: _,_ :: _,[],_,_,_,_,_,_,_,_,_,_,_,h,_,_,_,_,_,_=>by simp at h
theorem qx {nt:Nat} {own:Nat→Nat}:∀{l:List Nat} {j:Nat} {outs:List TV} {ns:List (Nat × Cell)},yu nt own V l j outs=some ns →
  (∀p∈ns,∃q i y,l[q]?=some i∧p=(own (j+q),(y,.pv))∧jV outs i=some y∧jr nt V (own (j+q))=true)∧(∀q i,l[q]?=some i→∃y,jV outs i=some y∧(own (j+q),(y,.pv))∈ns∧jr nt V (own (j+q))=true)
 | [],j,outs,ns,h=>by cases h;exact ⟨by simp,by simp⟩
 | i :: l,j,outs,ns,h=>by
  simp only [yu] at h
  split at h
  ·rename_i x hx
   obtain ⟨h1,h2⟩:=bt.1 h
   rw [aH] at h2
   obtain ⟨IH,h2,rfl⟩:=h2
   obtain ⟨k1,k2⟩:=qx h2
   refine ⟨fun p hp=>?_,fun q i' hq=>?_⟩
   ·rcases aD.1 hp with rfl | hp
    ·exact ⟨0,i,x,rfl,rfl,hx,h1⟩
    ·obtain ⟨q,i',y,e1,e2,e3,e4⟩:=k1 p hp
     rw [show j+1+q=j+(q+1) by omega] at e2 e4
     exact ⟨q+1,i',y,by simpa using e1,e2,e3,e4⟩
   ·cases q with
    | zero=>cases hq;exact ⟨x,hx,List.mem_cons_self ..,h1⟩
    | succ q =>
     obtain ⟨y,e1,e2,e3⟩:=k2 q i' (by simpa using hq)
     rw [show j+1+q=j+(q+1) by omega] at e2 e3
     exact ⟨y,e1,List.mem_cons_of_mem _ e2,e3⟩
  ·cases h
theorem yo {R:Reach} {w:World} {l:List Nat} {outs:List TV} {eN:List Value} {i:Nat} {y:TV} (h:dW R w (ka l outs) eN) (hi:i∈l) (hy:jV outs i=some y):∃v,iT eN i=some v:=by
 unfold jV at hy
 unfold iT
 cases hb:Nat.blt i 1000 with
 | true =>
  rw [hb,ao] at hy
  simp only [ao]
  have hl:=h.length
  have:(ka l outs).length=outs.length:=by unfold ka;cases fM l <;> simp
  have eJ:=(av.1 hy).1
  exact ⟨_,ah (by omega)⟩
 | false =>
  rw [hb,af] at hy
  simp only [af]
  have hs:fM l=false:=by
   cases hs:fM l with
   | false=>rfl
   | true=>have:=aw.1 hs i hi;rw [hb] at this;cases this
  unfold ka at h
  rw [hs,af] at h
  match outs,hy with
  | .ag cs :: r,hy =>
   simp only [List.getElem?_cons_zero] at hy
   simp only [aQ,DX] at h
   cases h with
   | cons h1 h2 =>
    cases h1 with
    | sc e=>cases e
    | @ag _ ys hL =>
     have hl:=hL.length
     simp only [List.length_mapIdx] at hl
     have eJ:=(av.1 hy).1
     exact ⟨_,ah (l:=ys) (by simpa using (by omega:i - 1000<ys.length))⟩
theorem oa {outs:List TV} {n i:Nat} {y:TV} (h:jV (outs.take n) i=some y):jV outs i=some y:=by
 unfold jV at h ⊢
 have t:∀j x,(outs.take n)[j]?=some x→outs[j]?=some x:=fun j x hj=>by
  rw [aF] at hj
  split at hj
  ·exact hj
  ·cases hj
 cases hb:Nat.blt i 1000 with
 | true=>rw [hb,ao] at h;rw [ao];exact t _ _ h
 | false =>
  rw [hb,af] at h
  rw [af]
  split at h
  ·rename_i cs e;rw [t _ _ e];exact h
  ·cases h
end
end Go.Eng
namespace Go.Eng
open Go.RowKit
theorem oK:∀{ms:List Md} {ins outs ys:List TV},fK ms ins outs=some ys→ys.length=ms.length
 | [],_,_,_,h=>by
  simp only [fK] at h
  obtain ⟨_,h⟩:=bt.1 h
  cases h;rfl
 | m :: ms,ins,outs,ys,h=>by
  have key:∀{y:TV} {ins outs:List TV},(fK ms ins outs).map (y :: ·)=some ys→ys.length=(m :: ms).length:=fun h=>by
   rw [aH] at h
   obtain ⟨zs,h1,rfl⟩:=h
   simp [oK h1]
  unfold fK at h
  split at h <;> first | (rename_i e;cases e;exact key h) | (rename_i e _;cases e;exact key h) | (rename_i e _ _;cases e;exact key h) | (cases h;done) | skip
  all_goals simp_all
theorem rr:∀{ms:List Md} {ins outs ys:List TV} {i:Nat},fK ms ins outs=some ys→ms.getD i .pl = .sm→ys[i]?=ins[i]?
 | [],_,_,_,i,_,h=>by simp at h
 | m :: ms,ins,outs,ys,i,h,hm=>by
  have key:∀{y z:TV} {AL zw:List TV},ins=z :: AL→(fK ms AL zw).map (y :: ·)=some ys→(m = .sm→y=z)→ys[i]?=ins[i]?:=fun {y z AL zw} e h hy=>by
   rw [aH] at h
   obtain ⟨zs,h1,rfl⟩:=h
   subst e
   cases i with
   | zero=>simp at hm ⊢;exact hy hm
   | succ i=>simp at hm ⊢;exact rr h1 (by simpa using hm)
  unfold fK at h
  split at h <;> first | (rename_i e;cases e;exact key rfl h (by simp)) | (rename_i e _;cases e;exact key rfl h (by simp)) | (rename_i e _ _;cases e;exact key rfl h (by simp)) | (cases h;done) | skip
  all_goals simp_all
theorem qq (l:List TV):ka [] l=l:=by
 unfold ka
 simp only [fM,List.all_nil,ao]
 apply List.ext_getElem?
 intro i
 rw [List.getElem?_mapIdx]
 cases l[i]? <;> rfl
theorem cV.one {R:Reach} {w:World} {p:Bool} {v:Value} {x:TV} (h:cV R w p v x):v.oneCell'=true:=by
 obtain ⟨t,l,_,⟨_,rfl⟩ | ⟨g,cap,cur,e,fz,rfl,_⟩⟩:=h <;> rfl
section
variable {C:Ctx} {S V:St} {a:Act} {w:World} {R:Reach} {τ:Nat→Value} {o:Oper} {d:Nat}
theorem cG.yl (h:cG C S a w R τ) (hl:d<C.nt) {v:Value} {x:TV} {g:Gh} (hs:cz R w τ x g v) (hg:g.slot=true) (hm:∀k∈g.bP,C.nt≤k∧(S k).2 ≠ .no):lF C (bN S d (x,g)) (a.put (some d) v) w:=by
 refine ⟨R,_,by simp [Act.put,h.size],h.defers,h.core.put hl hs hg hm,fun t ht=>?_,⟨h.io.1,fun k hk=>?_⟩,h.ext,h.gl⟩
 ·by_cases e:t=d
  ·subst e;rw [dh];simp [Act.put,Array.getD,h.size,ht]
  ·rw [dn _ _ e,←h.tmps t ht]
   simp only [Act.put,Array.getD_eq_getD_getElem?]
   rw [Array.getElem?_setIfInBounds_ne (Ne.symm e)]
 ·have:=h.io.1
  rw [dn _ _ (by omega)];exact h.io.2 k hk
theorem nv {f:Nat} {args:Array Operand} {ts:Array TypeId} {x:Operand} (ho:o.op = .call { callee := .value x,args,argTypes:=ts }) (hx:a.eval x = .func (.func f) #[] #[]) (hp:gJ C.P f=true):(execOp a.eval o).run C.P w = .ok (.enter f (args.map a.eval)) w:=by
 unfold gJ at hp
 cases hf:C.P.funcs[f]? with
 | none=>simp [hf] at hp
 | some fn =>
  simp only [hf,Option.any_some,ae,Bool.not_eq_true',beq_eq_false_iff_ne,ne_eq] at hp
  obtain ⟨h1,h2⟩:=hp
  have IZ:fn.body.isNone=false:=by cases hb:fn.body <;> simp [hb] at h1 ⊢
  simp [execOp,ho,resolve,Deferred.ofValue,hx,invoke,callFunc,hf]
  rw [ak h2,ak (by intro e;rw [e] at h1;cases h1)]
open Classical in
noncomputable def qw (τ:Nat→Value) (own:Nat→Nat) (l:List Nat) (eN:List Value) (k:Nat):Value :=
 if h:∃q i,l[q]?=some i∧own q=k then (iT eN (l.getD h.choose 0)).getD undef else τ k
theorem vV {own:Nat→Nat} {l:List Nat} {eN:List Value} {q i:Nat} (lW:∀j j',own j=own j'→j=j') (hq:l[q]?=some i):qw τ own l eN (own q)=(iT eN i).getD undef:=by
 have h:∃q' i,l[q']?=some i∧own q'=own q:=⟨q,i,hq,rfl⟩
 unfold qw
 rw [dif_pos h]
 obtain ⟨i',h1,h2⟩:=h.choose_spec
 have:h.choose=q:=lW _ _ h2
 rw [this,show l.getD q 0=i by simp [ai,hq]]
theorem ur {own:Nat→Nat} {l:List Nat} {eN:List Value} {k:Nat} (h:∀q i,l[q]?=some i→own q≠k):qw τ own l eN k=τ k:=by
 unfold qw
 rw [dif_neg]
 rintro ⟨q,i,h1,h2⟩
 exact h q i h1 h2
set_option maxHeartbeats 2000000 in
theorem go_call (h:cG C S a w R τ) (hV:Lt V S) (hd:o.dst=none∨∃d,o.dst=some d∧d<C.nt) {f:Nat} {c:eH} {sg:cr} (hS:z6 C.P C.gl f (c,sg)) {args:Array Operand} {ts:Array TypeId} {x:Operand} (ho:o.op = .call { callee := .value x,args,argTypes:=ts }) (hx:a.eval x = .func (.func f) #[] #[])
  {tl:List TypeId} {cs:List Cell} {xs:List TV} {ws:List (Nat × Cell)} {outs:List TV} {own:Nat→Nat} {p:Option Bool} {e:dP} (hcs:je C.E C.nt V tl args.toList=some cs) (zE:rz V sg.raw sg.md cs=some (xs,ws)) (hc:(c xs).holds outs) (lW:0<C.nt→∀j j',own j=own j'→j=j') (he:rh C.nt own V sg cs xs ws p outs=some e):cQ C o a w (eG S o.dst e):=by
 unfold rh at he
 obtain ⟨hh,he⟩:=bt.1 he
 simp only [ae] at hh
 obtain ⟨hh,E3⟩:=hh
 have lW:=lW (Nat.le_of_ble_eq_true hh.2)
 have hle:=Nat.le_of_ble_eq_true hh.1
 split at he <;> try (cases he;done)
 rename_i ns ys HK AO
 obtain ⟨GH,he⟩:=bt.1 he
 cases he
 simp only [ae] at GH
 obtain ⟨zL,xI⟩:=GH
 have xI:∀q∈ws,∀p∈eA V sg.md cs ys,p.1≠q.1:=fun q hq p hp e=>by
  have:=aw.1 (aw.1 xI q hq) p hp
  rw [e] at this;simp at this
 obtain ⟨eS,_,sb⟩:=iV h hV hcs
 obtain ⟨R1,h1,f1,AR,hq⟩:=ry h.core hV.q eS zE
 have h':cG C (cO S ws) a w R1 τ:=h.fz h1 f1
 obtain ⟨A0,Fc⟩:=AR.len
 generalize sa:args.toList.map a.eval=vs at *
 generalize yO:cO S ws=S1 at *
 have IJ:=oK AO
 obtain ⟨yI,rG⟩:=qx HK
 simp only [Nat.zero_add] at yI rG
 -- a handed argument
 have hand:∀i v,vs[i]?=some v→sg.md.getD i .pl ≠ .pl→∃c y x,cs[i]?=some c∧ys[i]?=some y∧xs[i]?=some x∧i<sg.md.length∧tM R1 w (sg.md.getD i .pl) x v ∧
   ((v = .slice none 0 0∧∀y,gG V (sg.md.getD i .pl) c y=none)∨∃k x',gG V (sg.md.getD i .pl) c y=some (k,x')∧v=τ k∧C.nt≤k∧(S1 k).2.own=true∧(S1 k).2.s9=false∧((S1 k).2.ta=false∨sg.md.getD i .pl = .sm)∧(sg.md.getD i .pl = .sm→S1 k=(x,(V k).2)∧((V k).2 = .pv∨∃r,(V k).2 = .pc r))):=by
  intro i v hv hm
  obtain ⟨c,x,e1,e2,e3⟩:=AR.get i v hv
  have hi:i<sg.md.length:=by
   rcases Nat.lt_or_ge i sg.md.length with hi | hi
   ·exact hi
   ·rw [ai,List.getElem?_eq_none hi] at hm;exact (hm rfl).elim
  have ey:ys[i]?=some ys[i]:=ah (by omega)
  have Gw:=sb c (ay e1)
  have CH:∀k x',gG V (sg.md.getD i .pl) c ys[i]=some (k,x')→(V k).2 ≠ .hid→S1 k=V k:=fun k x' hb hg=>by
   have iZ:=iH e1 ey hi hb
   rw [←yO,dV fun q hq e=>xI q hq _ iZ e.symm]
   exact ((hV k).resolve_right hg).symm
  refine ⟨c,ys[i],x,e1,ey,e2,hi,?_⟩
  generalize sg.md.getD i .pl=m at *
  have cT:m ≠ .pl→m ≠ .rf→(∃k g,c=(.pt,.cT k)∧V k=(x,g)∧(g = .pv∨(m = .sm∧∃r,g = .pc r))∧v=τ k)→tM R1 w m x v∧((v = .slice none 0 0∧∀y,gG V m c y=none)∨∃k x',gG V m c ys[i]=some (k,x')∧v=τ k∧C.nt≤k∧(S1 k).2.own=true∧(S1 k).2.s9=false∧((S1 k).2.ta=false∨m = .sm)∧(m = .sm→S1 k=(x,(V k).2)∧((V k).2 = .pv∨∃r,(V k).2 = .pc r))):=by
   rintro zI Gv ⟨k,g,rfl,hk,hg,rfl⟩
   have uI:g.own=true∧g.s9=false∧g ≠ .hid∧∀R w τ x v,eZ R w τ x g v=cV R w false v x:=by rcases hg with rfl | ⟨_,r,rfl⟩ <;> exact ⟨rfl,rfl,by simp,fun _ _ _ _ _=>rfl⟩
   obtain ⟨x',hb⟩:∃x',gG V m (.pt,.cT k) ys[i]=some (k,x'):=by cases m <;> first | exact (zI rfl).elim | exact (Gv rfl).elim | exact ⟨_,rfl⟩
   have e:=CH k x' hb (by rw [hk];exact uI.2.2.1)
   have hK:=h1.key k
   rw [e,hk,uI.2.2.2] at hK
   refine ⟨?_,.inr ⟨k,x',hb,rfl,(Gw.2 k (by simp [Gh.bP])).1,by rw [e,hk];exact uI.1,by rw [e,hk];exact uI.2.1,by rw [e,hk];exact hg.imp (fun e=>by rw [e];rfl) (·.1),fun _=>by rw [e,hk];exact ⟨rfl,hg.imp id (·.2)⟩⟩⟩
   cases m <;> first | exact (zI rfl).elim | exact (Gv rfl).elim | exact hK
  cases m with
  | pl=>exact (hm rfl).elim
  | rf =>
   obtain ⟨k,pG,ts,b,zs,el,xE,rfl,hk,rfl,hb,HY,rfl,hL⟩:=e3
   have e:=CH k _ rfl (by rw [hk];simp)
   have hK:=h1.key k
   rw [e,hk] at hK
   obtain ⟨b',_,_,_,k1,_,_,_,_,k2⟩:=hK
   rw [hb] at k1;cases k1
   exact ⟨⟨b,zs,el,xE,hb,HY,rfl,hL,by simp,k2⟩,.inr ⟨k,_,rfl,rfl,(Gw.2 k (by simp [Gh.bP])).1,by rw [e,hk];rfl,by rw [e,hk];rfl,.inl (by rw [e,hk];rfl),fun e=>by cases e⟩⟩
  | sl=>exact cT (by simp) (by simp) (e3.resolve_right (by simp))
  | gv =>
   rcases e3 with e3 | ⟨_,t,rfl,rfl,rfl⟩
   ·exact cT (by simp) (by simp) e3
   ·exact ⟨⟨t,[],rfl,.inl ⟨rfl,rfl⟩⟩,.inl ⟨rfl,fun _=>rfl⟩⟩
  | sm =>
   rcases e3 with e3 | ⟨_,t,rfl,rfl,rfl⟩
   ·exact cT (by simp) (by simp) e3
   ·exact ⟨⟨t,[],rfl,.inl ⟨rfl,rfl⟩⟩,.inl ⟨rfl,fun _=>rfl⟩⟩
 have hargs:pQ R1 w sg.md xs vs:=⟨A0,fun i x v hx hv=>by
  by_cases hm:sg.md.getD i .pl = .pl
  ·obtain ⟨c,x',_,e2,e3⟩:=AR.get i v hv
   rw [hx] at e2;cases e2
   rw [hm] at e3 ⊢
   exact e3
  ·obtain ⟨_,_,x',_,_,e2,_,e3,_⟩:=hand i v hv hm
   rw [hx] at e2;cases e2;exact e3⟩
 have EU:BR (· ≠ .pl) sg.md vs:=fun i j v v' b hi hj hv oj hb fJ=>by
  obtain ⟨c,y,_,a1,a2,_,a3,_,a4⟩:=hand i v hv hi
  obtain ⟨c',y',_,b1,b2,_,b3,_,b4⟩:=hand j v' oj hj
  rcases a4 with ⟨rfl,_⟩ | ⟨k,x1,k1,rfl,_,k2,k3,_⟩
  ·cases hb
  rcases b4 with ⟨rfl,_⟩ | ⟨k',x2,l1,rfl,_,l2,l3,_⟩
  ·cases fJ
  have:=h1.j0 (dL k2 k3 hb) (dL l2 l3 fJ)
  subst this
  exact pE zL a1 a2 a3 k1 b1 b2 b3 l1
 obtain ⟨wx,fY⟩:=hS xs outs hc
 intro K Q hK
 unfold Oper.wp
 rw [nv ho hx wx,Oper.upon_enter]
 have e0:(⟨vs⟩:Array Value)=args.map a.eval:=by apply Array.ext';simp [←sa]
 have fY:=fY w R1 vs h1.j9 h'.gl hargs EU
 rw [e0] at fY
 refine fY.mono ?_
 rintro e w' ⟨x,R',eN,oO,rfl,iz,uH,ki⟩
 have:oO=ys:=by have:=ki.back;simp only at this;rw [AO] at this;cases this;rfl
 subst this
 simp only at iz ki
 -- the As that Hh handed over
 have bk:∀k x,(k,x)∈eA V sg.md cs oO→∃i v y,vs[i]?=some v∧oO[i]?=some y∧v=τ k∧C.nt≤k∧(S1 k).2.own=true∧(S1 k).2.s9=false∧((x,sg.md.getD i .pl)∈[((y,.cl []),.rf),((y,.pv),.sl),((.dead,.zz),.gv)]∧(S1 k).2.ta=false∨sg.md.getD i .pl = .sm∧x=S1 k∧y=x.1∧(x.2 = .pv∨∃r,x.2 = .pc r))∧(∀x',(k,x')∈eA V sg.md cs oO→x'=x):=by
  intro k x iZ
  obtain ⟨i,c,y,e1,e2,e3,e4⟩:=jT iZ
  have hi:i<vs.length:=by have:=(av.1 e1).1;omega
  have ev:vs[i]?=some vs[i]:=ah hi
  have hm:sg.md.getD i .pl ≠ .pl:=by intro e;rw [e] at e4;cases e4
  obtain ⟨c',y',xi,a1,a2,ax,a3,_,a4⟩:=hand i _ ev hm
  rw [e1] at a1;cases a1
  rw [e2] at a2;cases a2
  have hu:∀x',(k,x')∈eA V sg.md cs oO→x'=x:=fun x' pk=>by
   obtain ⟨j,c2,y2,k1,k2,k3,k4⟩:=jT pk
   have:=pE zL e1 e2 e3 e4 k1 k2 k3 k4
   subst this
   rw [e1] at k1;cases k1
   rw [e2] at k2;cases k2
   rw [e4] at k4;cases k4;rfl
  rcases a4 with ⟨_,a4⟩ | ⟨k',x',k1,k2,k3,k4,k5,k6,k7⟩
  ·rw [a4] at e4;cases e4
  ·rw [e4] at k1;cases k1
   refine ⟨i,_,y,ev,e2,k2,k3,k4,k5,?_,hu⟩
   by_cases hs:sg.md.getD i .pl = .sm
   ·right
    obtain ⟨q1,q2⟩:=k7 hs
    have ey:y=xi:=by have:=rr AO hs;rw [e2,ax] at this;exact Option.some.inj this
    rw [hs] at e4
    unfold gG at e4
    split at e4 <;> first | (cases e4;done) | (rename_i em _;cases em;done) | skip
    rename_i ec
    cases e4
    exact ⟨hs,by rw [q1,ey],rfl,q2⟩
   ·left
    refine ⟨?_,k6.resolve_right hs⟩
    unfold gG at e4
    split at e4 <;> first | (cases e4;done) | (rename_i em _;exact (hs em).elim) | (rename_i em _;cases e4;rw [em];simp)
 have nw:∀q i,sg.own[q]?=some i→(S1 (own q)).2 = .no∧own q<1000000∧C.nt≤own q:=fun q i gm=>dR hq (rG q i gm).choose_spec.2.2
 have Cg:∀k x,(k,x)∈eA V sg.md cs oO→∀q i,sg.own[q]?=some i→own q≠k:=fun k x iZ q i gm e=>by
  obtain ⟨_,_,_,_,_,_,_,ho,_⟩:=bk k x iZ
  rw [←e,(nw q i gm).1] at ho;cases ho
 have EN:∀g,pj sg.md vs g→∃k x,(k,x)∈eA V sg.md cs oO∧dv τ S1 k=some g:=by
  rintro g ⟨i,v,hm,hv,hb⟩
  obtain ⟨c',y',_,a1,a2,_,a3,_,a4⟩:=hand i v hv hm
  rcases a4 with ⟨rfl,_⟩ | ⟨k',x',k1,rfl,k3,k4,k5,_⟩
  ·cases hb
  ·exact ⟨k',x',iH a1 a2 a3 k1,dL k4 k5 hb⟩
 have tj:∀g,pj sg.md vs g→C.cg g:=fun g hg=>by obtain ⟨k,_,_,hb⟩:=EN g hg;exact h1.cg k g hb
 have rv:∀q i,sg.own[q]?=some i→∃v y,iT eN i=some v∧(iT eN i).getD undef=v∧jV (outs.take sg.bE) i=some y∧jV outs i=some y∧cV R' w' false v y:=fun q i gm=>by
  obtain ⟨y,e1,_⟩:=rG q i gm
  have hi:=ay gm
  obtain ⟨v,hv⟩:=yo ki.rep hi e1
  exact ⟨v,y,hv,by rw [hv];rfl,e1,oa e1,ki.own i hi _ _ hv (oa e1)⟩
 -- the state behind the call
 let τ':=qw τ own sg.own eN
 have t1:∀q i,sg.own[q]?=some i→τ' (own q)=(iT eN i).getD undef:=fun q i=>vV lW
 have t2:∀k,(∀q i,sg.own[q]?=some i→own q≠k)→τ' k=τ k:=fun k=>ur
 have nf:cO S (eA V sg.md cs oO++(ns++ws))=cO (cO S1 ns) (eA V sg.md cs oO):=by rw [eF,eF,yO]
 generalize se:cO S (eA V sg.md cs oO++(ns++ws))=S' at *
 have s1:∀k x,(k,x)∈eA V sg.md cs oO→S' k=x:=fun k x iZ=>by
  obtain ⟨_,_,_,_,_,_,_,_,_,_,hu⟩:=bk k x iZ
  rw [nf];exact o7 iZ hu
 have s2:∀q i y,sg.own[q]?=some i→jV (outs.take sg.bE) i=some y→S' (own q)=(y,.pv):=fun q i y gm hy=>by
  obtain ⟨y',e1,e2,_⟩:=rG q i gm
  rw [hy] at e1;cases e1
  rw [nf,dV fun p hp e=>Cg p.1 p.2 hp q i gm e.symm]
  refine o7 e2 fun z hz=>?_
  obtain ⟨q',i',y2,k1,k2,k3,_⟩:=yI _ hz
  have ek:own q=own q':=congrArg Prod.fst k2
  have:=lW _ _ ek
  subst this
  rw [gm] at k1;cases k1
  rw [hy] at k3;cases k3
  exact congrArg Prod.snd k2
 have s3:∀k,(∀x,(k,x) ∉ eA V sg.md cs oO)→(∀q i,sg.own[q]?=some i→own q≠k)→S' k=S1 k:=fun k hb hn=>by
  rw [nf,dV fun p hp e=>hb p.2 (by rw [←e];exact hp),dV fun p hp e=>by
   obtain ⟨q,i,y,k1,rfl,_⟩:=yI p hp
   exact hn q i k1 e]
 have kK:Core C.nt R' w' C.cg τ' S':=by
  refine h1.step (fun k=>(∃x,(k,x)∈eA V sg.md cs oO)∨∃q i,sg.own[q]?=some i∧own q=k) iz.cq (fun k hk=>?_) (fun k g hk hb=>?_) ?_ ?_ ?_ ?_ ?_ ?_ (fun _=>id) ?_ uH ?_
  ·have e1:∀q i,sg.own[q]?=some i→own q≠k:=fun q i a b=>hk (.inr ⟨q,i,a,b⟩)
   exact ⟨s3 k (fun x hx=>hk (.inl ⟨x,hx⟩)) e1,t2 k e1⟩
  ·have eJ:=h1.lt hb
   have C0:¬pj sg.md vs g:=fun hg=>by
    obtain ⟨k',x,hm,fJ⟩:=EN g hg
    obtain ⟨_,_,_,_,_,_,_,_,hp,_⟩:=bk k' x hm
    have:=h1.j0 fJ hb
    subst this
    exact hk (.inl ⟨x,hm⟩)
   exact ⟨iz.heap g eJ C0,fun o hr=>(iz.oZ g o hr).resolve_right (by rintro (h | h);exact absurd eJ (by omega);exact C0 h)⟩
  ·rintro k (⟨x,hx⟩ | ⟨q,i,gm,rfl⟩)
   ·obtain ⟨i,v,y,e1,e2,rfl,e3,e4,e5,e6,_⟩:=bk k x hx
    have hB:=ki.DC i y _ e2 e1
    rw [s1 k x hx,t2 k (Cg k x hx)]
    simp only [aD,Prod.mk.injEq,List.not_mem_nil,or_false] at e6
    rcases e6 with ⟨⟨rfl,em⟩ | ⟨rfl,em⟩ | ⟨rfl,em⟩,_⟩ | ⟨em,_,rfl,Im⟩ <;> rw [em] at hB
    ·obtain ⟨b,cs,e,xs,k1,k2,k3,k4,k5,k6⟩:=hB
     exact ⟨b,cs,e,xs,k1,k2,k3,k4,by simp,k6⟩
    ·exact hB
    ·trivial
    ·rcases Im with e | ⟨r,e⟩ <;> rw [e] <;> exact hB
   ·obtain ⟨v,y,e1,e2,e3,e4,e5⟩:=rv q i gm
    rw [s2 q i y gm e3,t1 q i gm,e2]
    exact e5
  ·rintro k (⟨x,hx⟩ | ⟨q,i,gm,rfl⟩)
   ·exact .inl (t2 k (Cg k x hx))
   ·exact .inr (.inr (nw q i gm).1)
  ·rintro k (⟨x,hx⟩ | ⟨q,i,gm,rfl⟩)
   ·obtain ⟨i,v,y,e1,e2,rfl,e3,e4,e5,e6,_⟩:=bk k x hx
    rw [s1 k x hx]
    simp only [aD,Prod.mk.injEq,List.not_mem_nil,or_false] at e6
    right
    rcases e6 with ⟨⟨rfl,em⟩ | ⟨rfl,em⟩ | ⟨rfl,em⟩,_⟩ | ⟨em,_,rfl,e | ⟨r,e⟩⟩ <;> first | (rw [e];simp) | simp
   ·obtain ⟨v,y,e1,e2,e3,e4,e5⟩:=rv q i gm
    rw [s2 q i y gm e3];right;simp
  ·rintro k (⟨x,hx⟩ | ⟨q,i,gm,rfl⟩)
   ·obtain ⟨i,v,y,e1,e2,rfl,e3,e4,e5,e6,_⟩:=bk k x hx
    rw [s1 k x hx]
    simp only [aD,Prod.mk.injEq,List.not_mem_nil,or_false] at e6
    rcases e6 with ⟨e6,hP⟩ | ⟨em,ex,_⟩
    ·exact .inl ⟨hP,by rcases e6 with ⟨rfl,em⟩ | ⟨rfl,em⟩ | ⟨rfl,em⟩ <;> rfl⟩
    ·exact .inr ⟨e5,ex⟩
   ·obtain ⟨v,y,e1,e2,e3,e4,e5⟩:=rv q i gm
    rw [s2 q i y gm e3,(nw q i gm).1];exact .inl ⟨rfl,rfl⟩
  ·rintro k (⟨x,hx⟩ | ⟨q,i,gm,rfl⟩) _
   ·obtain ⟨i,v,y,e1,e2,rfl,e3,e4,e5,e6,_⟩:=bk k x hx
    exact .inl e4
   ·exact .inr (nw q i gm).1
  ·have uB:∀k x,(k,x)∈eA V sg.md cs oO→(S' k).2.own=true→∃i,(sg.md.getD i .pl).uB∧vs[i]?=some (τ k):=fun k x hx ho=>by
    obtain ⟨i,v,y,e1,e2,rfl,e3,e4,e5,e6,_⟩:=bk k x hx
    rw [s1 k x hx] at ho
    refine ⟨i,?_,e1⟩
    simp only [aD,Prod.mk.injEq,List.not_mem_nil,or_false] at e6
    rcases e6 with ⟨⟨rfl,em⟩ | ⟨rfl,em⟩ | ⟨rfl,em⟩,_⟩ | ⟨em,_⟩ <;> rw [em] <;> first | (cases ho;done) | exact ⟨by simp,by simp⟩
   have zV:∀k x q i g,(k,x)∈eA V sg.md cs oO→sg.own[q]?=some i→dv τ' S' k=some g→dv τ' S' (own q)=some g→False:=fun k x q i g hx gm h1 h2=>by
    obtain ⟨o1,b1⟩:=cZ h1
    obtain ⟨o2,b2⟩:=cZ h2
    obtain ⟨j,l1,l2⟩:=uB k x hx o1
    obtain ⟨v,y,e1,e2,e3,e4,e5⟩:=rv q i gm
    rw [t1 q i gm,e2] at b2
    rw [t2 k (Cg k x hx)] at b1
    exact ki.Ez i (ay gm) v g e1 b2 j _ l1 l2 b1
   rintro k g (⟨x,hx⟩ | ⟨q,i,gm,rfl⟩) hb
   ·obtain ⟨i,v,y,e1,e2,rfl,e3,e4,e5,e6,_⟩:=bk k x hx
    have b1:=(cZ hb).2
    rw [t2 k (Cg k x hx)] at b1
    have b2:=dL e4 e5 b1
    refine ⟨h1.cg k g b2,?_,.inr ⟨k,.inl ⟨x,hx⟩,b2⟩⟩
    rintro k' (⟨x',pk⟩ | ⟨q,i,gm,rfl⟩) fP fJ
    ·obtain ⟨_,_,_,_,_,_,_,f4,f5,_⟩:=bk k' x' pk
     have b3:=(cZ fJ).2
     rw [t2 k' (Cg k' x' pk)] at b3
     exact fP (h1.j0 b2 (dL f4 f5 b3)).symm
    ·exact zV k x q i g hx gm hb fJ
   ·obtain ⟨v,y,e1,e2,e3,e4,e5⟩:=rv q i gm
    have b1:=(cZ hb).2
    rw [t1 q i gm,e2] at b1
    have hm:=ki.cg i (ay gm) v g e1 b1
    refine ⟨hm.elim (tj g) fun e => .inr (Nat.le_trans h'.ext.size e),?_,hm.symm.imp id fun hg=>?_⟩
    ·rintro k' (⟨x',pk⟩ | ⟨q',i',AQ,rfl⟩) fP fJ
     ·exact zV k' x' q i g pk gm fJ hb
     ·obtain ⟨v',y',f1,f2,_⟩:=rv q' i' AQ
      have b2:=(cZ fJ).2
      rw [t1 q' i' AQ,f2] at b2
      exact fP (by rw [ki.EA q q' i i' v v' g gm AQ e1 f1 b1 b2])
    ·obtain ⟨k0,x0,h0,lp⟩:=EN g hg
     exact ⟨k0,.inl ⟨x0,h0⟩,lp⟩
  ·rintro k (⟨x,hx⟩ | ⟨q,i,gm,rfl⟩) j hj
   ·obtain ⟨i,v,y,e1,e2,rfl,e3,e4,e5,e6,_⟩:=bk k x hx
    rw [s1 k x hx] at hj
    simp only [aD,Prod.mk.injEq,List.not_mem_nil,or_false] at e6
    rcases e6 with ⟨⟨rfl,em⟩ | ⟨rfl,em⟩ | ⟨rfl,em⟩,_⟩ | ⟨em,ex,_⟩ <;> first | (simp [Gh.bP] at hj;done) | skip
    rw [ex] at hj
    obtain ⟨q1,q2⟩:=h1.inv k j hj
    refine ⟨q1,?_⟩
    by_cases hb:∃x',(j,x')∈eA V sg.md cs oO
    ·obtain ⟨x',pk⟩:=hb
     obtain ⟨i',_,_,_,_,_,_,f3,_,f6,_⟩:=bk j x' pk
     rw [s1 j x' pk]
     simp only [aD,Prod.mk.injEq,List.not_mem_nil,or_false] at f6
     rcases f6 with ⟨⟨rfl,_⟩ | ⟨rfl,_⟩ | ⟨rfl,_⟩,_⟩ | ⟨_,rfl,_⟩ <;> first | (simp;done) | exact q2
    ·rw [s3 j (fun x' pk=>hb ⟨x',pk⟩) fun q i gm e=>by rw [←e] at q2;exact q2 (nw q i gm).1]
     exact q2
   ·obtain ⟨v,y,e1,e2,e3,e4,e5⟩:=rv q i gm
    rw [s2 q i y gm e3] at hj
    simp [Gh.bP] at hj
  ·rintro k (⟨x,hx⟩ | ⟨q,i,gm,rfl⟩) hk
   ·obtain ⟨_,_,_,_,_,_,e3,_⟩:=bk k x hx;omega
   ·have:=(nw q i gm).2.2;omega
 have qH:cG C S' a w' R' τ':=⟨h'.size,h'.defers,kK,fun t ht=>by
   rw [t2 t fun q i gm e=>by have:=(nw q i gm).2.2;omega];exact h'.tmps t ht,
  ⟨h'.io.1,fun k hk=>by rw [t2 k fun q i gm e=>by have:=(nw q i gm).2.1;omega];exact h'.io.2 k hk⟩,h'.ext.trans iz (fun b hb=>tj b hb),h'.gl.cq iz.cq⟩
 show K (a.put o.dst x) w'
 rcases hd with hd | ⟨d,hd,hl⟩
 ·rw [hd] at hK ⊢
  exact hK _ _ ⟨R',τ',show cG C _ a w' R' τ' by simpa only [eG,se] using qH⟩
 ·rw [hd] at hK ⊢
  refine hK _ _ ?_
  simp only [eG,se]
  have om:cz R' w' τ' (ug own sg (outs.take sg.bE)).1 (ug own sg (outs.take sg.bE)).2 x∧(ug own sg (outs.take sg.bE)).2.slot=true∧∀k∈(ug own sg (outs.take sg.bE)).2.bP,∃q i,sg.own[q]?=some i∧k=own q:=by
   have fh:=ki.rep
   unfold ug
   cases hb:Nat.beq sg.bE 1 with
   | true =>
    have hb:=aj hb
    have hx:=ki.val
    simp only [hb,if_true] at hx
    have hl:=ki.len
    simp only [hb] at hl
    obtain ⟨v,rfl⟩:∃v,eN=[v]:=by
     match eN,hl with
     | [v],_=>exact ⟨v,rfl⟩
    subst hx
    simp only [ao]
    cases ho:sg.own with
    | nil =>
     rw [ho,qq] at fh
     refine ⟨?_,rfl,by simp [Gh.bP]⟩
     generalize outs.take sg.bE=l at *
     cases fh with
     | cons hr _=>exact .no hr
    | cons i r =>
     have h0:sg.own[0]?=some i:=by rw [ho];rfl
     obtain ⟨v',y,e1,e2,e3,e4,e5⟩:=rv 0 i h0
     cases Cc:Nat.blt i 1000 with
     | true =>
      have uV:=e1
      unfold iT at uV
      rw [Cc,ao] at uV
      have hi:i=0:=by have:=(av.1 uV).1;simp at this;exact this
      subst hi
      cases uV
      dsimp only
      simp only [Cc,ao]
      exact ⟨⟨by rw [t1 0 0 h0];rfl,e5.one⟩,rfl,fun k hk=>⟨0,0,by rw [←ho];exact h0,by simpa [Gh.bP] using hk⟩⟩
     | false =>
      have uV:=e1
      unfold iT at uV
      rw [Cc,af] at uV
      simp only [List.getElem?_cons_zero] at uV
      have AP:fM (i :: r)=false:=by unfold fM;rw [List.all_cons,Cc];rfl
      rw [ho] at fh
      dsimp only
      simp only [Cc,af]
      unfold ka at fh ⊢
      rw [AP] at fh ⊢
      simp only [af] at fh ⊢
      unfold jV at e3
      rw [Cc,af] at e3
      generalize outs.take sg.bE=l at *
      match l,e3,fh with
      | .ag pG :: l',_,fh =>
       simp only [aQ,DX] at fh ⊢
       cases fh with
       | cons hr ht =>
        cases hr with
        | sc e=>cases e
        | @ag _ ys hL =>
         have hcell:ys[i - 1000]?=some (τ' (own 0)):=by rw [t1 0 i h0,e2];exact uV
         exact ⟨⟨_,_,rfl,rfl,hL,fun p hp=>by simp at hp;subst hp;exact hcell⟩,rfl,fun k hk=>⟨0,i,by rw [←ho];exact h0,by simpa [Gh.bP] using hk⟩⟩
   | false =>
    have hb:sg.bE≠1:=fun e=>by rw [e] at hb;cases hb
    have hx:=ki.val
    simp only [ak hb] at hx
    subst hx
    simp only [af]
    cases ho:sg.own with
    | nil =>
     rw [ho] at fh
     exact ⟨.no (.tu fh),rfl,by simp [Gh.bP]⟩
    | cons i r =>
     simp only [List.isEmpty_cons,af]
     rw [←ho]
     have key:∀p∈(sg.own.mapIdx fun j i=>(i,own j)),∃q,sg.own[q]?=some p.1∧p.2=own q:=fun p hp=>by
      obtain ⟨q,hq⟩:=List.mem_iff_getElem?.1 hp
      rw [List.getElem?_mapIdx,aH] at hq
      obtain ⟨i,h1,rfl⟩:=hq
      exact ⟨q,h1,rfl⟩
     refine ⟨⟨eN,_,rfl,rfl,fh,fun p hp=>?_⟩,rfl,fun k hk=>?_⟩
     ·obtain ⟨q,k1,k2⟩:=key p hp
      obtain ⟨v',y,e1,e2,e3,e4,e5⟩:=rv q p.1 k1
      have AP:fM sg.own=true:=by
       unfold okO at E3
       cases hs:fM sg.own with
       | true=>rfl
       | false=>rw [hs,Bool.false_or,ae] at E3;exact (hb (aj E3.1)).elim
      have uV:=e1
      unfold iT at uV
      rw [aw.1 AP p.1 (ay k1),ao] at uV
      rw [k2,t1 q p.1 k1,e2,uV]
     ·obtain ⟨p,hp,rfl⟩:=aU.1 hk
      obtain ⟨q,k1,k2⟩:=key p hp
      exact ⟨q,p.1,k1,k2⟩
  refine qH.yl hl om.1 om.2.1 fun k hk=>?_
  obtain ⟨q,i,gm,rfl⟩:=om.2.2 k hk
  obtain ⟨v,y,e1,e2,e3,e4,e5⟩:=rv q i gm
  exact ⟨(nw q i gm).2.2,by rw [s2 q i y gm e3];simp⟩
end
end Go.Eng
namespace Go.Eng
open Go.RowKit
theorem vr {P:Program} {w:World} {nm:String} {b:Nat} (hb:Fl.num b=true):(Extern.MathFloor.toIntegral nm .zero #[.float .f64 b]).run P w = .ok (.float .f64 (Fl.vt b)) w:=by
 unfold Fl.num at hb
 have e:Extern.MathFloor.toIntegral nm .zero #[.float .f64 b]=(match FloatKind.f64.decode b with
  | .nan s t =>
   if FloatKind.f64.format.quiet t=t then pure (.float .f64 b) else do
   let kept ←choose (.extern "math.Floor,Ceil,Trunc,RoundToEven.signallingNaN kept" 2)
   pure (.float .f64 (if kept == 1 then b else FloatKind.f64.encode (.nan s (FloatKind.f64.format.quiet t))))
  | d=>pure (.float .f64 (FloatKind.f64.encode (d.integral .zero)))):=rfl
 rw [e]
 unfold Fl.vt
 cases hd:FloatKind.f64.decode b with
 | nan s t=>rw [hd] at hb;cases hb
 | number s m e=>rfl
 | infinity s=>rfl
theorem wL {fn:Func} {nm:String} {f:Array Value→Sem Value} (h:fn.name=nm) (e1:Extern.allGenericRows.lookup nm=none) (e2:Extern.allTypedRows.lookup nm=none) (e3:Extern.allRows.lookup nm=some f):Extern.find fn=some f:=by
 unfold Extern.find
 simp only [h,e1,e2,e3]
 rfl
theorem wK {fn:Func} {nm:String} (h:fn.name=nm) (h2:fn.origin = "" ∨ fn.origin=nm) (e1:Extern.allNextRows.lookup nm=none):Extern.findNext fn=none:=by
 have e2:(Extern.allNextRows.lookup "")=none:=by kernel_rfl
 unfold Extern.findNext
 rcases h2 with h2 | h2 <;> simp only [h,h2,e1,e2] <;> rfl
theorem ri (l:bG):Lib.bytesOf (l.map fun x=>(x.toNat:Int))=l:=by
 unfold Lib.bytesOf
 rw [List.map_map]
 conv=>rhs;rw [←List.map_id l]
 exact List.map_congr_left fun x _=>by simp
theorem qj {P:Program} {w:World} {R:Reach} {l:bG} {v:Value} {c:UInt8} (h:Rep R w (.sl .bs l) v):(Extern.BytealgIndexByte.indexByte #[v,.int .u8 c.toNat]).run P w = .ok (.int .i64 (Lib.indexByte l c)) w:=by
 have hs:=Lib.run_indexByteString (P:=P) .empty (c.toNat:Int) w
 cases h with
 | sc h=>cases h
 | sn=>exact hs
 | em=>exact hs
 | @sl _ _ b off n cap hn _ _ hE =>
  have e:=Lib.run_indexByteSlice (P:=P) w b off n cap (l.map fun x=>(x.toNat:Int)) (by simp [hn]) (fun i hi=>by
   have hi:i<l.length:=by omega
   have hg:=hE.get i (.u8 l[i]) (by rw [ba,ah hi];rfl)
   rw [show dS.size .bs=1 from rfl,Nat.mul_one] at hg
   cases hg with
   | one _ _ hc _ hr =>
    rw [hc,hr.dA rfl,ai,ba,ah hi];rfl) (c.toNat:Int)
  rw [e,ri];simp
section
variable {C:Ctx} {S V:St} {a:Act} {w:World} {R:Reach} {τ:Nat→Value} {o:Oper}
theorem nx {f:Nat} {nm:String} {args:Array Operand} {ts:Array TypeId} {g:Array Value→Sem Value} {vs:Array Value} {v:Value} (ho:o.op = .call { callee := .value (.func f),args:=args,argTypes:=ts }) (hv:args.map a.eval=vs) (hf:jz C.P f nm=true) (hg:(nm == "runtime.NumGoroutine")=false)
  (e1:Extern.allGenericRows.lookup nm=none) (e2:Extern.allTypedRows.lookup nm=none) (e3:Extern.allRows.lookup nm=some g) (e4:Extern.allNextRows.lookup nm=none) (hr:(g vs).run C.P w = .ok v w):(execOp a.eval o).run C.P w = .ok (.value v) w:=by
 unfold jz at hf
 cases hfn:C.P.funcs[f]? with
 | none=>simp [hfn] at hf
 | some fn =>
  simp only [hfn,Option.any_some,ae,beq_iff_eq,Bool.or_eq_true] at hf
  obtain ⟨⟨hn,hb⟩,HH⟩:=hf
  have fY:=run_callFunc_extern (P:=C.P) hfn (by rw [hn];simpa using hg) hb (wK hn HH e4) (wL hn e1 e2 e3) vs w
  rw [hr] at fY
  have he:a.eval (.func f) = .func (.func f) #[] #[]:=rfl
  simp only [execOp,ho,resolve,Deferred.ofValue,he,invoke]
  simpa [hv,resolve,Deferred.ofValue,invoke] using fY
theorem cQ.any (h:cG C S a w R τ) (hd:o.dst=none∨∃d,o.dst=some d∧d<C.nt) {v:Value} {x:TV} (hr:(execOp a.eval o).run C.P w = .ok (.value v) w) (hs:Rep R w x v):cQ C o a w (eG S o.dst ⟨none,(x,.no),[]⟩):=by
 rcases hd with hd | ⟨d,hd,hl⟩
 ·intro K Q hK
  unfold Oper.wp
  rw [hr,Oper.upon_value,hd]
  rw [hd] at hK
  exact hK _ _ ⟨R,τ,h⟩
 ·rw [hd];exact h.er hd hl hr hs
theorem go_xtn (h:cG C S a w R τ) (hV:Lt V S) (hd:o.dst=none∨∃d,o.dst=some d∧d<C.nt) {f:Nat} {args:Array Operand} {ts:Array TypeId} {e:dP} (hp:∀p,e.p=some p→p=true) (ho:o.op = .call { callee := .value (.func f),args:=args,argTypes:=ts }) (he:Bj C.P f (je C.E C.nt V ts.toList args.toList)=some e):cQ C o a w (eG S o.dst e):=by
 cases hcs:je C.E C.nt V ts.toList args.toList with
 | none=>rw [hcs] at he;cases he
 | some cs =>
  obtain ⟨eS,_,_⟩:=iV h hV hcs
  have ea:∀{vs:List Value},args.toList.map a.eval=vs→args.map a.eval=⟨vs⟩:=fun hv=>by apply Array.ext';simpa using hv
  rw [hcs] at he
  unfold Bj at he
  split at he
  ·rename_i b hb
   cases hb
   obtain ⟨h1,h2⟩:=bt.1 he
   cases h2
   generalize hv:args.toList.map a.eval=vs at eS
   cases eS with
   | cons a1 _ t =>
    cases t
    obtain rfl:=(eX.rep a1).dA rfl
    have:=nx ho (ea hv) h1 (by decide +kernel) (by kernel_rfl) (by kernel_rfl) (by kernel_rfl) (by kernel_rfl) (vr (P:=C.P) (w:=w) (nm:=vv) (hp _ rfl))
    exact cQ.any h hd this (.sc rfl)
  ·rename_i l c hb
   cases hb
   obtain ⟨h1,h2⟩:=bt.1 he
   cases h2
   generalize hv:args.toList.map a.eval=vs at eS
   cases eS with
   | cons a1 _ t =>
    cases t with
    | cons a2 _ t =>
     cases t
     obtain rfl:=(eX.rep a1).dA rfl
     obtain rfl:=(eX.rep a2).dA rfl
     have hr:(Extern.BytealgIndexByte.indexByte #[.string ⟨⟨l⟩⟩,.int .u8 c.toNat]).run C.P w = .ok (.int .i64 (Lib.indexByte l c)) w:=by
      rw [Lib.run_indexByteString];simp
     have:=nx ho (ea hv) h1 (by decide +kernel) (by kernel_rfl) (by kernel_rfl) (by kernel_rfl) (by kernel_rfl) hr
     exact cQ.any h hd this (.sc rfl)
  ·rename_i l c hb
   cases hb
   obtain ⟨h1,h2⟩:=bt.1 he
   cases h2
   generalize hv:args.toList.map a.eval=vs at eS
   cases eS with
   | cons a1 _ t =>
    cases t with
    | cons a2 _ t =>
     cases t
     obtain rfl:=(eX.rep a2).dA rfl
     have:=nx ho (ea hv) h1 (by decide +kernel) (by kernel_rfl) (by kernel_rfl) (by kernel_rfl) (by kernel_rfl) (qj (eX.rep a1))
     exact cQ.any h hd this (.sc rfl)
  ·cases he
end
end Go.Eng
namespace Go.Eng
open Go.RowKit
theorem Cells.get {R:Reach} {w:World} {τ:Nat→Value} {nt:Nat}:∀{cs:List Cell} {vs:List Value},Cells R w τ nt cs vs→∀(i:Nat) (c:Cell),cs[i]?=some c→∃v,vs[i]?=some v∧cz R w τ c.1 c.2 v∧∀m∈c.2.bP,nt≤m
 | _,_,.cons a b _,0,c,h=>by cases h;exact ⟨_,rfl,a,b⟩
 | _,_,.cons _ _ t,i+1,c,h=>by simpa using Cells.get t i c (by simpa using h)
theorem Cells.set {R:Reach} {w:World} {τ:Nat→Value} {nt:Nat}:∀{cs:List Cell} {vs:List Value} {i:Nat},Cells R w τ nt cs vs→Cells R w τ nt (cs.set i (.dead,.no)) vs
 | _,_,_,.nil => .nil
 | _,_,0,.cons a b t => .cons (.no (.dead _)) (by simp [Gh.bP]) t
 | _,_,i+1,.cons a b t => .cons a b (Cells.set t)
theorem zy {a b:Nat} (h:(!Nat.beq a b)=true):a≠b:=fun e=>by subst e;simp at h
theorem yi {R:Reach} {w:World} {τ:Nat→Value} {n:Nat} {rs:List TV} {eN:List Value} (h:dW R w rs eN) (hl:eN.length=n):cz R w τ (uf n rs).1 (uf n rs).2 (if eN.length=1 then eN.headD undef else .tuple ⟨eN⟩)∧(uf n rs).2.slot=true∧(uf n rs).2.bP=[]:=by
 unfold uf
 cases hb:Nat.beq n 1 with
 | true =>
  have:=aj hb
  rw [ar (by omega)]
  refine ⟨?_,rfl,rfl⟩
  match rs,eN,h with
  | [],[],_=>simp at hl;omega
  | _,_,.cons a _=>exact .no a
 | false =>
  rw [ak (by intro e;rw [←hl,e] at hb;simp at hb)]
  exact ⟨.no (.tu h),rfl,rfl⟩
section
variable {C:Ctx} {S V:St} {a:Act} {w:World} {R:Reach} {τ:Nat→Value} {o:Oper} {d:Nat}
theorem go_pn (h:cG C S a w R τ) (hV:Lt V S) (hd:o.dst=some d) (hl:d<C.nt) {neg:Bool} {b:BinOp} {t u e:TypeId} {x y:Operand} {m q:Nat} (ho:o.op = .binOp b t x y u) (hb:b=if neg then .neq else .eql) (ht:C.P.underlying t=some (.pointer e)) (hx:dQ C.E C.nt V t x=some (.pt,.ptr m q)) (hy:dQ C.E C.nt V u y=some (.c (.pointer none),.no)):cQ C o a w (bN S d (.b neg,.no)):=by
 obtain ⟨q1,_,_⟩:=dN h hV hx
 obtain ⟨g,_,hp⟩:∃g,τ m = .pointer (some ⟨g,0,none⟩)∧a.eval x = .pointer (some ⟨g,q,none⟩):=q1
 have hq:=(cR h hV hy).dA rfl
 have hg:eqGuard b t x y (.pointer (some ⟨g,q,none⟩)) (.pointer none)=pure ():=by unfold eqGuard;cases neg <;> simp [hb]
 have he:(Op.equal t (.pointer (some ⟨g,q,none⟩)) (.pointer none)).run C.P w = .ok false w:=by
  unfold Op.equal Op.maxDepth
  rw [show (10000:Nat)=9999+1 from rfl,Op.equalIn]
  simp [run_underlying ht]
 refine h.er hd hl (v := .bool neg) ?_ (.sc rfl)
 simp only [execOp,ho,hp,hq,hg,Sem.run_bind,Sem.run_pure,Result.andThen_ok]
 cases neg <;> simp [hb,binOp,he]
theorem go_exv (h:cG C S a w R τ) (hV:Lt V S) (hd:o.dst=some d) (hl:d<C.nt) {x:Operand} {i k:Nat} {vs ds:List TV} {ts l:List (Nat × Nat)} (ho:o.op = .extract x i) (hx:dQ C.E C.nt V 0 x=some (.tu vs,.ve l)) (hk:fZ i l=some k) (hm:V k=(.ag ds,.cl ts)):cQ C o a w (bN S d (.pt,.ptr k 0)):=by
 obtain ⟨q1,_,q3⟩:=dN h hV hx
 obtain ⟨ys,rC,e1,e2,e3,e4⟩:∃ys rC,a.eval x = .tuple ⟨ys⟩∧TV.tu vs = .tu rC∧dW R w rC ys∧∀p∈l,ys[p.1]?=some (τ p.2):=q1
 have iZ:=fS hk
 obtain ⟨b,zs,el,ht,_⟩:=gW h hV (hV.of hm)
 refine h.val hd hl (v:=τ k) (by simp [execOp,ho,e1,Instr.extract,e4 _ iZ]) (g := .ptr k 0) ⟨b,ht,ht⟩ rfl fun j hj=>?_
 simp only [Gh.bP,List.mem_singleton] at hj
 subst hj
 exact q3 _ (List.mem_map_of_mem (f:=(·.2)) iZ)
theorem done {w':World} {R':Reach} {τ':Nat→Value} {K:Act→World→Prop} {e:dP} {v:Value} {l:List (Nat × Cell)} (hd:o.dst=none∨∃d,o.dst=some d∧d<C.nt) (hs:cG C (cO S l) a w' R' τ') (he:e.ws=l) (h1:cz R' w' τ' e.x.1 e.x.2 v) (h2:e.x.2.slot=true)
  (h3:∀k∈e.x.2.bP,C.nt≤k∧(cO S l k).2 ≠ .no) (hK:∀a' w',lF C (eG S o.dst e) a' w'→K a' w'):K (a.put o.dst v) w':=by
 rcases hd with hd | ⟨d,hd,hl⟩
 ·rw [hd] at hK ⊢
  exact hK _ _ ⟨R',τ',show cG C _ a w' R' τ' by simpa only [eG,he] using hs⟩
 ·rw [hd] at hK ⊢
  refine hK _ _ ?_
  simp only [eG,he]
  exact hs.yl hl h1 h2 h3
set_option maxHeartbeats 1000000 in
theorem go_wr (h:cG C S a w R τ) (hV:Lt V S) (hd:o.dst=none∨∃d,o.dst=some d∧d<C.nt) {f n i k:Nat} {c:eH} {e:Bool} (hS:z1 C.P C.gl f n i k c e) {args:Array Operand} {ts:Array TypeId} {x:Operand} (ho:o.op = .call { callee := .value x,args,argTypes:=ts }) (hx:a.eval x = .func (.func f) #[] #[])
  {tl:List TypeId} {cs:List Cell} {own:Nat→Nat} {ef:dP} (hcs:je C.E C.nt V tl args.toList=some cs) (hp:∀p,ef.p=some p→p=true) (he:Eu C.nt own V n c i k e cs=some ef):cQ C o a w (eG S o.dst ef):=by
 unfold Eu at he
 split at he <;> try (cases he;done)
 rename_i m H5
 split at he <;> try (cases he;done)
 rename_i ds us hm
 split at he <;> try (cases he;done)
 rename_i xs ws GZ rB y wj Fh B8 wo
 obtain ⟨Db,he⟩:=bt.1 he
 simp only [ae,aw] at Db
 obtain ⟨⟨GC,xJ⟩,Db⟩:=Db
 have xJ:0<C.nt:=Nat.le_of_ble_eq_true xJ
 have xN:∀p∈rB++ws,p.1≠m:=fun p hp=>zy (Db p hp).1
 have wB:∀q∈wj,∀p∈rB++ws,p.1≠q.1:=fun q hq p hp=>zy ((Db p hp).2 q hq)
 obtain ⟨eS,_,sb⟩:=iV h hV hcs
 generalize sa:args.toList.map a.eval=vs at *
 have Ft:S m=(.ag ds,.cl us):=hV.of hm
 obtain ⟨b,zs,el,yA,GQ,hL,D6,A8,hinv,H6⟩:=gW h hV Ft
 have Gp:vs[i]?=some (.pointer (some ⟨b,0,none⟩)):=by
  obtain ⟨v,h1,h2,_⟩:=eS.get i _ H5
  obtain ⟨b',e1,e2⟩:∃b',τ m = .pointer (some ⟨b',0,none⟩)∧v = .pointer (some ⟨b',0,none⟩):=h2
  rw [yA] at e1;cases e1
  rw [h1,e2]
 obtain ⟨R1,g1,f1,hT,q1⟩:=nj h.core hV.q eS.set Fh
 obtain ⟨R2,g2,f2,Ib,q2,_,H4⟩:=gZ g1 q1 (hL.mono f1.1) (fun t ht=>by
  have ht:t∈us:=by cases e <;> first | exact ht | exact (List.mem_filter.1 ht).1
  exact ⟨(hinv t ht).1,D6 t ht⟩) B8
 have GC:k<ds.length:=by rw [←H4];exact Nat.le_of_ble_eq_true GC
 rw [←eF] at g2 q2
 have f12:Fz C.cg R w R2:=f1.trans f2
 have h':cG C (cO S (rB++ws)) a w R2 τ:=h.fz g2 f12
 generalize yO:cO S (rB++ws)=S1 at *
 have zI:S1 m=(.ag ds,.cl us):=by rw [←yO,dV xN,Ft]
 obtain ⟨b',sH,xP,e1,e2,_,_,Fv,_,tm⟩:=gW h' (Lt.refl S1) zI
 rw [yA] at e1;cases e1
 rw [GQ] at e2;cases e2
 have EP:zs.length=ds.length:=hL.length.symm
 -- the private cell
 obtain ⟨u,hu,ES,xL,sd⟩:∃u,zs[k]?=some u∧(e=true→cV R2 w false u y∧Value.dv u≠some b)∧(wj=[]∨∃j z,wj=[(j,(.dead,.zz))]∧S1 j=(z,.pv)∧j≠m∧C.nt≤j) ∧
   (∀g,e=true→Value.dv u=some g→∃j,wj=[(j,(.dead,.zz))]∧dv τ S1 j=some g):=by
  cases e with
  | false =>
   rw [af] at wo;cases wo
   exact ⟨_,ah (by omega),by simp,.inl rfl,by simp⟩
  | true =>
   rw [ao] at wo
   unfold zr at wo
   split at wo
   ·rename_i j hj
    split at wo <;> try (cases wo;done)
    rename_i y' H9
    cases wo
    have iZ:=fS hj
    have Fu:S j=(y,.pv):=hV.of H9
    have Eb:S1 j=(y,.pv):=by rw [←yO,dV (wB _ (List.mem_singleton.2 rfl)),Fu]
    have Ea:j≠m:=fun e=>by rw [e,Ft] at Fu;cases Fu
    have hK:=h'.core.key j
    rw [Eb] at hK
    have xO:∀g,Value.dv (τ j)=some g→dv τ S1 j=some g:=fun g hg=>dL (by rw [Eb];rfl) (by rw [Eb];rfl) hg
    exact ⟨τ j,D6 _ iZ,fun _=>⟨hK,fun hb=>Ea (h'.core.j0 (xO b hb) tm)⟩,.inr ⟨j,y,rfl,Eb,Ea,(hinv _ iZ).1⟩,fun g _ hg=>⟨j,rfl,xO g hg⟩⟩
   ·split at wo <;> try (cases wo;done)
    rename_i t ht
    cases wo
    obtain ⟨u,hu,_,hr⟩:=hL.get k _ ht
    have:u = .slice none 0 0:=by
     cases hr with
     | sc h=>cases h
     | nl=>rfl
    subst this
    exact ⟨_,hu,fun _=>⟨⟨t,[],rfl,.inl ⟨rfl,rfl⟩⟩,by simp [Value.dv]⟩,.inl rfl,fun g _ hg=>by cases hg⟩
 have fin:∀outs p,(c (xs.set i (.ag ((GZ.map nrm).set k .pt))++[y])).holds outs→Cy C.nt own V n m k (wj++(rB++ws)) p outs=some ef→cQ C o a w (eG S o.dst ef):=by
  intro outs p hc he
  unfold Cy at he
  split at he <;> try (cases he;done)
  rename_i x2 y2 Fj
  obtain ⟨yH,he⟩:=bt.1 he
  cases he
  obtain ⟨r6,Gi,B2⟩:=dR (show Lq V S1 from q2) yH
  obtain ⟨wx,fY⟩:=hS _ outs hc
  have yC:xs.length=vs.length:=hT.length
  have Ec:i<vs.length:=(av.1 Gp).1
  have fY:=fY w R2 vs b zs el ((GZ.map nrm).set k .pt) u y h'.core.j9 h'.gl (by simp [yC]) (fun j x v hj hx hv=>by
    have C4:j<vs.length:=(av.1 hv).1
    rw [List.getElem?_append_left (by simp;omega),List.getElem?_set_ne (Ne.symm hj)] at hx
    obtain ⟨v',h1,h2⟩:=hT.get j x hx
    rw [hv] at h1;cases h1
    exact h2.mono f2.1) Gp (by rw [List.getElem?_append_left (by simp;omega),List.getElem?_set_self (by omega)]) GQ ((iG Ib).set fun _ _ => .pt _) Fv hu (by rw [←yC];simp) ES
  intro K Q hK
  unfold Oper.wp
  rw [nv ho hx wx,Oper.upon_enter]
  have e0:(⟨vs⟩:Array Value)=args.map a.eval:=by apply Array.ext';simp [←sa]
  rw [e0] at fY
  refine fY.mono ?_
  rintro ex w' ⟨R',eN,sH,xP,x',u',y',rfl,iz,uH,pS,ki,fh,fJ,Ic,Fw,C2,rF,CV⟩
  rw [Fj] at ki;cases ki
  show K (a.put o.dst _) w'
  have D9:own 0≠m:=fun e=>by rw [e,zI] at r6;cases r6
  have Gt:∀q∈wj,own 0≠q.1:=fun q hq e=>by
   rcases xL with rfl | ⟨j,z,rfl,hj,_⟩
   ·cases hq
   ·rw [List.mem_singleton] at hq;subst hq;simp only at e;rw [e,hj] at r6;cases r6
  have Ea:∀q∈wj,q.1≠m:=fun q hq e=>by
   rcases xL with rfl | ⟨j,z,rfl,hj,fP,_⟩
   ·cases hq
   ·rw [List.mem_singleton] at hq;subst hq;exact fP e
  have nf:cO S ((m,(.ag (x2.set k .pt),.cl [(k,own 0)])) :: (own 0,(y2,.pv)) :: (wj++(rB++ws)))=bN (bN (cO S1 wj) (own 0) (y2,.pv)) m (.ag (x2.set k .pt),.cl [(k,own 0)]):=by
   simp only [cO,eF];rw [←yO,eF]
  generalize se:bN (bN (cO S1 wj) (own 0) (y2,.pv)) m (.ag (x2.set k .pt),.cl [(k,own 0)])=S' at *
  have s1:S' m=(.ag (x2.set k .pt),.cl [(k,own 0)]):=by rw [←se,bF]
  have s2:S' (own 0)=(y2,.pv):=by rw [←se,bQ _ _ D9,bF]
  have s3:∀j x,wj=[(j,x)]→S' j=x:=fun j x e=>by
   subst e
   rw [←se,bQ _ _ (Ea (j,x) (List.mem_singleton.2 rfl)),bQ _ _ (Ne.symm (Gt (j,x) (List.mem_singleton.2 rfl)))];simp [cO,bF]
  have s4:∀q,q≠m→q≠own 0→(∀p∈wj,p.1≠q)→S' q=S1 q:=fun q e1 e2 e3=>by
   rw [←se,bQ _ _ e1,bQ _ _ e2,dV e3]
  have wy:∀g,(g=b∨(e=true∧Value.dv u=some g))→C.cg g:=by
   rintro g (rfl | ⟨he,hg⟩)
   ·exact h'.core.cg m _ tm
   ·obtain ⟨j,_,hb⟩:=sd g he hg;exact h'.core.cg j g hb
  have kK:Core C.nt R' w' C.cg (kq τ (own 0) u') S':=by
   refine h'.core.step (fun q=>q=m∨q=own 0∨∃x,wj=[(q,x)]) iz.cq (fun q hq=>?_) (fun q g hq hb=>?_) ?_ ?_ ?_ ?_ ?_ ?_ (fun _=>id) ?_ uH ?_
   ·refine ⟨s4 q (fun e=>hq (.inl e)) (fun e=>hq (.inr (.inl e))) (fun p hp e=>?_),dn _ _ fun e=>hq (.inr (.inl e))⟩
    rcases xL with rfl | ⟨j,z,rfl,_⟩
    ·cases hp
    ·rw [List.mem_singleton] at hp;subst hp;exact hq (.inr (.inr ⟨_,by rw [←e]⟩))
   ·have C0:¬(g=b∨(e=true∧Value.dv u=some g)):=by
     rintro (rfl | ⟨he,hg⟩)
     ·exact hq (.inl (h'.core.j0 hb tm))
     ·obtain ⟨j,ej,fJ⟩:=sd g he hg
      have:=h'.core.j0 hb fJ
      subst this
      exact hq (.inr (.inr ⟨_,ej⟩))
    have eJ:=h'.core.lt hb
    exact ⟨iz.heap g eJ C0,fun o hr=>(iz.oZ g o hr).resolve_right (by rintro (h | h);exact absurd eJ (by omega);exact C0 h)⟩
   ·rintro q (rfl | rfl | ⟨x,hx⟩)
    ·rw [s1,dn _ _ (Ne.symm D9)]
     exact ⟨b,sH,xP,_,yA,fJ,rfl,Ic.set fun _ _ => .pt _,fun t ht=>by rw [List.mem_singleton] at ht;subst ht;rw [dh];exact C2,Fw⟩
    ·rw [s2,dh];exact rF
    ·rcases xL with e | ⟨j,z,e,_⟩ <;> rw [e] at hx <;> cases hx
     rw [s3 _ _ e];trivial
   ·rintro q (rfl | rfl | ⟨x,hx⟩)
    ·exact .inl (dn _ _ (Ne.symm D9))
    ·exact .inr (.inr r6)
    ·exact .inl (dn _ _ (Ne.symm (Gt (q,x) (by rw [hx];exact List.mem_singleton.2 rfl))))
   ·rintro q (rfl | rfl | ⟨x,hx⟩) <;> right
    ·rw [s1];simp
    ·rw [s2];simp
    ·rcases xL with e | ⟨j,z,e,_⟩ <;> rw [e] at hx <;> cases hx
     rw [s3 _ _ e];simp
   ·rintro q (rfl | rfl | ⟨x,hx⟩) <;> left
    ·rw [s1,zI];exact ⟨rfl,rfl⟩
    ·rw [s2,r6];exact ⟨rfl,rfl⟩
    ·rcases xL with e | ⟨j,z,e,hj,_⟩ <;> rw [e] at hx <;> cases hx
     rw [s3 _ _ e,hj];exact ⟨rfl,rfl⟩
   ·rintro q (rfl | rfl | ⟨x,hx⟩) _
    ·rw [zI];exact .inl rfl
    ·exact .inr r6
    ·rcases xL with e | ⟨j,z,e,hj,_⟩ <;> rw [e] at hx <;> cases hx
     rw [hj];exact .inl rfl
   ·have Dg:∀g,dv (kq τ (own 0) u') S' m=some g→g=b:=fun g hg=>by
     have:=(cZ hg).2
     rw [dn _ _ (Ne.symm D9),yA] at this;cases this;rfl
    have GO:∀g,dv (kq τ (own 0) u') S' (own 0)=some g→Value.dv u'=some g:=fun g hg=>by
     have:=(cZ hg).2
     rwa [dh] at this
    have Fk:∀q x g,wj=[(q,x)]→dv (kq τ (own 0) u') S' q=some g→False:=fun q x g hx hg=>by
     have:=(cZ hg).1
     rcases xL with e | ⟨j,z,e,_⟩ <;> rw [e] at hx <;> cases hx
     rw [s3 _ _ e] at this;cases this
    rintro q g (rfl | rfl | ⟨x,hx⟩) hg
    ·have:=Dg g hg
     subst this
     refine ⟨wy _ (.inl rfl),?_,.inr ⟨_,.inl rfl,tm⟩⟩
     rintro q' (rfl | rfl | ⟨x,hx⟩) fP yL
     ·exact fP rfl
     ·exact (CV _ (GO _ yL)).1 rfl
     ·exact Fk _ _ _ hx yL
    ·have CW:=GO g hg
     obtain ⟨v1,v2⟩:=CV g CW
     refine ⟨v2.elim (fun hh=>wy g (.inr hh)) fun hh => .inr (Nat.le_trans h'.ext.size hh),?_,v2.symm.imp id fun ⟨he,hg⟩=>?_⟩
     ·rintro q' (rfl | rfl | ⟨x,hx⟩) fP yL
      ·exact v1 (Dg _ yL)
      ·exact fP rfl
      ·exact Fk _ _ _ hx yL
     ·obtain ⟨j,ej,hb⟩:=sd g he hg
      exact ⟨j,.inr (.inr ⟨_,ej⟩),hb⟩
    ·exact (Fk _ _ _ hx hg).elim
   ·rintro q (rfl | rfl | ⟨x,hx⟩) j hj
    ·rw [s1] at hj
     simp only [Gh.bP,aQ,bn,List.mem_singleton] at hj
     subst hj
     exact ⟨B2,by rw [s2];simp⟩
    ·rw [s2] at hj;cases hj
    ·rcases xL with e | ⟨j,z,e,_⟩ <;> rw [e] at hx <;> cases hx
     rw [s3 _ _ e] at hj;cases hj
   ·rintro q (rfl | rfl | ⟨x,hx⟩) hq
    ·have:=h'.core.slt q hq;rw [zI] at this;cases this
    ·omega
    ·rcases xL with e | ⟨j,z,e,_,_,hn⟩ <;> rw [e] at hx <;> cases hx
     omega
  obtain ⟨r1,r2,r3⟩:=yi (τ:=kq τ (own 0) u') fh pS
  refine done hd (l:=(m,(.ag (x2.set k .pt),.cl [(k,own 0)])) :: (own 0,(y2,.pv)) :: (wj++(rB++ws))) ?_ rfl r1 r2 (by rw [r3];simp) hK
  rw [nf]
  exact ⟨h'.size,h'.defers,kK,fun t ht=>by rw [dn _ _ (by omega)];exact h'.tmps t ht,⟨h'.io.1,fun q hq=>by rw [dn _ _ (by omega)];exact h'.io.2 q hq⟩,h'.ext.trans iz wy,h'.gl.cq iz.cq⟩
 split at he
 ·rename_i outs hc
  exact fin outs none (by rw [hc];rfl) he
 ·rename_i p outs hc
  have oq:p=true:=by
   have kJ:=he
   unfold Cy at kJ
   split at kJ <;> try (cases kJ;done)
   obtain ⟨_,kJ⟩:=bt.1 kJ
   cases kJ
   exact hp _ rfl
  exact fin outs (some p) (by rw [hc];exact ⟨oq,rfl⟩) he
 ·cases he
set_option maxHeartbeats 1000000 in
theorem go_nw (h:cG C S a w R τ) (hV:Lt V S) (hd:o.dst=none∨∃d,o.dst=some d∧d<C.nt) {f n:Nat} {c:eH} {oc:Option Nat} (hS:z7 C.P C.gl f n c oc) {args:Array Operand} {ts:Array TypeId} {x:Operand} (ho:o.op = .call { callee := .value x,args,argTypes:=ts }) (hx:a.eval x = .func (.func f) #[] #[])
  {tl:List TypeId} {cs:List Cell} {own:Nat→Nat} {ef:dP} (lW:0<C.nt→∀j j',own j=own j'→j=j') (hcs:je C.E C.nt V tl args.toList=some cs) (hp:∀p,ef.p=some p→p=true) (he:EI C.nt own V n c oc cs=some ef):cQ C o a w (eG S o.dst ef):=by
 unfold EI at he
 split at he <;> try (cases he;done)
 rename_i xs ws Fh
 obtain ⟨eS,_,sb⟩:=iV h hV hcs
 generalize sa:args.toList.map a.eval=vs at *
 obtain ⟨R1,g1,f1,hT,q1⟩:=nj h.core hV.q eS Fh
 have h':cG C (cO S ws) a w R1 τ:=h.fz g1 f1
 generalize yO:cO S ws=S1 at *
 have e0:(⟨vs⟩:Array Value)=args.map a.eval:=by apply Array.ext';simp [←sa]
 have slot:∀{R':Reach} {w':World} {τ':Nat→Value} {b:Nat} {rs:List TV} {eN:List Value},τ' (own 0) = .pointer (some ⟨b,0,none⟩)→dW R' w' rs eN→eN.length+1=n →
   let q:Cell:=cond (Nat.beq n 1) (.pt,.ptr (own 0) 0) (.tu (.pt :: rs),.ve [(0,own 0)])
   cz R' w' τ' q.1 q.2 (if eN.length+1=1 then .pointer (some ⟨b,0,none⟩) else .tuple ⟨.pointer (some ⟨b,0,none⟩) :: eN⟩)∧q.2.slot=true∧q.2.bP=[own 0]:=by
  intro R' w' τ' b rs eN ht hr hl
  cases hb:Nat.beq n 1 with
  | true =>
   have:=aj hb
   rw [ar (by omega)]
   exact ⟨⟨b,ht,rfl⟩,rfl,rfl⟩
  | false =>
   rw [ak (by intro e;rw [←hl,e] at hb;simp at hb)]
   exact ⟨⟨_,_,rfl,rfl,.cons (.pt _) hr,fun p hp=>by rw [List.mem_singleton] at hp;subst hp;simp [ht]⟩,rfl,rfl⟩
 have fin:∀outs p,(c xs).holds outs→CI C.nt own V n oc ws p outs=some ef→cQ C o a w (eG S o.dst ef):=by
  intro outs p hc he
  obtain ⟨wx,fY⟩:=hS _ outs hc
  have fY:=fY w R1 vs h'.core.j9 h'.gl hT
  rw [e0] at fY
  unfold CI at he
  intro K Q hK
  unfold Oper.wp
  rw [nv ho hx wx,Oper.upon_enter]
  refine fY.mono ?_
  rintro ex w' ⟨R',eN,b,zs,el,x1,IG,rfl,iz,uH,pS,D7,fh,Cb,hb,hL,A8,HI⟩
  show K (a.put o.dst _) w'
  have Fa:∀g,w.heap.size≤g→C.cg g:=fun g hg => .inr (Nat.le_trans h'.ext.size hg)
  have u9:∀j g,dv τ S1 j=some g→w'.heap[g]?=w.heap[g]?∧∀o,R' g o→R1 g o:=fun j g hg=>by
   have eJ:=h'.core.lt hg
   exact ⟨iz.heap g eJ (by simp),fun o hr=>(iz.oZ g o hr).resolve_right (by rintro (h | h);exact absurd eJ (by omega);exact h)⟩
  split at he <;> try (cases he;done)
  ·rename outs.take n=_=>e1
   obtain ⟨yH,he⟩:=bt.1 he
   cases he
   rw [D7] at e1;cases e1
   simp only [ae] at yH
   obtain ⟨r6,Gi,B2⟩:=dR (show Lq V S1 from q1) yH.1
   have kK:=h'.core.tR (k:=own 0) (v := .pointer (some ⟨b,0,none⟩)) (x := .ag x1) (g := .cl []) B2 iz.cq (fun j g _ hg=>u9 j g hg) ⟨b,zs,el,_,rfl,hb,rfl,hL,by simp,A8⟩ (.inr r6) (by rw [r6];exact ⟨rfl,rfl⟩) (by simp) (fun _ => .inr r6)
    (fun g _ hg=>by cases hg;exact ⟨Fa _ Cb,.inl Cb⟩) (by simp [Gh.bP]) uH
   obtain ⟨r1,r2,r3⟩:=slot (τ':=kq τ (own 0) (.pointer (some ⟨b,0,none⟩))) (dh _ _ _) fh pS
   have nf:cO S ((own 0,(.ag x1,.cl [])) :: ws)=bN S1 (own 0) (.ag x1,.cl []):=by rw [←yO];rfl
   refine done hd (l:=(own 0,(.ag x1,.cl [])) :: ws) ?_ rfl r1 r2 (fun k hk=>?_) hK
   ·rw [nf]
    exact ⟨h'.size,h'.defers,kK,fun t ht=>by rw [dn _ _ (by omega)];exact h'.tmps t ht,⟨h'.io.1,fun q hq=>by rw [dn _ _ (by omega)];exact h'.io.2 q hq⟩,h'.ext.trans iz (fun _ h=>h.elim),h'.gl.cq iz.cq⟩
   ·simp only [r3,List.mem_singleton] at hk
    subst hk
    exact ⟨B2,by rw [nf,bF];simp⟩
  ·rename outs.take n=_=>e1
   rename outs.drop n=_=>e3
   rename_i k y2 _ _
   obtain ⟨yH,he⟩:=bt.1 he
   cases he
   rw [D7] at e1;cases e1
   simp only [ae] at yH
   obtain ⟨r6,Gi,B2⟩:=dR (show Lq V S1 from q1) yH.1.1
   obtain ⟨EJ,II,Hq⟩:=dR (show Lq V S1 from q1) yH.1.2
   have GX:own 0≠own 1:=fun e=>absurd (lW (Nat.le_of_ble_eq_true yH.2) _ _ e) (by simp)
   obtain ⟨y,u,d1,hk,rF,CV⟩:=HI
   rw [e3] at d1;cases d1
   have nf:cO S ((own 0,(.ag (x1.set k .pt),.cl [(k,own 1)])) :: (own 1,(y2,.pv)) :: ws)=bN (bN S1 (own 1) (y2,.pv)) (own 0) (.ag (x1.set k .pt),.cl [(k,own 1)]):=by rw [←yO];rfl
   generalize se:bN (bN S1 (own 1) (y2,.pv)) (own 0) (.ag (x1.set k .pt),.cl [(k,own 1)])=S' at *
   have s1:S' (own 0)=(.ag (x1.set k .pt),.cl [(k,own 1)]):=by rw [←se,bF]
   have s2:S' (own 1)=(y2,.pv):=by rw [←se,bQ _ _ (Ne.symm GX),bF]
   have s4:∀q,q≠own 0→q≠own 1→S' q=S1 q:=fun q e1 e2=>by rw [←se,bQ _ _ e1,bQ _ _ e2]
   let τ':=kq (kq τ (own 0) (.pointer (some ⟨b,0,none⟩))) (own 1) u
   have t1:τ' (own 0) = .pointer (some ⟨b,0,none⟩):=by show kq _ _ _ _=_;rw [dn _ _ GX,dh]
   have t2:τ' (own 1)=u:=dh _ _ _
   have t3:∀q,q≠own 0→q≠own 1→τ' q=τ q:=fun q e1 e2=>by show kq _ _ _ _=_;rw [dn _ _ e2,dn _ _ e1]
   have kK:Core C.nt R' w' C.cg τ' S':=by
    refine h'.core.step (fun q=>q=own 0∨q=own 1) iz.cq (fun q hq=>⟨s4 q (fun e=>hq (.inl e)) (fun e=>hq (.inr e)),t3 q (fun e=>hq (.inl e)) (fun e=>hq (.inr e))⟩) (fun q g _ hb=>u9 q g hb) ?_ ?_ ?_ ?_ ?_ ?_ (fun _=>id) ?_ uH ?_
    ·rintro q (rfl | rfl)
     ·rw [s1,t1]
      exact ⟨b,zs,el,_,rfl,hb,rfl,hL.set fun _ _ => .pt _,fun t ht=>by rw [List.mem_singleton] at ht;subst ht;rw [t2];exact hk,A8⟩
     ·rw [s2,t2];exact rF
    ·rintro q (rfl | rfl)
     ·exact .inr (.inr r6)
     ·exact .inr (.inr EJ)
    ·rintro q (rfl | rfl) <;> right
     ·rw [s1];simp
     ·rw [s2];simp
    ·rintro q (rfl | rfl) <;> left
     ·rw [s1,r6];exact ⟨rfl,rfl⟩
     ·rw [s2,EJ];exact ⟨rfl,rfl⟩
    ·rintro q (rfl | rfl) _
     ·exact .inr r6
     ·exact .inr EJ
    ·have b1:∀g,dv τ' S' (own 0)=some g→g=b:=fun g hg=>by
      have:=(cZ hg).2
      rw [t1] at this;cases this;rfl
     have b2:∀g,dv τ' S' (own 1)=some g→Value.dv u=some g:=fun g hg=>by
      have:=(cZ hg).2
      rwa [t2] at this
     rintro q g (rfl | rfl) hg
     ·have:=b1 g hg
      subst this
      refine ⟨Fa _ Cb,?_,.inl Cb⟩
      rintro q' (rfl | rfl) fP yL
      ·exact fP rfl
      ·exact (CV _ (b2 _ yL)).1 rfl
     ·obtain ⟨v1,v2⟩:=CV g (b2 g hg)
      refine ⟨Fa _ v2,?_,.inl v2⟩
      rintro q' (rfl | rfl) fP yL
      ·exact v1 (b1 _ yL)
      ·exact fP rfl
    ·rintro q (rfl | rfl) j hj
     ·rw [s1] at hj
      simp only [Gh.bP,aQ,bn,List.mem_singleton] at hj
      subst hj
      exact ⟨Hq,by rw [s2];simp⟩
     ·rw [s2] at hj;cases hj
    ·rintro q (rfl | rfl) hq <;> omega
   obtain ⟨r1,r2,r3⟩:=slot (τ':=τ') t1 fh pS
   refine done hd (l:=(own 0,(.ag (x1.set k .pt),.cl [(k,own 1)])) :: (own 1,(y2,.pv)) :: ws) ?_ rfl r1 r2 (fun q hq=>?_) hK
   ·rw [nf]
    exact ⟨h'.size,h'.defers,kK,fun t ht=>by rw [t3 t (by omega) (by omega)];exact h'.tmps t ht,⟨h'.io.1,fun q hq=>by rw [t3 q (by omega) (by omega)];exact h'.io.2 q hq⟩,h'.ext.trans iz (fun _ h=>h.elim),h'.gl.cq iz.cq⟩
   ·simp only [r3,List.mem_singleton] at hq
    subst hq
    exact ⟨B2,by rw [nf,s1];simp⟩
 split at he
 ·rename_i outs hc
  exact fin outs none (by rw [hc];rfl) he
 ·rename_i p outs hc
  have oq:p=true:=by
   have kJ:=he
   unfold CI at kJ
   split at kJ <;> try (cases kJ;done)
   all_goals
    obtain ⟨_,kJ⟩:=bt.1 kJ
    cases kJ
    exact hp _ rfl
  exact fin outs (some p) (by rw [hc];exact ⟨oq,rfl⟩) he
 ·cases he
end
end Go.Eng
namespace Go.Eng
open Go.RowKit
theorem uZ {e:dP} {st:dS} {l:List st.El} {lo hi:Option Int} (he:Bu st l lo hi=some e) (hp:∀p,e.p=some p→p=true):en (lo.getD 0) (hi.getD l.length) l.length=true∧e.x=(.sl st ((l.take (hi.getD l.length).toNat).drop (lo.getD 0).toNat),.no)∧e.ws=[]:=by
 unfold Bu at he
 split at he <;> cases he
 ·exact ⟨hp _ rfl,rfl,rfl⟩
 ·exact ⟨hp _ rfl,by simp,rfl⟩
 ·exact ⟨hp _ rfl,by simp,rfl⟩
 ·exact ⟨by simp [en],by simp,rfl⟩
theorem uX {e:dP} {l:bG} {lo hi:Option Int} (he:Bt l lo hi=some e) (hp:∀p,e.p=some p→p=true):en (lo.getD 0) (hi.getD l.length) l.length=true∧e.x=(.s ((l.take (hi.getD l.length).toNat).drop (lo.getD 0).toNat),.no)∧e.ws=[]:=by
 unfold Bt at he
 split at he <;> cases he
 ·exact ⟨hp _ rfl,rfl,rfl⟩
 ·exact ⟨hp _ rfl,by simp,rfl⟩
 ·exact ⟨hp _ rfl,by simp,rfl⟩
 ·exact ⟨by simp [en],by simp,rfl⟩
theorem sE {l:List (Nat × Nat)} {m:Nat} (h:(l.all fun t=>!Nat.beq t.2 m)=true) (t:Nat × Nat) (ht:t∈l):t.2≠m:=fun e=>by
 have:=aw.1 h t ht
 rw [e] at this;simp at this
theorem pN {l:List (Nat × Cell)} {m:Nat} (h:(l.all fun t=>!Nat.beq t.1 m)=true) (t:Nat × Cell) (ht:t∈l):t.1≠m:=fun e=>by
 have:=aw.1 h t ht
 rw [e] at this;simp at this
theorem qO {V:St} {c:Cell} {x:TV} {ws:List (Nat × Cell)} (h:tw V c=some (x,ws)) (p:Nat × Cell) (hp:p∈ws):p.1∈c.2.bP:=by
 unfold tw at h
 split at h
 ·split at h
  ·cases h;simp only [List.mem_singleton] at hp;subst hp;simp [Gh.bP]
  ·cases h;cases hp
  ·obtain ⟨_,h⟩:=bt.1 h;cases h;cases hp
  ·cases h
 ·cases h;cases hp
 ·cases h
theorem kj {V:St} {o n:Nat}:∀{ts:List (Nat × Nat)} {cs ds:List TV} {ws:List (Nat × Cell)},iu V o n ts cs=some (ds,ws)→∀p∈ws,p.1∈ts.map (·.2)
 | [],_,_,_,h,p,hp=>by cases h;cases hp
 | (c,k) :: ts,cs,ds,ws,h,p,hp=>by
  simp only [iu] at h
  split at h
  ·rename_i pG rB h1
   cases hb:(Nat.ble o c&&Nat.blt c (o+n)) with
   | true =>
    rw [hb,ao] at h
    split at h
    ·rename_i h2
     cases h
     rcases List.mem_append.1 hp with hp | hp
     ·have:=qO h2 p hp
      simp [Gh.bP] at this
      exact this ▸ List.mem_cons_self ..
     ·exact List.mem_cons_of_mem _ (kj h1 p hp)
    ·cases h
   | false=>rw [hb,af] at h;cases h;exact List.mem_cons_of_mem _ (kj h1 p hp)
  ·cases h
theorem wH {V:St} {c:Cell} {x:TV} {ws:List (Nat × Cell)} (h:pA V c=some (x,ws)) (p:Nat × Cell) (hp:p∈ws):p.1∈c.2.bP:=by
 unfold pA at h
 split at h
 ·split at h
  ·rename_i hf;cases h;exact kj hf p hp
  ·cases h
 ·exact qO h p hp
theorem uk {E:cI} {nt:Nat} {V V':St} {t:TypeId} {x:Operand} (h:∀i,i<nt→V' i=V i):dQ E nt V' t x=dQ E nt V t x:=by
 cases x <;> try rfl
 rename_i i
 unfold dQ
 by_cases hi:i<nt
 ·simp only [h i hi]
 ·have:Nat.blt i nt=false:=by
   cases hb:Nat.blt i nt with
   | false=>rfl
   | true=>exact absurd (Nat.le_of_ble_eq_true hb) hi
  simp only [this,da,af]
theorem Lt.cO {V S:St} (h:Lt V S):∀ws:List (Nat × Cell),Lt (cO V ws) (cO S ws)
 | []=>h
 | (k,x) :: ws=>fun j=>by
  by_cases e:j=k
  ·subst e;simp only [Go.Eng.cO,bF];exact .inl trivial
  ·simp only [Go.Eng.cO,bQ _ _ e];exact h.cO ws j
section
variable {C:Ctx} {S V:St} {a:Act} {w:World} {R:Reach} {τ:Nat→Value} {o:Oper} {d:Nat} {own:Nat→Nat} {e:dP} (h:cG C S a w R τ) (hV:Lt V S) (hE:fc C.P C.E) (hp:∀p,e.p=some p→p=true)
include h hV hE hp
section
variable (hd:o.dst=some d) (hl:d<C.nt)
include hd hl
omit hE in
theorem wY {s t:TypeId} {x:Operand} {c:Cell} {y:TV} (ho:o.op = .convert s t x) (hx:dQ C.E C.nt V s x=some c) (hy:nG V c=some y) (he:wZ C.P C.nt own V s t y=some e):cQ C o a w (eG S (some d) e):=by
 unfold wZ at he
 split at he
 ·rename_i hs ht
  split at he <;> cases he
  exact go_ci h hV hd hl ho hx hy (by assumption) hs ht
 ·rename_i hs ht
  split at he <;> cases he
  exact go_cf h hV hd hl ho hx hy (by rw [hs];rfl) ht
 ·rename_i hs ht
  split at he <;> cases he
  exact go_fc h hV hd hl ho hx hy (hp _ rfl) (by rw [hs];rfl) ht
 ·rename_i hs ht
  split at he <;> cases he
  exact go_cs h hV hd hl ho hx hy hs ht
 ·rename_i hs ht
  split at he
  ·rename_i hu
   obtain ⟨h1,h2⟩:=bt.1 he
   cases h2
   exact go_sb h hd hl hV ho hx hy hs ht hu (hp _ rfl) (dR hV.q h1)
  ·cases he
 ·rename_i hs ht
  split at he <;> cases he
  exact go_bs h hV hd hl ho hx hy hs (by assumption) ht
 ·cases he
theorem tL {t u:TypeId} {x y:Operand} {st st':dS} {jQ:Nat} {c:Cell} {m:List st'.El} {du:TypeDesc} {news:List Value} (ho:o.op = .call { callee := .builtin .append,args:=#[x,y],argTypes:=#[t,u] }) (ht:C.E.ty t=some (st,jQ)) (hx:dQ C.E C.nt V t x=some c) (hu:C.P.underlying u=some du) (po:∀k,du ≠ .int k)
  (nd:Source C.P w st'.size (a.eval y) m.length news) (hL:bX R w ((m.map st'.tv).flatMap TV.cells) news) (he:zh C.E C.nt own V st jQ c st' m=some e):cQ C o a w (eG S (some d) e):=by
 unfold zh at he
 split at he
 ·rename_i k
  obtain ⟨q1,_,q3⟩:=dN h hV hx
  have hv:a.eval x=τ k:=q1.1
  have A1:C.nt≤k:=(q3 k (by simp [Gh.bP])).1
  split at he
  ·rename_i t' l hk
   split at he
   ·obtain ⟨h0,hq⟩:=bt.1 he
    clear he
    obtain rfl:=au h0
    unfold s0 at hq
    split at hq
    ·rename_i n hn
     obtain ⟨h1,h2⟩:=bt.1 hq
     cases h2
     obtain ⟨e1,rfl⟩:=dS.pM hn
     subst e1
     exact go_lend h hV hd hl hE ho ht hv A1 (hV.of hk) hu po nd hL (hp _ rfl) (dR hV.q h1)
    ·cases hq
   split at he
   ·rename_i n hn
    obtain ⟨h1,h2⟩:=bt.1 he
    cases h2
    simp only [ae,az] at h1
    obtain ⟨rfl,h1⟩:=h1
    obtain ⟨e1,rfl⟩:=dS.pM hn
    subst e1
    exact go_app h hV hd hl hE ho ht hx (hV.of hk) hu po nd hL (hp _ rfl) (dR hV.q h1) (.inl ⟨rfl,rfl,rfl⟩)
   ·cases he
  ·rename_i t' l d0 hk
   obtain ⟨h0,hq⟩:=bt.1 he
   clear he
   obtain rfl:=au h0
   unfold s0 at hq
   split at hq
   ·rename_i n hn
    obtain ⟨h1,h2⟩:=bt.1 hq
    cases h2
    obtain ⟨e1,rfl⟩:=dS.pM hn
    subst e1
    have hk:=hV.of hk
    obtain ⟨p1,_⟩:=h.core.par k d0 (by rw [hk])
    obtain ⟨n1,n2,n3⟩:=dR hV.q h1
    have c1:own 0≠k:=by intro e;rw [e,hk] at n1;cases n1
    have c2:own 0≠d0:=by intro e;rw [e,p1] at n1;cases n1
    have c3:k≠d0:=by rintro rfl;rw [hk] at p1;cases p1
    have hr:=h.recover hk
    have:=go_lend hr (Lt.refl _) hd hl hE ho ht hv A1 (by rw [bQ _ _ c3,bF]) hu po nd hL (hp _ rfl) (k2:=own 0) ⟨by rw [bQ _ _ c2,bQ _ _ c1];exact n1,n2,n3⟩
    have e2:bN (bN (bN (bN S k (.sl st' l,.pv)) d0 (.dead,.zz)) k (.sl st' l,.pw (own 0))) (own 0) (.sl st' (l++m),.pc k)=bN (bN (bN S d0 (.dead,.zz)) k (.sl st' l,.pw (own 0))) (own 0) (.sl st' (l++m),.pc k):=by
     funext j
     by_cases j1:j=own 0
     ·rw [j1,bF,bF]
     ·rw [bQ _ _ j1,bQ _ _ j1]
      by_cases j2:j=k
      ·rw [j2,bF,bF]
      ·rw [bQ _ _ j2,bQ _ _ j2]
       by_cases j3:j=d0
       ·rw [j3,bF,bF]
       ·rw [bQ _ _ j3,bQ _ _ j3,bQ _ _ j2]
    rw [e2] at this
    exact this
   ·cases hq
  ·rename_i t' l hk
   split at he
   ·rename_i n hn
    obtain ⟨h1,h2⟩:=bt.1 he
    cases h2
    simp only [ae,az] at h1
    obtain ⟨rfl,h1⟩:=h1
    obtain ⟨e1,rfl⟩:=dS.pM hn
    subst e1
    exact go_app h hV hd hl hE ho ht hx (hV.of hk) hu po nd hL (hp _ rfl) (dR hV.q h1) (.inr ⟨rfl,rfl,rfl⟩)
   ·cases he
  ·cases he
 ·rename_i t'
  obtain ⟨h1,h2⟩:=bt.1 he
  simp only [ae,az] at h1
  obtain ⟨rfl,rfl⟩:=h1
  obtain ⟨h1,h2⟩:=bt.1 h2
  cases h2
  exact go_apn h hV hd hl hE ho ht hx hu po nd hL (hp _ rfl) (dR hV.q h1)
 ·cases he
theorem rl {b:Builtin} {ts:Array TypeId} {args:Array Operand} (ho:o.op = .call { callee := .builtin b,args:=args,argTypes:=ts }) (he:nz C.P C.E C.nt own V b ts.toList args.toList=some e):cQ C o a w (eG S (some d) e):=by
 obtain ⟨ts⟩:=ts
 obtain ⟨args⟩:=args
 simp only at he
 unfold nz at he
 split at he
 ·split at he <;> cases he
  ·exact go_len h hV hd hl ho (by assumption) (by assumption)
  ·exact go_lens h hV hd hl ho (by assumption) (by assumption)
 ·split at he
  ·rename_i hm
   obtain ⟨news,h1,h2⟩:=Source.of (P:=C.P) (mK h hV hm)
   exact tL h hV hE hp hd hl ho (by assumption) (by assumption) (by assumption) (by simp) h1 h2 he
  ·rename_i hm
   obtain ⟨h1,h2⟩:=Source.AB (P:=C.P) (w:=w) (R:=R) _
   have e1:=vN h hV hm
   rw [←e1] at h1
   exact tL h hV hE hp hd hl (st' := .bs) ho (by assumption) (by assumption) (by assumption) (by simp) h1 h2 he
  ·cases he
 ·split at he
  ·obtain ⟨h1,h2⟩:=bt.1 he
   cases h2
   have h1:=au h1
   subst h1
   exact go_minmax h hV hd hl (mx:=false) ho (by assumption) (by assumption)
  ·cases he
 ·split at he
  ·obtain ⟨h1,h2⟩:=bt.1 he
   cases h2
   have h1:=au h1
   subst h1
   exact go_minmax h hV hd hl (mx:=true) ho (by assumption) (by assumption)
  ·cases he
 ·split at he <;> cases he
  exact go_real h hV hd hl (im:=false) ho (by assumption)
 ·split at he <;> cases he
  exact go_real h hV hd hl (im:=true) ho (by assumption)
 ·split at he <;> cases he
  exact go_cx h hV hd hl ho (by assumption) (by assumption)
 ·cases he
theorem AJ {t:TypeId} {x i:Operand} {c:Cell} {n:Int} (ho:o.op = .indexAddr t x i) (hx:dQ C.E C.nt V t x=some c) (hi:kh C.E C.nt V i=some n) (he:EM C.P C.E V t c n=some e):cQ C o a w (eG S (some d) e):=by
 have cT:∀{k:Nat},c=(.pt,.cT k)→a.eval x=τ k:=by rintro k rfl;exact (dN h hV hx).1.1
 unfold EM at he
 split at he
 ·rename_i k _
  split at he
  ·rename_i hk
   obtain ⟨h1,h2⟩:=bt.1 he
   cases h2
   exact go_pix h hV hd hl hE ho h1 hx (hV.of hk) hi (hp _ rfl)
  ·rename_i hk
   obtain ⟨h1,h2⟩:=bt.1 he
   cases h2
   have hK:=h.core.key k
   rw [hV.of hk] at hK
   exact go_ix h hV hd hl hE ho h1 (by rw [cT rfl];exact (cV.rep hK).1) hi (hp _ rfl)
  ·rename_i hk
   obtain ⟨h1,h2⟩:=bt.1 he
   cases h2
   have hK:=h.core.key k
   rw [hV.of hk] at hK
   exact go_ix h hV hd hl hE ho h1 (by rw [cT rfl];exact hK) hi (hp _ rfl)
  ·cases he
 ·obtain ⟨h1,h2⟩:=bt.1 he
  cases h2
  exact go_ix h hV hd hl hE ho h1 (cR h hV hx) hi (hp _ rfl)
 ·split at he
  ·rename_i hk
   rw [aE] at he
   obtain ⟨inf,h1,h2⟩:=he
   cases h2
   exact go_la h hV hd hl ho (by assumption) h1 hx (hV.of hk) hi (hp _ rfl)
  ·cases he
 ·cases he
theorem yU {t:TypeId} {x:Operand} {lo hi:Option Operand} {p q:Option Int} {c:Cell} (ho:o.op = .slice t x lo hi none) (hx:dQ C.E C.nt V t x=some c) (h1:ir C.E C.nt V lo=some p) (h2:ir C.E C.nt V hi=some q) (he:wX C.E V t c p q=some e):cQ C o a w (eG S (some d) e):=by
 unfold wX at he
 split at he
 ·rename_i hf
  obtain ⟨k1,k2⟩:=bt.1 he
  rw [aH] at k2
  obtain ⟨e',k2,rfl⟩:=k2
  obtain ⟨c1,c2,c3⟩:=uZ (e:=e') k2 hp
  unfold eG
  simp only [c2]
  exact go_sc h hV hd hl hE ho k1 hx hf h1 h2 c1
 ·cases he
omit hE in
theorem vZ {t:TypeId} {x:Operand} {c:Cell} (ho:o.op = .load t x) (hx:dQ C.E C.nt V 0 x=some c) (he:wa C.P C.E own V t c=some e):cQ C o a w (eG S (some d) e):=by
 unfold wa at he
 split at he
 ·rename_i n agg hs
  obtain ⟨h1,kJ⟩:=bt.1 he
  clear he
  have he:=kJ
  clear kJ
  have h1:agg=true∨n=1:=by
   rcases Bool.or_eq_true _ _ ▸ h1 with h | h
   ·exact .inl h
   ·exact .inr (aj h)
  split at he
  ·split at he
   ·rename_i hm
    split at he
    ·rename_i hf
     cases he
     have:n=1:=by simpa using h1
     subst this
     exact go_ldt h hV hd hl ho hs hx (hV.of hm) (by assumption)
    ·split at he
     ·obtain ⟨k1,k2⟩:=bt.1 he
      cases k2
      simp only [ae] at k1
      obtain ⟨⟨rfl,k1⟩,k2⟩:=k1
      have k1:=aj k1
      have k2:=aj k2
      subst k1 k2
      exact go_ldo h hV hd hl ho hs hx (hV.of hm)
     ·split at he
      ·split at he <;> cases he
       exact go_ld h hV hd hl ho hs h1 hx (hV.of hm) (by assumption) (by assumption)
      ·cases he
   ·cases he
  ·rename_i k
   split at he
   ·rename_i st l g hk
    split at he
    ·rename_i HC
     obtain ⟨k1,k2⟩:=bt.1 he
     cases k2
     simp only [ae,Bool.or_eq_true,az] at k1
     obtain ⟨k1,k2⟩:=k1
     have eJ:=au (hp _ rfl)
     have hK:=h.core.key k
     rw [hV.of hk (by rcases k1 with rfl | rfl <;> simp)] at hK
     obtain ⟨p,hK⟩:∃p,cV R w p (τ k) (.sl st l):=by rcases k1 with rfl | rfl <;> exact ⟨_,hK⟩
     exact go_pld h hV hd hl ho hs h1 hx hK (aj k2) eJ HC
    ·cases he
   ·rename_i cs hk
    split at he
    ·obtain ⟨k1,k2⟩:=bt.1 he
     cases k2
     simp only [ae,Bool.not_eq_true'] at k1
     obtain ⟨⟨⟨k1,k2⟩,k3⟩,rfl⟩:=k1
     have k1:=aj k1
     have k2:=aj k2
     have k3:=aj k3
     subst k1 k2 k3
     exact go_pla h hV hd hl ho hs hx (hV.of hk) (au (hp _ rfl)) (by assumption)
    ·cases he
   ·cases he
  ·obtain ⟨k1,k2⟩:=bt.1 he
   cases k2
   simp only [ae,beq_iff_eq] at k1
   exact go_lr h hV hd hl ho hs h1 hx k1.1.2 (aj k1.2)
  ·cases he
 ·cases he
end
omit hE in
theorem tU (hd:o.dst=none) {t:TypeId} {x y:Operand} {c v:Cell} (ho:o.op = .store t x y) (hx:dQ C.E C.nt V 0 x=some c) (hy:dQ C.E C.nt V t y=some v) (he:rL C.P V t c v=some e):cQ C o a w (eG S none e):=by
 unfold rL at he
 split at he
 ·rename_i n agg hs
  obtain ⟨inf,hi,rfl,_⟩:=dU hs
  split at he
  ·split at he
   ·rename_i cs ts hm
    split at he
    ·rename_i k
     obtain ⟨k1,k2⟩:=bt.1 he
     cases k2
     simp only [ae,Bool.not_eq_true'] at k1
     have hn:=aj k1.1.1
     have yK:=hV.of hm
     rw [hn]
     exact go_stt h hV hd ho hi hn hx yK hy (Nat.le_of_ble_eq_true k1.1.2) (Nat.ne_of_beq_eq_false k1.2.1) (sE k1.2.2)
    ·obtain ⟨k1,k2⟩:=bt.1 he
     cases k2
     simp only [ae] at k1
     obtain ⟨⟨⟨k1,k2⟩,k3⟩,k4⟩:=k1
     have k1:=aj k1
     subst k1
     exact go_sto h hV hd ho hi hx (hV.of hm) hy (aj k2) (aj k3) (sE k4)
    ·obtain ⟨k1,k2⟩:=bt.1 he
     cases k2
     simp only [ae] at k1
     have yK:=hV.of hm
     have hr:=cR h hV hy
     have hn:=aj k1.1.1.2
     refine go_st' h hV hd ho hi hx yK (gQ hr k1.1.1.1) hn (Nat.le_of_ble_eq_true k1.1.2) fun u hu=>?_
     obtain ⟨h1,h2⟩:=n7 hu
     exact ⟨sE k1.2 u h1,.inl ⟨h1,h2⟩⟩
    ·cases he
   ·cases he
  ·rename_i i s q k
   split at he
   ·rename_i y' ws hf
    obtain ⟨R',h',e1,_⟩:=h.fr hV hy hf
    have wz:∀p∈ws,C.nt≤p.1:=fun p hp=>((dN h hV hy).2.2 _ (wH hf p hp)).1
    have Ee:Lt (cO V ws) (cO S ws):=hV.cO ws
    have pk:dQ C.E C.nt (cO V ws) 0 x=some (.el i s q,.pe k):=by
     rw [←hx];exact uk fun i hi=>dV fun p hp e=>by have:=wz p hp;omega
    split at he
    ·rename_i st l hk
     split at he
     ·split at he
      ·obtain ⟨k1,k2⟩:=bt.1 he
       cases k2
       simp only [ae] at k1
       exact go_pst h' Ee hd ho hi pk (by rw [dV (pN k1.2)];exact hV.of hk) e1 k1.1.1.1 (aj k1.1.2) (aj k1.1.1.2) (au (hp _ rfl)) (by assumption) (by assumption)
      ·cases he
     ·cases he
    ·rename_i cs hk
     split at he
     ·obtain ⟨k1,k2⟩:=bt.1 he
      cases k2
      simp only [ae] at k1
      have k2:=aj k1.1.1.1
      have k3:=aj k1.1.1.2
      subst k2 k3
      exact go_ls h' Ee hd ho hi (aj k1.1.2) pk (by rw [dV (pN k1.2)];exact hV.of hk) (au (hp _ rfl)) e1 (by assumption)
     ·cases he
    ·cases he
   ·cases he
  ·cases he
 ·cases he
theorem qa (hF:∀f,bD C.P C.gl f (C.E.fs f)) (lW:0<C.nt→∀j j',own j=own j'→j=j') (fF:lQ C.nt o=true) (he:qb C.P C.E C.nt own V o.type o.op=some e):cQ C o a w (eG S o.dst e):=by
 have iK:(∀t x y,o.op ≠ .store t x y)→(∀x args ts,o.op ≠ .call { callee := .value x,args:=args,argTypes:=ts })→∃d,o.dst=some d∧d<C.nt:=fun h1 h2=>by
  unfold lQ at fF
  split at fF
  ·exact (h1 _ _ _ (by assumption)).elim
  ·cases fF
  ·exact (h2 _ _ _ (by assumption)).elim
  ·exact ⟨_,by assumption,Nat.le_of_ble_eq_true fF⟩
  ·cases fF
 have wT:∀{x:Operand} {args:Array Operand} {ts:Array TypeId},o.op = .call { callee := .value x,args:=args,argTypes:=ts }→o.dst=none∨∃d,o.dst=some d∧d<C.nt:=fun {x args ts} h1=>by
  cases hd:o.dst with
  | none=>exact .inl rfl
  | some d =>
   right
   unfold lQ at fF
   rw [h1,hd] at fF
   exact ⟨d,rfl,Nat.le_of_ble_eq_true fF⟩
 have call:∀{f:Nat} {x:Operand} {args:Array Operand} {ts:Array TypeId},o.op = .call { callee := .value x,args:=args,argTypes:=ts }→a.eval x = .func (.func f) #[] #[]→tG C.E C.nt own V f ts.toList args.toList=some e→cQ C o a w (eG S o.dst e):=fun {f x args ts} ho hx he=>by
  unfold tG at he
  have hS:=hF f
  unfold bD at hS
  split at he
  ·rename_i cs hcs
   split at he
   ·rename_i hk
    rw [hk] at hS
    split at he
    ·rename_i xs ws zE
     split at he
     ·rename_i outs hc
      exact go_call h hV (wT ho) (c:=(C.E.fs f).1) (sg:=(C.E.fs f).2) hS ho hx hcs zE (by rw [hc];rfl) lW he
     ·rename_i p outs hc
      have oq:p=true:=by
       have kJ:=he
       unfold rh at kJ
       obtain ⟨_,kJ⟩:=bt.1 kJ
       split at kJ
       ·obtain ⟨_,kJ⟩:=bt.1 kJ
        cases kJ
        exact hp _ rfl
       ·cases kJ
      exact go_call h hV (wT ho) (c:=(C.E.fs f).1) (sg:=(C.E.fs f).2) hS ho hx hcs zE (by rw [hc];exact ⟨oq,rfl⟩) lW he
     ·cases he
    ·cases he
   ·rename_i hk
    rw [hk] at hS
    exact go_wr h hV (wT ho) hS ho hx hcs hp he
   ·rename_i hk
    rw [hk] at hS
    exact go_nw h hV (wT ho) hS ho hx lW hcs hp he
  ·cases he
 generalize eP:o.op=op at he
 unfold qb at he
 split at he
 ·obtain ⟨d,hd,hl⟩:=iK (by simp [eP]) (by simp [eP])
  rw [aH] at he
  obtain ⟨c,h1,rfl⟩:=he
  rw [hd]
  exact go_move h hV hd hl (.inl eP) h1
 ·obtain ⟨d,hd,hl⟩:=iK (by simp [eP]) (by simp [eP])
  rw [aH] at he
  obtain ⟨c,h1,rfl⟩:=he
  rw [hd]
  exact go_move h hV hd hl (.inr eP) h1
 ·obtain ⟨d,hd,hl⟩:=iK (by simp [eP]) (by simp [eP])
  split at he
  ·obtain ⟨z,h1,h2,h3⟩:=iM.su he hp
   rw [kO hd h2 h3]
   exact go_pick h hV hd hl eP (by assumption) (by assumption) (by assumption) h1
  ·cases he
 ·obtain ⟨d,hd,hl⟩:=iK (by simp [eP]) (by simp [eP])
  split at he
  ·split at he
   ·split at he
    ·cases he
     rw [hd]
     exact go_nl h hV hd hl eP (by assumption) (by assumption) (by assumption) (by assumption)
    ·cases he
   ·split at he <;> cases he <;> rw [hd]
    ·exact go_be h hV hd hl (neg:=false) eP rfl (by assumption) (by assumption) (by assumption)
    ·exact go_be h hV hd hl (neg:=true) eP rfl (by assumption) (by assumption) (by assumption)
   ·split at he
    ·obtain ⟨r,hr,he⟩:=aE.1 he
     cases he;rw [hd]
     exact go_es h hV hd hl false eP rfl (by assumption) (by assumption) (by assumption) hr
    ·obtain ⟨r,hr,he⟩:=aE.1 he
     cases he;rw [hd]
     exact go_es h hV hd hl true eP rfl (by assumption) (by assumption) (by assumption) hr
    ·cases he
   ·split at he <;> cases he <;> rw [hd]
    ·exact go_pn h hV hd hl (neg:=false) eP rfl (by assumption) (by assumption) (by assumption)
    ·exact go_pn h hV hd hl (neg:=true) eP rfl (by assumption) (by assumption) (by assumption)
   ·split at he
    ·obtain ⟨z,h1,h2,h3⟩:=iM.su he hp
     rw [kO hd h2 h3]
     exact go_bin h hV hd hl eP (by assumption) (by assumption) h1
    ·cases he
  ·cases he
 ·obtain ⟨d,hd,hl⟩:=iK (by simp [eP]) (by simp [eP])
  split at he
  ·obtain ⟨z,h1,h2,h3⟩:=iM.su he hp
   rw [kO hd h2 h3]
   exact go_un h hV hd hl eP (by assumption) h1
  ·cases he
 ·obtain ⟨d,hd,hl⟩:=iK (by simp [eP]) (by simp [eP])
  split at he
  ·split at he
   ·rw [hd];exact wY h hV hp hd hl eP (by assumption) (by assumption) he
   ·cases he
  ·cases he
 ·obtain ⟨d,hd,hl⟩:=iK (by simp [eP]) (by simp [eP])
  rw [hd];exact rl h hV hE hp hd hl eP he
 ·rename_i f _ _
  cases hb:tp C.P f with
  | true=>rw [hb] at he;exact call eP rfl he
  | false=>rw [hb] at he;exact go_xtn h hV (wT eP) hp eP he
 ·split at he
  ·rename_i hx
   exact call eP ((cR h hV hx).dA rfl) he
  ·cases he
 ·obtain ⟨d,hd,hl⟩:=iK (by simp [eP]) (by simp [eP])
  split at he
  ·rw [hd];exact AJ h hV hE hp hd hl eP (by assumption) (by assumption) he
  ·cases he
 ·obtain ⟨d,hd,hl⟩:=iK (by simp [eP]) (by simp [eP])
  split at he
  ·split at he
   ·cases he;rw [hd];exact go_si h hV hd hl eP (by assumption) (by assumption) (hp _ rfl) (by assumption)
   ·cases he
  ·rename_i hi
   split at he
   ·split at he
    ·rename_i hs
     split at he
     ·rename_i hx
      obtain ⟨k1,k2⟩:=bt.1 he
      cases k2
      rw [hd]
      have hn:=hp _ rfl
      have qJ:=hn
      simp only [cU,ae,az] at qJ
      have hm:=aj k1
      exact go_ai h hV hd hl eP (by assumption) hi (by assumption) hs (.inr rfl) hn (by
       rw [Nat.mul_one];exact pL hx (by omega))
     ·cases he
    ·rename_i hs
     split at he
     ·rename_i hx
      obtain ⟨k1,k2⟩:=bt.1 he
      cases k2
      rw [hd]
      have hn:=hp _ rfl
      have qJ:=hn
      simp only [cU,ae,az] at qJ
      have hm:=aj k1
      refine go_ai h hV hd hl eP (by assumption) hi (by assumption) hs (.inl rfl) hn ?_
      have hx:=qX hm (by omega) _ (Nat.le_refl _) hx
      rw [Nat.sub_self,Nat.add_zero] at hx
      have hb:∀{x y:Nat},x≤y→Nat.ble x y=true:=Nat.ble_eq_true_of_le
      simp only [ij]
      rw [hb (by rw [←hm,←Nat.succ_mul];exact aT _ (by omega)),ao,hx]
     ·cases he
    ·cases he
   ·cases he
  ·cases he
 ·obtain ⟨d,hd,hl⟩:=iK (by simp [eP]) (by simp [eP])
  split at he
  ·split at he
   ·rename_i agg hs
    split at he
    ·obtain ⟨k1,k2⟩:=bt.1 he
     cases k2
     rw [hd]
     refine go_fe h hV hd hl eP (by assumption) (by assumption) hs (by assumption) ?_
     rcases Bool.or_eq_true _ _ ▸ k1 with h | h
     ·exact .inl h
     ·exact .inr (aj h)
    ·cases he
   ·cases he
  ·cases he
 ·obtain ⟨d,hd,hl⟩:=iK (by simp [eP]) (by simp [eP])
  split at he
  ·split at he
   ·rename_i hs
    obtain ⟨k1,k2⟩:=bt.1 he
    clear he
    have k1:=Nat.le_of_ble_eq_true k1
    rw [hd]
    split at k2
    ·cases k2;exact go_fa h hV hd hl eP (by assumption) hs k1 (by assumption)
    ·cases k2;exact go_pfa h hV hd hl eP (by assumption) hs k1 (by assumption)
    ·split at k2 <;> cases k2
     exact go_fr h hV hd hl eP (by assumption) hs k1 (by assumption) (by assumption)
    ·cases k2
   ·cases he
  ·cases he
 ·obtain ⟨d,hd,hl⟩:=iK (by simp [eP]) (by simp [eP])
  split at he <;> cases he <;> rw [hd]
  ·exact go_nc h hV hd hl eP (by assumption)
  ·exact go_ncr h hV hd hl eP (by assumption)
 ·obtain ⟨d,hd,hl⟩:=iK (by simp [eP]) (by simp [eP])
  split at he
  ·rw [aE] at he
   obtain ⟨y,h1,h2⟩:=he
   cases h2
   rw [hd]
   exact go_ex h hV hd hl (l:=[]) eP (.inl (by assumption)) h1
  ·split at he
   ·rename_i k _
    split at he
    ·rename_i hk
     cases he
     rw [hd]
     have hK:=h.core.key k
     rw [hV.of hk] at hK
     exact go_ext h hV hd hl eP (by assumption) (by assumption) (cV.one hK)
    ·cases he
     rw [hd]
     exact go_exv h hV hd hl eP (by assumption) (by assumption) (by assumption)
    ·cases he
   ·rw [aE] at he
    obtain ⟨y,h1,h2⟩:=he
    cases h2
    rw [hd]
    exact go_ex h hV hd hl eP (.inr (by assumption)) h1
  ·cases he
 ·obtain ⟨d,hd,hl⟩:=iK (by simp [eP]) (by simp [eP])
  split at he
  ·rw [hd];exact vZ h hV hp hd hl eP (by assumption) he
  ·cases he
 ·have hd:o.dst=none:=by
   unfold lQ at fF
   rw [eP] at fF
   cases hd:o.dst with
   | none=>rfl
   | some d=>rw [hd] at fF;cases fF
  split at he
  ·rw [hd];exact tU h hV hp hd eP (by assumption) (by assumption) he
  ·cases he
 ·obtain ⟨d,hd,hl⟩:=iK (by simp [eP]) (by simp [eP])
  split at he
  ·obtain ⟨c1,c2,c3⟩:=uX he hp
   rw [kO hd c2 c3]
   exact go_ss h hV hd hl eP (by assumption) (by assumption) (by assumption) (by assumption) c1
  ·rename_i c lo hi ht hx h1 h2
   have cx:wX C.E V _ c lo hi=some e→cQ C o a w (eG S o.dst e):=fun he=>by
    rw [hd];exact yU h hV hE hp hd hl eP hx h1 h2 he
   split at he
   ·rename_i k n
    split at he
    ·rename_i hk
     obtain ⟨k1,k2⟩:=bt.1 he
     cases k2
     simp only [ae] at k1
     rw [hd]
     obtain ⟨rfl,_⟩:_=none∧True:=by
      rcases mZ h hV h1 with ⟨e1,_⟩ | ⟨_,_,_,_,e1,_⟩
      ·exact ⟨e1,trivial⟩
      ·cases e1
     obtain ⟨y,rfl⟩:∃y,_=some y:=by
      rcases mZ h hV h2 with ⟨_,e1⟩ | ⟨y,_,_,e1,_⟩
      ·cases e1
      ·exact ⟨y,e1⟩
     exact go_psl h hV hd hl hE eP k1.1 hx (hV.of hk) h2 (hp _ rfl) (dR hV.q k1.2)
    ·exact cx he
   ·exact cx he
  ·cases he
 ·obtain ⟨d,hd,hl⟩:=iK (by simp [eP]) (by simp [eP])
  split at he
  ·split at he
   ·split at he
    ·split at he
     ·obtain ⟨k1,k2⟩:=bt.1 he
      simp only [ae,az] at k1
      obtain ⟨k4,k3⟩:=bt.1 k2
      cases k3
      rw [hd]
      exact go_bl h hV hd hl hE eP (by assumption) (by assumption) (by assumption) (by assumption) (aj k1.1.1) (Nat.le_of_ble_eq_true k1.1.2) k1.2 k4
     ·cases he
    ·cases he
   ·cases he
  ·cases he
 ·obtain ⟨d,hd,hl⟩:=iK (by simp [eP]) (by simp [eP])
  split at he
  ·split at he
   ·split at he
    ·split at he
     ·split at he
      ·obtain ⟨k1,k2⟩:=bt.1 he
       simp only [ae,aw,Bool.not_eq_true'] at k1
       cases k2
       rw [hd]
       exact go_bo h hV hd hl hE eP (by assumption) (by assumption) (by assumption) (by assumption) (by assumption) (by assumption) (by assumption) (aj k1.2.1) (fun p hp e=>by have:=k1.2.2 p hp;rw [e,Nat.beq_refl] at this;cases this) (aw.2 k1.1)
      ·cases he
     ·cases he
    ·split at he
     ·split at he
      ·obtain ⟨k1,k2⟩:=bt.1 he
       cases k2
       rw [hd]
       exact go_bd h hV hd hl hE eP (by assumption) (by assumption) (by assumption) (by assumption) (by assumption) k1
      ·cases he
     ·cases he
   ·cases he
  ·cases he
 ·obtain ⟨d,hd,hl⟩:=iK (by simp [eP]) (by simp [eP])
  rw [aE] at he
  obtain ⟨z,h1,h2⟩:=he
  obtain ⟨k1,k2⟩:=bt.1 h2
  cases k2
  rw [hd]
  exact go_al h hd hl hE eP h1 (dR hV.q k1)
 ·obtain ⟨d,hd,hl⟩:=iK (by simp [eP]) (by simp [eP])
  split at he
  ·obtain ⟨k1,k2⟩:=bt.1 he
   cases k2
   simp only [ae] at k1
   rw [hd]
   exact go_bx h hd hl hV eP (by assumption) k1.1 (dR hV.q k1.2)
  ·cases he
 ·obtain ⟨d,hd,hl⟩:=iK (by simp [eP]) (by simp [eP])
  split at he
  ·obtain ⟨k1,k2⟩:=bt.1 he
   cases k2
   rw [hd]
   exact go_mk h hd hl hE hV eP (by assumption) (by assumption) (by assumption) (hp _ rfl) (dR hV.q k1)
  ·cases he
 ·cases he
end
end Go.Eng
namespace Go.Eng
open Go.RowKit
theorem lB {l:List TV} (h:lZ l=none):∀x∈l,x.xf=none:=by
 induction l with
 | nil=>simp
 | cons x l ih =>
  simp only [lZ] at h
  split at h
  ·rename_i h1
   intro y hy
   rcases aD.1 hy with rfl | hy
   ·exact h1
   ·exact ih h y hy
  ·cases h
  ·cases h
theorem oI {l:List TV} (h:lZ l=some true):∀x∈l,∀q,x.xf=some q→q=true:=by
 induction l with
 | nil=>simp
 | cons x l ih =>
  simp only [lZ] at h
  split at h
  ·rename_i h1
   intro y hy q hq
   rcases aD.1 hy with rfl | hy
   ·rw [h1] at hq;cases hq
   ·exact ih h y hy q hq
  ·rename_i p h1 h2
   cases h
   intro y hy q hq
   rcases aD.1 hy with rfl | hy
   ·rw [h1] at hq;cases hq;rfl
   ·rw [lB h2 y hy] at hq;cases hq
  ·rename_i p q' h1 h2
   have h:=Option.some.inj h
   rw [ae] at h
   obtain ⟨rfl,rfl⟩:=h
   intro y hy q hq
   rcases aD.1 hy with rfl | hy
   ·rw [h1] at hq;cases hq;rfl
   ·exact ih h2 y hy q hq
section
variable {C:Ctx} {S V:St} {a:Act} {w:World} {R:Reach} {τ:Nat→Value} {o:Oper} {d:Nat} {e:dP} {K:Act→World→Prop} {Q:Exit→Act→World→Prop}
theorem sO {x:TV} {g:Gh} {v:Value} (hx:x.wi=false):cz R w τ (.gd true x) g v ↔ cz R w τ x g v:=by
 cases x <;> first | (cases hx;done) | exact Iff.rfl
theorem Core.sN {nt:Nat} {cg:Nat→Prop} {S S':St} (h:Core nt R w cg τ S) (h1:∀k,nt≤k→S' k=S k) (h2:∀k,k<nt→(S' k).2=(S k).2) (h3:∀k,k<nt→cz R w τ (S k).1 (S k).2 (τ k)→cz R w τ (S' k).1 (S' k).2 (τ k)):Core nt R w cg τ S':=by
 have hg:∀k,(S' k).2=(S k).2:=fun k=>by
  rcases Nat.lt_or_ge k nt with hk | hk
  ·exact h2 k hk
  ·rw [h1 k hk]
 have hb:∀k,dv τ S' k=dv τ S k:=fun k=>by unfold dv;rw [hg]
 refine ⟨fun k=>?_,fun k k' g a b=>?_,fun k g a=>?_,fun j k hk=>?_,h.j9,fun k hk=>by rw [hg];exact h.slt k hk,fun k d hk=>?_⟩
 ·rcases Nat.lt_or_ge k nt with hk | hk
  ·have hs:=h.slt k hk
   have hK:=h.key k
   rw [eZ.slot hs] at hK
   rw [eZ.slot (by rw [hg];exact hs)]
   exact h3 k hk hK
  ·rw [h1 k hk];exact h.key k
 ·rw [hb] at a b;exact h.sep k k' g a b
 ·rw [hb] at a;exact h.cg k g a
 ·rw [hg] at hk;rw [hg];exact h.inv j k hk
 ·rw [hg] at hk
  have A1:nt≤k:=by
   rcases Nat.lt_or_ge k nt with C2 | C2
   ·have:=h.slt k C2;rw [hk] at this;cases this
   ·exact C2
  have H3:nt≤d:=(h.inv k d (by rw [hk];exact List.mem_singleton.2 rfl)).1
  rw [h1 k A1,h1 d H3];exact h.par k d hk
theorem cG.sN {S':St} (h:cG C S a w R τ) (h1:∀k,C.nt≤k→S' k=S k) (h2:∀k,k<C.nt→(S' k).2=(S k).2) (h3:∀k,k<C.nt→cz R w τ (S k).1 (S k).2 (τ k)→cz R w τ (S' k).1 (S' k).2 (τ k)):cG C S' a w R τ :=
 { h with core:=h.core.sN h1 h2 h3 }
theorem iO (h:cG C S a w R τ) {t:Nat} (ht:t<C.nt):cz R w τ (S t).1 (S t).2 (a.tmps.getD t undef):=by
 have:=h.core.key t
 rw [eZ.slot (h.core.slt t ht),←h.tmps t ht] at this
 exact this
theorem kt (h:cG C S a w R τ) {ops:Array Oper} {j t:Nat} {x:Bool} (ht:t<C.nt) (hj:(ops[j]?).bind (·.dst)=some t) (hx:a.tmps.getD t undef = .bool x):yielded ops a.tmps j=some x:=by
 have hs:t<a.tmps.size:=by rw [h.size];exact ht
 have e2:a.tmps[t]?=some (.bool x):=by
  rw [Array.getElem?_eq_getElem hs,←hx];simp [Array.getD,hs]
 simp [yielded,hj,e2]
theorem pU (h:cG C S a w R τ) {ops:Array Oper} {j t:Nat} (ht:t<C.nt) (hj:(ops[j]?).bind (·.dst)=some t) (hx:a.tmps.getD t undef=undef):yielded ops a.tmps j=none:=by
 have hs:t<a.tmps.size:=by rw [h.size];exact ht
 have e2:a.tmps[t]?=some undef:=by
  rw [Array.getElem?_eq_getElem hs,←hx];simp [Array.getD,hs]
 simp [yielded,hj,e2,undef]
theorem qt {nt:Nat} {dst:Option Nat} (h:0<nt) (j j':Nat) (e:nN nt dst j=nN nt dst j'):j=j':=by
 unfold nN at e
 have:(j+1) * nt=(j'+1) * nt:=by omega
 have:=Nat.eq_of_mul_eq_mul_right h this
 omega
theorem jS {nt:Nat} {ts:List Nat} {S:St} {k:Nat} (h:k<nt) (hk:k∈ts):fy nt ts S k=((S k).1.bare,(S k).2):=by
 have h1:Nat.blt k nt=true:=Nat.ble_eq_true_of_le h
 have h2:ts.contains k=true:=by simpa using hk
 unfold fy
 simp only [h1,h2,bc,ao]
theorem jc {nt:Nat} {ts:List Nat} {S:St} {k:Nat} (h:nt≤k∨k ∉ ts):fy nt ts S k=S k:=by
 unfold fy
 cases hb:(Nat.blt k nt&&ts.contains k) with
 | false=>rfl
 | true =>
  exfalso
  simp only [ae] at hb
  have h1:k+1≤nt:=Nat.le_of_ble_eq_true hb.1
  have h2:k∈ts:=by simpa using hb.2
  rcases h with h | h
  ·omega
  ·exact h h2
theorem Lt.fy {nt:Nat} {ts:List Nat} (h:Lt V S):Lt (fy nt ts V) (fy nt ts S):=fun k=>by
 by_cases hk:k<nt∧k∈ts
 ·rw [jS hk.1 hk.2,jS hk.1 hk.2]
  exact (h k).imp (fun e=>by rw [e]) id
 ·have:nt≤k∨k ∉ ts:=by
   by_cases h1:k<nt
   ·exact .inr fun h2=>hk ⟨h1,h2⟩
   ·exact .inl (by omega)
  rw [jc this,jc this]
  exact h k
theorem mM:∀{l:List (Nat × Cell)} {S S':St} {k:Nat},k∈l.map (·.1)→cO S l k=cO S' l k
 | (j,x) :: l,S,S',k,h=>by
  simp only [cO]
  by_cases e:k=j
  ·subst e;rw [bF,bF]
  ·rw [bQ _ _ e,bQ _ _ e]
   rcases aD.1 h with h | h
   ·exact (e h).elim
   ·exact mM h
theorem nY (h:cG C S a w R τ) (hV:Lt V S) (hE:fc C.P C.E) (hF:∀f,bD C.P C.gl f (C.E.fs f)) {d:Nat} {x':Cell} {e0:dP} (hd:o.dst=some d) (hl:d<C.nt) (fF:lQ C.nt o=true)
  (zN:∀t∈watch o.op,∀q,(V t).1.xf=some q→q=true) (th:(watch o.op).all (fun t=>!(V t).1.bare.wi)=true) (Ed:qb C.P C.E C.nt (nN C.nt o.dst) (fy C.nt (watch o.op) V) o.type o.op=some e0) (E2:∀p,e0.p=some p→p=true) (xI:∀p∈e0.ws,C.nt≤p.1)
  (Hw:x'.2=e0.x.2) (hx:∀(R:Reach) (w:World) (τ:Nat→Value) (v:Value),cz R w τ e0.x.1 e0.x.2 v→cz R w τ x'.1 x'.2 v) (hK:∀a' w',lF C (bN (cO S e0.ws) d x') a' w'→K a' w'):o.wp C.P a w K Q:=by
 let S':St:=fun k=>if (V k).2 = .hid then S k else fy C.nt (watch o.op) S k
 have bk:∀k,S' k=S k∨(k<C.nt∧S' k=((S k).1.bare,(S k).2)∧(S k).1.bare.wi=false∧∀q,(S k).1.xf=some q→q=true):=fun k=>by
  show (if (V k).2 = .hid then S k else fy C.nt (watch o.op) S k)=S k∨_
  by_cases hh:(V k).2 = .hid
  ·left;rw [ar hh]
  by_cases hk:k<C.nt∧k∈watch o.op
  ·right
   have e:=(hV k).resolve_right hh
   have hn:=aw.1 th k hk.2
   refine ⟨hk.1,?_,?_,?_⟩
   ·show (if (V k).2 = .hid then S k else fy C.nt (watch o.op) S k)=_
    rw [ak hh,jS hk.1 hk.2]
   ·rw [←e];simpa using hn
   ·rw [←e];exact zN k hk.2
  ·left
   rw [ak hh,jc]
   by_cases h1:k<C.nt
   ·exact .inr fun h2=>hk ⟨h1,h2⟩
   ·exact .inl (by omega)
 have conv:∀{R:Reach} {w:World} {τ:Nat→Value} k,k<C.nt→(S' k).2=(S k).2∧(cz R w τ (S k).1 (S k).2 (τ k) ↔ cz R w τ (S' k).1 (S' k).2 (τ k)):=fun {R w τ} k _=>by
  rcases bk k with e | ⟨_,e,h1,h2⟩
  ·rw [e];exact ⟨rfl,Iff.rfl⟩
  ·rw [e]
   refine ⟨rfl,?_⟩
   generalize S k=c at *
   obtain ⟨x,g⟩:=c
   cases x <;> first | exact Iff.rfl | skip
   rename_i q x
   have:=h2 q rfl
   subst this
   exact sO h1
 have se:cG C S' a w R τ:=h.sN (fun k hk=>by
  rcases bk k with e | ⟨h1,_⟩
  ·exact e
  ·omega) (fun k hk=>(conv (R:=R) (w:=w) (τ:=τ) k hk).1) fun k hk=>(conv k hk).2.1
 have Ee:Lt (fy C.nt (watch o.op) V) S':=fun k=>by
  show _=(if (V k).2 = .hid then S k else fy C.nt (watch o.op) S k)∨_
  by_cases hh:(V k).2 = .hid
  ·right
   by_cases hk:k<C.nt∧k∈watch o.op
   ·rw [jS hk.1 hk.2];exact hh
   ·rw [jc]
    ·exact hh
    ·by_cases h1:k<C.nt
     ·exact .inr fun h2=>hk ⟨h1,h2⟩
     ·exact .inl (by omega)
  ·rw [ak hh];exact hV.fy k
 have uI:=qa se Ee hE E2 hF (fun hn=>qt hn) fF Ed
 refine uI K Q fun a' w' qH=>hK _ _ ?_
 obtain ⟨R2,kV,qH⟩:=qH
 rw [hd] at qH
 simp only [eG] at qH
 have put:∀k,cO S e0.ws k=cO S' e0.ws k∨(k<C.nt∧cO S e0.ws k=S k∧cO S' e0.ws k=S' k):=fun k=>by
  by_cases hk:k<C.nt
  ·have hn:∀p∈e0.ws,p.1≠k:=fun p hp e=>by have:=xI p hp;omega
   exact .inr ⟨hk,dV hn,dV hn⟩
  ·left
   by_cases hm:k∈e0.ws.map (·.1)
   ·exact mM hm
   ·have hn:∀p∈e0.ws,p.1≠k:=fun p hp e=>hm (aU.2 ⟨p,hp,e⟩)
    rw [dV hn,dV hn]
    rcases bk k with e | ⟨h1,_⟩
    ·exact e.symm
    ·exact (hk h1).elim
 refine ⟨R2,kV,qH.sN (fun k hk=>?_) (fun k hk=>?_) fun k hk=>?_⟩
 ·have hk:C.nt≤k:=hk
  have fP:k≠d:=Nat.ne_of_gt (Nat.lt_of_lt_of_le hl hk)
  rw [bQ _ _ fP,bQ _ _ fP]
  rcases put k with e | ⟨h1,_⟩
  ·exact e
  ·omega
 ·by_cases e:k=d
  ·subst e;rw [bF,bF];exact Hw
  ·rw [bQ _ _ e,bQ _ _ e]
   rcases put k with e | ⟨h1,e1,e2⟩
   ·rw [e]
   ·rw [e1,e2];exact (conv (R:=R) (w:=w) (τ:=τ) k h1).1.symm
 ·by_cases e:k=d
  ·subst e;rw [bF,bF];exact hx _ _ _ _
  ·rw [bQ _ _ e,bQ _ _ e]
   rcases put k with e | ⟨h1,e1,e2⟩
   ·rw [e];exact id
   ·rw [e1,e2];exact (conv k h1).2.2
theorem sL (h:cG C S a w R τ) (hV:Lt V S) (hE:fc C.P C.E) (hF:∀f,bD C.P C.gl f (C.E.fs f)) {ops:Array Oper} (hp:∀p,e.p=some p→p=true) (he:ie C.P C.E C.nt ops o V=some e) (hK:∀a' w',lF C (eG S o.dst e) a' w'→K a' w') :
  if Region.wanted o (yielded ops a.tmps) then o.wp C.P a w K Q∨(o.asks C.P a w∧LetsOut Q) else K (a.put o.dst undef) w:=by
 unfold ie at he
 obtain ⟨fF,he⟩:=bt.1 he
 split at he
 ·rename_i hg
  simp only [Region.wanted,hg,if_true]
  exact .inl (qa h hV hE hp hF (fun hn=>qt hn) fF he K Q hK)
 ·rename_i j b hg
  split at he
  ·rename_i t hj
   split at he
   ·rename_i x Fs
    split at he
    ·rename_i c e0 hc Ed
     obtain ⟨h1,Ca⟩:=bt.1 he
     simp only [ae] at h1
     obtain ⟨ht,H2,th⟩:=h1
     have ht:t<C.nt:=Nat.le_of_ble_eq_true ht
     obtain ⟨d,hd⟩:=Option.isSome_iff_exists.1 H2
     have hl:d<C.nt:=by
      unfold lQ at fF
      split at fF
      ·rename_i nP;rw [hd] at nP;cases nP
      ·cases fF
      ·rename_i nP;rw [hd] at nP;cases nP
      ·rename_i nP _;rw [hd] at nP;cases nP;exact Nat.le_of_ble_eq_true fF
      ·cases fF
     -- the guard
     have yD:=iO h ht
     have GR:S t=(x,.no):=hV.of Fs
     rw [GR] at yD
     have hw:Region.wanted o (yielded ops a.tmps)=c:=by
      unfold px at hc
      split at hc
      ·rename_i y
       cases hc
       have:=(eX.rep yD).dA rfl
       simp only [Region.wanted,hg,kt h ht hj this]
       cases b <;> cases y <;> rfl
      ·rename_i q y
       cases hc
       cases q with
       | false =>
        simp only [Region.wanted,hg,pU h ht hj yD]
        try (cases b <;> cases y <;> rfl)
       | true =>
        have:Rep R w (.b y) (a.tmps.getD t undef):=yD
        simp only [Region.wanted,hg,kt h ht hj (this.dA rfl)]
        cases b <;> cases y <;> rfl
      ·cases hc
     cases hf:C.E.ld.contains (nN C.nt o.dst 1) with
     | true =>
      rw [hf,ao] at Ca
      unfold wI at Ca
      obtain ⟨h2,yM⟩:=bt.1 Ca
      cases yM
      have xI:∀p∈e0.ws,C.nt≤p.1:=fun p hp=>Nat.le_of_ble_eq_true (aw.1 h2 p hp)
      have hp:=hp _ rfl
      simp only at hp
      have Fo:c=true∧(∀r,lZ ((watch o.op).map fun t=>(V t).1)=some r→r=true)∧∀p,e0.p=some p→p=true:=by
       cases hq:lZ ((watch o.op).map fun t=>(V t).1) with
       | none =>
        cases wA:e0.p with
        | none=>rw [hq,wA] at hp;exact ⟨hp,fun r hr=>(by cases hr),fun p oq=>(by cases oq)⟩
        | some p0=>rw [hq,wA] at hp;simp only [ae] at hp;exact ⟨hp.1,fun r hr=>(by cases hr),fun p oq=>(by cases oq;exact hp.2)⟩
       | some q0 =>
        cases wA:e0.p with
        | none=>rw [hq,wA] at hp;simp only [ae] at hp;exact ⟨hp.1,fun r hr=>(by cases hr;exact hp.2),fun p oq=>(by cases oq)⟩
        | some p0=>rw [hq,wA] at hp;simp only [ae] at hp;exact ⟨hp.1,fun r hr=>(by cases hr;exact hp.2.1),fun p oq=>(by cases oq;exact hp.2.2)⟩
      obtain ⟨xN,B7,HG⟩:=Fo
      rw [hw,xN,ar rfl]
      left
      refine nY h hV hE hF hd hl fF (fun t ht q hq=>?_) th Ed HG xI rfl (fun _ _ _ _ k=>k) (fun a' w' hs=>hK a' w' (by rw [hd];exact hs))
      have hm:(V t).1∈(watch o.op).map fun t=>(V t).1:=List.mem_map_of_mem (f:=fun t=>(V t).1) ht
      generalize hcs:lZ ((watch o.op).map fun t=>(V t).1)=r at B7
      cases r with
      | none=>rw [lB hcs _ hm] at hq;cases hq
      | some r=>have:=B7 r rfl;subst this;exact oI hcs _ hm q hq
     | false =>
      rw [hf,af] at Ca
      unfold vp at Ca
      obtain ⟨h2,yM⟩:=bt.1 Ca
      cases yM
      simp only [ae,Bool.not_eq_true',List.isEmpty_iff] at h2
      obtain ⟨⟨xI,rF,E6⟩,E9⟩:=h2
      have HP:∀k∈e0.x.2.bP,C.nt≤k∧(S k).2 ≠ .no:=fun k hk=>by
       have:=aw.1 E9 k hk
       simp only [Gf,ae] at this
       refine ⟨Nat.le_of_ble_eq_true this.1,?_⟩
       rcases hV k with e | e
       ·rw [←e];intro e';rw [e'] at this;cases this.2
       ·rw [e] at this;cases this.2
      rw [hw]
      cases c with
      | false =>
       simp only [bd,if_false]
       rw [hd]
       refine hK _ _ ?_
       rw [hd]
       exact h.yl hl (x := .gd false e0.x.1) (v:=undef) rfl rF HP
      | true =>
       simp only [if_true]
       have zN:∀t∈watch o.op,∀q,(V t).1.xf=some q→q=true:=by
        intro t ht q hq
        have hm:(V t).1∈(watch o.op).map fun t=>(V t).1:=List.mem_map_of_mem (f:=fun t=>(V t).1) ht
        generalize hcs:lZ ((watch o.op).map fun t=>(V t).1)=r at hp
        cases r with
        | none=>rw [lB hcs _ hm] at hq;cases hq
        | some r =>
         have:r=true:=by
          cases wA:e0.p with
          | none=>have:=hp _ (by simp only [wA];rfl);simpa using this
          | some p=>have:=hp _ (by simp only [wA];rfl);simp at this;exact this.1
         subst this
         exact oI hcs _ hm q hq
       have E2:∀p,e0.p=some p→p=true:=fun p wA=>by
        generalize lZ ((watch o.op).map fun t=>(V t).1)=r at hp
        cases r with
        | none=>have:=hp _ (by simp only [wA];rfl);simpa using this
        | some r=>have:=hp _ (by simp only [wA];rfl);simp at this;exact this.2
       left
       refine nY h hV hE hF hd hl fF zN th Ed E2 (by rw [xI];simp) (x':=(.gd true e0.x.1,e0.x.2)) rfl (fun _ _ _ _ k=>(sO E6).2 k) (fun a' w' hs=>hK a' w' ?_)
       rw [hd]
       simp only [eG,cO]
       rw [xI] at hs
       exact hs
    ·cases he
   ·cases he
  ·cases he
end
end Go.Eng
namespace Go.Eng
open Go.RowKit
theorem qZ {X:Type} {p:Option Bool} {x:Option X} {r:X} (h:yV p x=some r):(∀q,p=some q→q=true)∧x=some r:=by
 unfold yV at h
 split at h
 ·exact ⟨by simp,h⟩
 ·rename_i p
  cases p with
  | true=>exact ⟨by rintro q e;cases e;rfl,h⟩
  | false=>cases h
section
variable {L:Nat→Prop} {ops:List Oper}
theorem kQ (vi:∀i o,ops[i]?=some o→L i→∀e∈lE o,L e):∀(rest pre:List Oper) (acc:List (List Nat)),ops=pre++rest→acc.length=pre.length →
  (∀i o,i<acc.length→ops[i]?=some o→(∀e∈lE o,L e)→∀j∈acc.getD i [],L j) →
  ∀i o,ops[i]?=some o→(∀e∈lE o,L e)→∀j∈(rest.foldl (fun acc o=>acc++[(lE o).flatMap fun e=>e :: (acc.getD e [])]) acc).getD i [],L j
 | [],pre,acc,e,hl,inv=>by
  intro i o hi hb j hj
  simp only [bj] at e
  subst e
  have:i<acc.length:=by
   rw [hl]
   exact (av.1 hi).1
  exact inv i o this hi hb j hj
 | r :: rest,pre,acc,e,hl,inv=>by
  simp only [List.foldl_cons]
  refine kQ vi rest (pre++[r]) _ (by simp [e]) (by simp [hl]) ?_
  intro i o hi ho hb j hj
  by_cases eJ:i<acc.length
  ·rw [ai,List.getElem?_append_left eJ,←ai] at hj
   exact inv i o eJ ho hb j hj
  ·have rH:i=acc.length:=by simp at hi;omega
   subst rH
   rw [ai,aV (Nat.le_refl _)] at hj
   simp only [Nat.sub_self,List.getElem?_cons_zero,Option.getD_some,List.mem_flatMap,aD] at hj
   have hr:o=r:=by
    rw [e,hl,aV (Nat.le_refl _)] at ho
    simpa using ho.symm
   subst hr
   obtain ⟨x,hx,rfl | hj⟩:=hj
   ·exact hb _ hx
   ·by_cases yC:x<acc.length
    ·have Gl:x<ops.length:=by rw [e];simp;omega
     exact inv x _ yC (ah Gl) (vi x _ (ah Gl) (hb x hx)) j hj
    ·simp [List.getD,List.getElem?_eq_none (Nat.le_of_not_lt yC)] at hj
theorem nD (vi:∀i o,ops[i]?=some o→L i→∀e∈lE o,L e) {i:Nat} {o:Oper} (hi:ops[i]?=some o) (hb:∀e∈lE o,L e):∀j∈(iv ops).getD i [],L j :=
 kQ vi ops [] [] rfl rfl (fun _ _ h=>by simp at h) i o hi hb
theorem sC (B9:mr ops=true) {i j:Nat} {o:Oper} (hi:ops[i]?=some o) (hj:j∈(iv ops).getD i []):j<i:=by
 have hb:∀k p,ops[k]?=some p→∀e∈lE p,e<k:=fun k p hk e he=>by
  have hm:(p,k)∈ops.zipIdx:=List.mem_zipIdx_iff_getElem?.2 (by simpa using hk)
  have:=aw.1 (aw.1 B9 _ hm) e he
  simpa using this
 exact nD (L:=fun k=>k<i) (fun k p hk hl e he=>Nat.lt_trans (hb k p hk e he) hl) hi (hb i o hi) j hj
end
theorem xR {A:Type} {l:List A} {p:A × Nat→Bool} (h:l.zipIdx.all p=true) {i:Nat} {x:A} (hi:l[i]?=some x):p (x,i)=true :=
 aw.1 h _ (List.mem_zipIdx_iff_getElem?.2 (by simpa using hi))
theorem qM (l:Array Bool) (i x:Nat) (d:Bool):(l.setIfInBounds i true).getD x d=if i=x then (if i<l.size then true else d) else l.getD x d:=by
 simp only [Array.getD_eq_getD_getElem?,Array.getElem?_setIfInBounds]
 split
 ·split <;> rfl
 ·rfl
def dM (n:Nat) (listed:Array Bool):List Nat:=(List.range n).filter fun i=>!listed.getD i true
theorem qo {n i:Nat} {listed:Array Bool} (hs:listed.size=n) (hi:i<n):dM n (listed.setIfInBounds i true)=(dM n listed).filter (fun j=>decide (j≠i)):=by
 simp only [dM,List.filter_filter]
 apply List.filter_congr
 intro j hj
 have hj:j<n:=by simpa using hj
 by_cases h:j=i
 ·subst h
  simp [Array.getD,hs,hi]
 ·have:i≠j:=fun e=>h e.symm
  simp [Array.getD,hs,hj,Array.getElem_setIfInBounds,h,this]
theorem mR {listed:Array Bool} {n i:Nat} (hs:listed.size=n) (hi:i<n):listed.getD i true=listed.getD i false:=by simp [Array.getD,hs,hi]
theorem lx (S:St) (d:Option Nat) (e:dP):eG S d e=cO S (d.toList.map (fun d=>(d,e.x))++e.ws):=by
 cases d <;> rfl
theorem qA (d:Option Nat) (e:dP):(d.toList.map (fun d=>(d,e.x))++e.ws).map (·.1)=fE d e:=by
 unfold fE;cases d <;> simp
theorem gh {S:St} {d:Option Nat} {e:dP} {k:Nat} (h:k ∉ fE d e):eG S d e k=S k:=by
 rw [lx]
 refine dV fun p hp ep=>h ?_
 rw [←qA]
 exact aU.2 ⟨p,hp,ep⟩
theorem tD {S S':St} {d:Option Nat} {e:dP} {k:Nat} (h:k∈fE d e):eG S d e k=eG S' d e k:=by
 rw [lx,lx]
 exact mM (by rw [qA];exact h)
theorem uU {S:St} {d d':Option Nat} {e e':dP} (h:∀k∈fE d e,k ∉ fE d' e'):eG (eG S d e) d' e'=eG (eG S d' e') d e:=by
 funext k
 by_cases h1:k∈fE d e
 ·rw [gh (h k h1),tD (S':=eG S d' e') h1]
 ·by_cases h2:k∈fE d' e'
  ·rw [gh (S:=eG S d' e') h1,tD (S':=S) h2]
  ·rw [gh h2,gh h1,gh h1,gh h2]
section
variable {C:Ctx} {Q:Exit→Act→World→Prop}
theorem cG.drew {S:St} {a:Act} {w:World} {R:Reach} {τ:Nat→Value} (h:cG C S a w R τ):cG C S a { w with drawn:=w.drawn+1 } R τ:=by
 have cq:cH R w R { w with drawn:=w.drawn+1 }:=fun b o hr=>⟨hr,rfl⟩
 refine ⟨h.size,h.defers,h.core.step (fun _=>False) cq (fun _ _=>⟨rfl,rfl⟩) (fun _ _ _ _=>⟨rfl,fun _=>id⟩) (fun _=>False.elim) (fun _=>False.elim) (fun _=>False.elim) (fun _=>False.elim) (fun _=>False.elim) (fun _ _=>False.elim) (fun _=>id) (fun _=>False.elim) h.core.j9 (fun _=>False.elim),h.tmps,h.io,?_,h.gl.cq cq⟩
 exact h.ext.trans (io':=C.io) ⟨rfl,rfl,rfl,Nat.le_refl _,fun _ _ _=>rfl,cq,fun b o hr => .inl hr⟩ fun b hb => .inl hb
theorem oP {S:St} {a:Act} {w:World} {R:Reach} {τ:Nat→Value} {ops:Array Oper} {o:Oper} {c:Bool} (h:cG C S a w R τ) (he:kW C.E C.nt ops o S=some c):Region.wanted o (yielded ops a.tmps)=c:=by
 unfold kW at he
 cases hb:C.E.ld.contains (nN C.nt o.dst 2) with
 | false=>rw [hb] at he;cases he
 | true =>
  rw [hb,ao] at he
  split at he <;> try (cases he;done)
  rename_i j b hg
  split at he <;> try (cases he;done)
  rename_i t hj
  split at he <;> try (cases he;done)
  rename_i x Fs
  obtain ⟨ht,yM⟩:=bt.1 he
  clear he
  have ht:t<C.nt:=Nat.le_of_ble_eq_true ht
  have yD:=iO h ht
  rw [Fs] at yD
  unfold px at yM
  split at yM
  ·rename_i y
   cases yM
   have:=(eX.rep yD).dA rfl
   simp only [Region.wanted,hg,kt h ht hj this]
   cases b <;> cases y <;> rfl
  ·rename_i q y
   cases yM
   cases q with
   | false =>
    simp only [Region.wanted,hg,pU h ht hj yD]
    try (cases b <;> cases y <;> rfl)
   | true =>
    have:Rep R w (.b y) (a.tmps.getD t undef):=yD
    simp only [Region.wanted,hg,kt h ht hj (this.dA rfl)]
    cases b <;> cases y <;> rfl
  ·cases yM
theorem pb (hE:fc C.P C.E) (hF:∀f,bD C.P C.gl f (C.E.fs f)) {X:Type} {ops:Array Oper}:∀{os:List Oper} {S:St} {a:Act} {w:World} {K:St→Option X} {r:X},lF C S a w→rU C.P C.E C.nt ops os S K=some r→(∀S' a' w',lF C S' a' w'→K S'=some r→Q .normal a' w')→wpList C.P ops Q os a w
 | [],S,a,w,K,r,h,hr,hQ=>hQ _ _ _ h hr
 | o :: os,S,a,w,K,r,⟨R,τ,h⟩,hr,hQ=>by
  rw [tZ] at hr
  split at hr
  ·rename_i e he
   have go:yV e.p (rU C.P C.E C.nt ops os (eG S o.dst e) K)=some r→wpList C.P ops Q (o :: os) a w:=fun hr=>by
    obtain ⟨hp,hr⟩:=qZ hr
    unfold wpList
    exact sL h (Lt.refl S) hE hF hp he fun a' w' h'=>pb hE hF h' hr hQ
   unfold sJ at hr
   split at hr
   ·exact go hr
   ·rename_i c hc
    cases c with
    | true=>exact go hr
    | false =>
     rw [af] at hr
     split at hr <;> try (cases hr;done)
     rename_i d hd
     have hw:=oP h hc
     have hl:d<C.nt:=by
      unfold ie at he
      obtain ⟨fF,_⟩:=bt.1 he
      unfold lQ at fF
      split at fF
      ·rename_i nP;rw [hd] at nP;cases nP
      ·cases fF
      ·rename_i nP;rw [hd] at nP;cases nP
      ·rename_i nP _;rw [hd] at nP;cases nP;exact Nat.le_of_ble_eq_true fF
      ·cases fF
     unfold wpList
     rw [hw,ak (by simp),hd]
     refine pb hE hF (h.yl hl (x := .gd false e.x.1) (g := .no) (v:=undef) rfl rfl (by simp [Gh.bP])) hr hQ
  ·cases hr
structure BV (C:Ctx) (ops:Array Oper) (l:List (St × dP)):Prop where
 step:∀(i:Nat) (o:Oper) (V:St) (e:dP),ops.toList[i]?=some o→l[i]?=some (V,e)→ie C.P C.E C.nt ops o V=some e∧∀p,e.p=some p→p=true
 off:∀(i j:Nat) (o o':Oper) (V V':St) (e e':dP),i≠j→ops.toList[i]?=some o→ops.toList[j]?=some o'→l[i]?=some (V,e)→l[j]?=some (V',e')→j ∉ (iv ops.toList).getD i []→i ∉ (iv ops.toList).getD j [] →
  ∀k∈fE o'.dst e',(V k).2 = .hid∧k ∉ fE o.dst e
def Rn (ops:Array Oper) (l:List (St × dP)):List Nat→St→St→Prop
 | [],S,S'=>S'=S
 | i :: r,S,S'=>∃V e o,ops.toList[i]?=some o∧l[i]?=some (V,e)∧Lt V S∧Rn ops l r (eG S o.dst e) S'
theorem Lt.zT {V S:St} {d:Option Nat} {e:dP} (h:∀k∈fE d e,(V k).2 = .hid):Lt V S ↔ Lt V (eG S d e):=by
 constructor
 ·intro hl k
  by_cases hk:k∈fE d e
  ·exact .inr (h k hk)
  ·rw [gh hk];exact hl k
 ·intro hl k
  by_cases hk:k∈fE d e
  ·exact .inr (h k hk)
  ·have:=hl k
   rwa [gh hk] at this
theorem Rn.front {ops:Array Oper} {l:List (St × dP)} (hp:BV C ops l) {i:Nat} {B:List Nat}:∀{A:List Nat} {S S':St},Rn ops l (A++i :: B) S S'→(∀j∈A,j≠i∧j ∉ (iv ops.toList).getD i []∧i ∉ (iv ops.toList).getD j [])→Rn ops l (i :: (A++B)) S S'
 | [],_,_,h,_=>h
 | j :: A,S,S',⟨V,e,o,h1,h2,h3,h4⟩,hA=>by
  obtain ⟨V',e',o',k1,k2,k3,k4⟩:=Rn.front hp h4 fun x hx=>hA x (List.mem_cons_of_mem _ hx)
  obtain ⟨fP,ha,hb⟩:=hA j (List.mem_cons_self ..)
  have o1:=hp.off j i o o' V V' e e' fP h1 k1 h2 k2 hb ha
  have o2:=hp.off i j o' o V' V e' e (Ne.symm fP) k1 h1 k2 h2 ha hb
  refine ⟨V',e',o',k1,k2,(Lt.zT fun k hk=>(o2 k hk).1).2 k3,V,e,o,h1,h2,(Lt.zT fun k hk=>(o1 k hk).1).1 h3,?_⟩
  rwa [uU fun k hk=>(o1 k hk).2]
def Ch:List Oper→List (St × dP)→St→St→Prop
 | [],[],S,S'=>S'=S
 | o :: os,(V,e) :: l,S,S'=>Lt V S∧Ch os l (eG S o.dst e) S'
 | _,_,_,_=>False
theorem Ch.rn {ops:Array Oper} {l:List (St × dP)}:∀(n i:Nat) {S S':St},ops.toList.length=i+n→Ch (ops.toList.drop i) (l.drop i) S S'→Rn ops l (List.range' i n) S S'
 | 0,i,S,S',hn,h=>by
  rw [List.drop_eq_nil_of_le (by omega)] at h
  cases hl:l.drop i with
  | nil=>rw [hl] at h;exact h
  | cons p r=>rw [hl] at h;cases h
 | n+1,i,S,S',hn,h=>by
  have hi:i<ops.toList.length:=by omega
  rw [List.drop_eq_getElem_cons hi] at h
  cases hl:l.drop i with
  | nil=>rw [hl] at h;cases h
  | cons p r =>
   obtain ⟨V,e⟩:=p
   rw [hl] at h
   obtain ⟨h1,h2⟩:=h
   have hg:l[i]?=some (V,e):=by
    have:(l.drop i)[0]?=some (V,e):=by rw [hl];rfl
    rwa [List.getElem?_drop,Nat.add_zero] at this
   have hr:l.drop (i+1)=r:=by rw [←List.drop_drop,hl];rfl
   exact ⟨V,e,_,ah hi,hg,h1,Ch.rn n (i+1) (by omega) (by rw [hr];exact h2)⟩
theorem vW (ds:List Nat) (S:St):Lt (jW ds S) S:=fun k=>by
 unfold jW
 cases ds.contains k with
 | true=>exact .inr rfl
 | false=>exact .inl rfl
theorem ux {ds:List Nat} {S:St} {k:Nat} (h:k∈ds):(jW ds S k).2 = .hid:=by
 unfold jW
 have:ds.contains k=true:=by simpa using h
 rw [this];rfl
theorem sR {X:Type} {ops:Array Oper} {W B:List (List Nat)} {K:St→Option X} {r:X}:∀{os:List Oper} {i:Nat} {S:St},ud C.P C.E C.nt ops W B i os S K=some r →
  ∃l S',l.length=os.length∧Ch os l S S'∧K S'=some r∧∀(n:Nat) (o:Oper) (V:St) (e:dP),os[n]?=some o→l[n]?=some (V,e)→(∃S0,V=jW (lf W B (i+n)) S0)∧ie C.P C.E C.nt ops o V=some e∧(∀p,e.p=some p→p=true)∧fE o.dst e=W.getD (i+n) []∧∀k∈lf W B (i+n),k ∉ W.getD (i+n) []
 | [],i,S,h=>⟨[],S,rfl,rfl,h,by simp⟩
 | o :: os,i,S,h=>by
  rw [uc] at h
  split at h
  ·rename_i e he
   obtain ⟨h1,h2⟩:=bt.1 h
   obtain ⟨hp,h3⟩:=qZ h2
   obtain ⟨l,S',k1,k2,k3,k4⟩:=sR h3
   simp only [ae,az] at h1
   refine ⟨(jW (lf W B i) S,e) :: l,S',by simp [k1],⟨vW _ _,k2⟩,k3,fun n o' V e' hn hl=>?_⟩
   cases n with
   | zero =>
    cases hn;cases hl
    refine ⟨⟨S,rfl⟩,he,hp,h1.1,fun k hk=>?_⟩
    have:=aw.1 h1.2 k hk
    simpa using this
   | succ n =>
    have:=k4 n o' V e' (by simpa using hn) (by simpa using hl)
    rwa [show i+1+n=i+(n+1) by omega] at this
  ·cases h
theorem BL (hE:fc C.P C.E) (hF:∀f,bD C.P C.gl f (C.E.fs f)) {ops:Array Oper} {l:List (St × dP)} (hlen:l.length=ops.size) (nH:BV C ops l) (B9:mr ops.toList=true) {S':St} (hQ:∀a' w',lF C S' a' w'→Q .normal a' w') :
  ∀(fuel:Nat) {listed:Array Bool} {S:St} {a:Act} {w:World},lF C S a w→listed.size=ops.size →
   (∀i o,ops.toList[i]?=some o→listed.getD i false=true→∀e∈lE o,listed.getD e false=true) →
   (dM ops.size listed).length≤fuel→Rn ops l (dM ops.size listed) S S'→wpAny C.P .any ops Q fuel listed a w:=by
 have E5:∀{listed:Array Bool},listed.size=ops.size→Region.ready .any ops listed=[]→dM ops.size listed=[]:=by
  intro listed hs hr
  cases wu:dM ops.size listed with
  | nil=>rfl
  | cons i rest =>
   exfalso
   have iZ:i∈dM ops.size listed:=by rw [wu];exact List.mem_cons_self ..
   have zH:=iZ
   simp only [dM,List.mem_filter,List.mem_range,Bool.not_eq_true'] at zH
   obtain ⟨hi,hl⟩:=zH
   have qG:(dM ops.size listed).Pairwise (· < ·):=List.Pairwise.filter _ List.pairwise_lt_range
   have tj:ops.toList[i]?=some ops[i]:=by simp [hi]
   have hb:=xR B9 tj
   have:i∈Region.ready .any ops listed:=by
    simp only [Region.ready,List.mem_filter,List.mem_range]
    refine ⟨hi,?_⟩
    simp only [hl,aS,Bool.true_and,Array.getElem?_eq_getElem hi,Option.map_some,Option.getD_some,Array.all_eq_true_iff_forall_mem,Bool.or_eq_true,Bool.not_eq_true']
    intro e he
    cases Dh:Region.binds .any e with
    | false=>exact .inl rfl
    | true =>
     right
     have eJ:e.on<i:=by
      have:e.on∈lE ops[i]:=aU.2 ⟨e,List.mem_filter.2 ⟨by simpa using he,Dh⟩,rfl⟩
      have fJ:=aw.1 hb _ this
      simpa using fJ
     cases hle:listed.getD e.on false with
     | true=>rfl
     | false =>
      have vh:e.on∈dM ops.size listed:=by
       simp only [dM,List.mem_filter,List.mem_range,Bool.not_eq_true']
       exact ⟨by omega,by rw [mR hs (by omega)];exact hle⟩
      rw [wu] at vh qG
      rcases aD.1 vh with h | h
      ·omega
      ·have:=(List.pairwise_cons.1 qG).1 _ h
       omega
   rw [hr] at this
   cases this
 intro fuel
 induction fuel with
 | zero =>
  intro listed S a w h hs pq hf hr
  have h0:dM ops.size listed=[]:=by simpa using hf
  rw [h0] at hr
  cases hr
  refine ⟨?_,hQ _ _ h⟩
  cases EZ:Region.ready .any ops listed with
  | nil=>rfl
  | cons i rest =>
   have:i∈Region.ready .any ops listed:=by rw [EZ];exact List.mem_cons_self ..
   simp only [Region.ready,List.mem_filter,List.mem_range,ae] at this
   have h1:i∈dM ops.size listed:=by
    simp only [dM,List.mem_filter,List.mem_range]
    exact ⟨this.1,this.2.1⟩
   rw [h0] at h1
   cases h1
 | succ fuel ih =>
  intro listed S a w h hs pq hf hr
  refine ⟨fun EZ=>?_,fun i hi=>?_⟩
  ·rw [E5 hs EZ] at hr
   cases hr
   exact hQ _ _ h
  ·simp only [Region.ready,List.mem_filter,List.mem_range,ae] at hi
   obtain ⟨vh,Ec,GG⟩:=hi
   have C5:i∈dM ops.size listed:=by
    simp only [dM,List.mem_filter,List.mem_range]
    exact ⟨vh,Ec⟩
   have tj:ops.toList[i]?=some ops[i]:=by simp [vh]
   simp only [Array.getElem?_eq_getElem vh,Option.map_some,Option.getD_some,Array.all_eq_true_iff_forall_mem,Bool.or_eq_true,Bool.not_eq_true'] at GG
   have zO:∀e∈lE ops[i],listed.getD e false=true:=by
    intro e he
    simp only [lE,aU,List.mem_filter] at he
    obtain ⟨x,⟨hx,hb⟩,rfl⟩:=he
    rcases GG x (by simpa using hx) with h | h
    ·rw [hb] at h;cases h
    ·exact h
   obtain ⟨A,B,Dm⟩:=List.append_of_mem C5
   have qG:(dM ops.size listed).Pairwise (· < ·):=List.Pairwise.filter _ List.pairwise_lt_range
   rw [Dm,List.pairwise_append] at qG
   obtain ⟨-,hB,hA⟩:=qG
   have GU:∀j∈A,j<i:=fun j hj=>hA j hj i (List.mem_cons_self ..)
   have Ii:∀j∈B,i<j:=fun j hj=>(List.pairwise_cons.1 hB).1 j hj
   rw [Dm] at hr
   have A4:=hr.front nH (fun j hj=>by
    have Fe:=GU j hj
    have C3:j∈dM ops.size listed:=by rw [Dm];exact List.mem_append_left _ hj
    simp only [dM,List.mem_filter,List.mem_range,Bool.not_eq_true'] at C3
    refine ⟨by omega,fun hb=>?_,fun hb=>?_⟩
    ·have h3:=nD (L:=fun e=>listed.getD e false=true) pq tj zO j hb
     rw [mR hs C3.1,h3] at C3
     cases C3.2
    ·have HU:ops.toList[j]?=some ops[j]:=by simp [C3.1]
     have:=sC B9 HU hb
     omega)
   obtain ⟨V,e,o,k1,k2,k3,k4⟩:=A4
   rw [tj] at k1;cases k1
   obtain ⟨s1,s2⟩:=nH.step i _ V e tj k2
   obtain ⟨R,τ,h⟩:=h
   simp only [wpOp,Array.getElem?_eq_getElem vh]
   refine sL h k3 hE hF s2 s1 fun a' w' h'=>?_
   have Gr:dM ops.size (listed.setIfInBounds i true)=A++B:=by
    rw [qo hs vh,Dm,List.filter_append,List.filter_cons]
    simp only [ne_eq,not_true_eq_false,decide_false,bd,if_false]
    rw [List.filter_eq_self.2 (fun j hj=>by have:=GU j hj;simp;omega),List.filter_eq_self.2 (fun j hj=>by have:=Ii j hj;simp;omega)]
   refine ih h' (by simp [hs]) ?_ ?_ ?_
   ·intro j o hj C4 e he
    have CX:∀x,listed.getD x false=true→(listed.setIfInBounds i true).getD x false=true:=by
     intro x hx
     rw [qM]
     split
     ·rename_i HW
      subst HW
      rw [ar (by rw [hs];exact vh)]
     ·exact hx
    by_cases Fe:j=i
    ·subst Fe
     rw [tj] at hj
     cases hj
     exact CX _ (zO e he)
    ·refine CX _ (pq j o hj ?_ e he)
     have HX:i≠j:=fun e=>Fe e.symm
     rw [qM,ak HX] at C4
     exact C4
   ·rw [Gr]
    rw [Dm] at hf
    simp at hf ⊢
    omega
   ·rw [Gr];exact k4
theorem uh (hE:fc C.P C.E) (hF:∀f,bD C.P C.gl f (C.E.fs f)) {X:Type} {id:Nat} {ops:Array Oper} {draw:Bool} {S:St} {a:Act} {w:World} {K:St→Option X} {r:X} (h:lF C S a w) (hr:oX C.P C.E C.nt ops draw S K=some r) (hQ:∀S' a' w',lF C S' a' w'→K S'=some r→Q .normal a' w'):(Code.region id ops draw).wp C.P Q a w:=by
 cases draw with
 | false=>exact wp_region_list (pb hE hF h hr hQ)
 | true =>
  simp only [oX] at hr
  obtain ⟨B9,hr⟩:=bt.1 hr
  split at hr
  ·rename_i W _
   obtain ⟨l,S',k1,k2,k3,k4⟩:=sR hr
   simp only [Nat.zero_add] at k4
   have hlen:l.length=ops.size:=by simpa using k1
   have nH:BV C ops l:=⟨fun i o V e ho hl=>⟨(k4 i o V e ho hl).2.1,(k4 i o V e ho hl).2.2.1⟩,fun i j o o' V V' e e' fP ho HJ hl Gy hj hi k hk=>by
    obtain ⟨⟨S0,rfl⟩,_,_,a1,a2⟩:=k4 i o V e ho hl
    obtain ⟨_,_,_,b1,_⟩:=k4 j o' V' e' HJ Gy
    rw [b1] at hk
    have vh:k∈lf W (iv ops.toList) i:=by
     unfold lf
     rcases Nat.lt_or_ge j W.length with eJ | A2
     ·refine List.mem_flatMap.2 ⟨(W[j],j),List.mem_filter.2 ⟨List.mem_zipIdx_iff_getElem?.2 (by simp [ah eJ]),?_⟩,?_⟩
      ·have e1:Nat.beq j i=false:=by
        cases hb:Nat.beq j i with
        | false=>rfl
        | true=>exact (fP (aj hb).symm).elim
       simp only [e1,aS,Bool.true_and,ae,Bool.not_eq_true']
       exact ⟨by simpa using hj,by simpa using hi⟩
      ·rwa [ai,ah eJ] at hk
     ·rw [ai,List.getElem?_eq_none A2] at hk;cases hk
    exact ⟨ux vh,by rw [a1];exact a2 k vh⟩⟩
   have wu:dM ops.size (Array.replicate ops.size false)=List.range ops.size:=by
    simp only [dM]
    apply List.filter_eq_self.2
    intro i hi
    have hi:i<ops.size:=by simpa using hi
    simp [Array.getD,hi]
   obtain ⟨R,τ,h⟩:=h
   refine wp_region_any hE.mixed (BL hE hF hlen nH B9 (fun a' w' h'=>hQ S' a' w' h' k3) ops.size ⟨R,τ,h.drew⟩ (by simp) ?_ (by rw [wu];simp) ?_)
   ·intro i o _ hl
    exfalso
    by_cases hi:i<ops.size <;> simp [Array.getD,hi] at hl
   ·rw [wu,List.range_eq_range']
    exact Ch.rn ops.size 0 (by simp) (by simpa using k2)
  ·cases hr
end
end Go.Eng
namespace Go.Eng
open Go.RowKit
theorem qV:∀{l:List Nat} {i j k:Nat},hM l=true→l[i]?=some k→l[j]?=some k→i=j
 | x :: l,0,0,k,_,_,_=>rfl
 | x :: l,0,j+1,k,h,h1,h2=>by
  have e:x=k:=by simpa using h1
  subst e
  simp only [hM,ae,aw] at h
  have:=h.1 x (ay (by simpa using h2))
  simp at this
 | x :: l,i+1,0,k,h,h1,h2=>by
  have e:x=k:=by simpa using h2
  subst e
  simp only [hM,ae,aw] at h
  have:=h.1 x (ay (by simpa using h1))
  simp at this
 | x :: l,i+1,j+1,k,h,h1,h2=>by
  simp only [hM,ae] at h
  exact congrArg (· + 1) (qV (k:=k) h.2 (by simpa using h1) (by simpa using h2))
 | [],i,_,_,_,h,_=>by simp at h
theorem gR:∀{G:GL} {xs:List TV} (k:Nat),dp G xs k=(.dead,.no)∨∃(i:Nat) (g:Gh) (x:TV),G[i]?=some (k,g)∧xs[i]?=some x∧dp G xs k=(x,g)
 | [],_,_ => .inl rfl
 | _ :: _,[],_ => .inl rfl
 | (j,g) :: G,x :: xs,k=>by
  simp only [dp]
  cases hb:Nat.beq k j with
  | true=>exact .inr ⟨0,g,x,by rw [aj hb];rfl,rfl,rfl⟩
  | false =>
   rcases gR (G:=G) (xs:=xs) k with h | ⟨i,g',x',h1,h2,h3⟩
   ·exact .inl h
   ·exact .inr ⟨i+1,g',x',by simpa using h1,by simpa using h2,h3⟩
theorem kI:∀{G:GL} {xs:List TV} {i k:Nat} {g:Gh} {x:TV},hM (G.map (·.1))=true→G[i]?=some (k,g)→xs[i]?=some x→dp G xs k=(x,g)
 | (j,g) :: G,x :: xs,0,k,_,_,_,h1,h2=>by
  cases h1;cases h2
  have:Nat.beq j j=true:=by simp
  simp only [dp,this,ao]
 | (j,g) :: G,x :: xs,i+1,k,_,_,hd,h1,h2=>by
  simp only [aQ,hM,ae,aw] at hd
  have hm:k∈G.map (·.1):=aU.2 ⟨_,ay (by simpa using h1),rfl⟩
  have:=hd.1 k hm
  simp only [Bool.not_eq_true'] at this
  simp only [dp,this,af]
  exact kI hd.2 (by simpa using h1) (by simpa using h2)
 | [],_,_,_,_,_,_,h,_=>by simp at h
 | _ :: _,[],_,_,_,_,_,_,h=>by simp at h
theorem kN {ts us:List (Nat × Nat)} {p:Nat × Nat} (h:p∈us.filter fun u=>(fZ u.1 ts).isNone):p∈us:=(List.mem_filter.1 h).1
theorem bX.n9 {R:Reach} {w:World}:∀{ts:List (Nat × Nat)} {xs:List TV} {ys:List Value},bX R w xs ys→bX R w (n9 ts xs) ys
 | [],_,_,h=>h
 | t :: ts,xs,ys,h=>by
  simp only [Go.Eng.n9,List.foldl_cons]
  exact bX.n9 (ts:=ts) (h.set fun y _ => .pt y)
section
variable {nt:Nat} {R R':Reach} {w:World} {cg:Nat→Prop} {τ:Nat→Value} {S S1:St} {G:GL} {ρ:List (Nat × Option Nat)}
def Fact (nt:Nat) (w:World) (τ:Nat→Value) (S:St) (ρ:List (Nat × Option Nat)) (W:List (Nat × Cell)) (R:Reach) (p:Nat × Gh) (x:TV):Prop :=
 match p.2 with
 | .no=>p.1<nt∧Rep R w x (τ p.1)
 | .cT _=>p.1<nt∧x = .pt∧((∃j,S p.1=(.pt,.cT j))∨∃t,S p.1=(.nl t,.no))
 | .ptr m o=>p.1<nt∧x = .pt∧S p.1=(.pt,.ptr m o)
 | .cl ts=>nt≤p.1∧∃cs us b ys e zs,S p.1=(.ag cs,.cl us)∧τ p.1 = .pointer (some ⟨b,0,none⟩)∧w.heap[b]?=some (.cells ⟨ys⟩ e (0,0))∧x = .ag zs∧bX R w zs ys∧bX R w cs ys∧(∀t∈us,ys[t.1]?=some (τ t.2))∧∀t∈ts,(fZ t.1 us).isSome=true∨∃y,cs[t.1]?=some (.nl y)
 | .pv=>nt≤p.1∧((∃j,fj ρ p.1=some j∧S j=(x,.pv))∨(fj ρ p.1=none∧∃t,x = .sl t []))
 | .lv=>nt≤p.1∧((∃j,fj ρ p.1=some j∧(S j=(x,.lv)∨(S j=(x,.pv)∧(j,(x,.lv))∈W)))∨(fj ρ p.1=none∧∃t,x = .sl t []))
 | _=>False
theorem Fact.mono {W W':List (Nat × Cell)} {p:Nat × Gh} {x:TV} (h:Fact nt w τ S ρ W R p x) (k:cH R w R' w) (hw:∀q∈W,q∈W'):Fact nt w τ S ρ W' R' p x:=by
 unfold Fact at h ⊢
 split at h
 ·exact ⟨h.1,h.2.mono k⟩
 ·exact h
 ·exact h
 ·obtain ⟨h0,cs,us,b,ys,e,zs,h1,h2,h3,h4,h5,h6,h7,h8⟩:=h
  exact ⟨h0,cs,us,b,ys,e,zs,h1,h2,h3,h4,h5.mono k,h6.mono k,h7,h8⟩
 ·exact h
 ·refine ⟨h.1,h.2.imp (fun ⟨j,a,b⟩=>⟨j,a,b.imp id fun ⟨c,d⟩=>⟨c,hw _ d⟩⟩) id⟩
 ·exact h.elim
def Cu (nt:Nat) (ws:List (Nat × Cell)):Prop:=∀p∈ws,p.2.2 = .lv
theorem sh {V:St} {c:Cell} {x:TV} {ws:List (Nat × Cell)} (h:tw V c=some (x,ws)):Cu nt ws:=by
 intro p hp
 unfold tw at h
 split at h
 ·split at h
  ·cases h;simp only [List.mem_singleton] at hp;subst hp;rfl
  ·cases h;cases hp
  ·obtain ⟨_,h⟩:=bt.1 h;cases h;cases hp
  ·cases h
 ·cases h;cases hp
 ·cases h
theorem kM {V:St} {o n:Nat}:∀{ts:List (Nat × Nat)} {cs ds:List TV} {ws:List (Nat × Cell)},iu V o n ts cs=some (ds,ws)→Cu nt ws
 | [],_,_,_,h=>by cases h;intro p hp;cases hp
 | (c,k) :: ts,cs,ds,ws,h=>by
  simp only [iu] at h
  split at h
  ·rename_i pG rB h1
   cases hb:(Nat.ble o c&&Nat.blt c (o+n)) with
   | true =>
    rw [hb,ao] at h
    split at h
    ·rename_i h2
     cases h
     intro p hp
     rcases List.mem_append.1 hp with hp | hp
     ·exact sh (nt:=nt) h2 p hp
     ·exact kM h1 p hp
    ·cases h
   | false=>rw [hb,af] at h;cases h;exact kM h1
  ·cases h
theorem Be {V:St} {c:Cell} {x:TV} {ws:List (Nat × Cell)} (h:pA V c=some (x,ws)):Cu nt ws:=by
 unfold pA at h
 split at h
 ·split at h
  ·rename_i hf;cases h;exact kM hf
  ·cases h
 ·exact sh h
theorem xT (h:Core nt R w cg τ S1) (hV:Lq S S1) (hS:∀k,k<nt→cz R w τ (S k).1 (S k).2 (τ k)∧∀m∈(S k).2.bP,nt≤m) (hj:∀k j,fj ρ k=some j→nt≤k→nt≤j) {p:Nat × Gh} {x:TV} {ws:List (Nat × Cell)} (he:pX nt S G ρ p=some (x,ws)) :
  ∃R',Core nt R' w cg τ (cO S1 ws)∧Fz cg R w R'∧Fact nt w τ S ρ ws R' p x∧Lq S (cO S1 ws)∧Cu nt ws:=by
 obtain ⟨k,g⟩:=p
 have AG:Cu nt []:=fun p hp=>by cases hp
 unfold pX at he
 unfold Fact
 simp only at he ⊢
 cases g <;> simp only at he ⊢ <;> try (cases he;done)
 case no =>
  obtain ⟨h1,h2⟩:=bt.1 he
  have hk:k<nt:=Nat.le_of_ble_eq_true h1
  obtain ⟨a,b⟩:=hS k hk
  obtain ⟨R',k1,k2,k3,k4⟩:=pz h hV a b h2
  exact ⟨R',k1,k2,⟨hk,k3⟩,k4,Be h2⟩
 case cT i =>
  obtain ⟨h1,h2⟩:=bt.1 he
  have hk:k<nt:=Nat.le_of_ble_eq_true h1
  split at h2 <;> cases h2
  ·exact ⟨R,h,Fz.refl _ _ _,⟨hk,rfl,.inl ⟨_,by assumption⟩⟩,hV,AG⟩
  ·exact ⟨R,h,Fz.refl _ _ _,⟨hk,rfl,.inr ⟨_,by assumption⟩⟩,hV,AG⟩
 case ptr m o =>
  obtain ⟨h1,h2⟩:=bt.1 he
  have hk:k<nt:=Nat.le_of_ble_eq_true h1
  split at h2
  ·rename_i e
   obtain ⟨h3,h4⟩:=bt.1 h2
   cases h4
   simp only [ae] at h3
   rw [aj h3.1,aj h3.2] at e
   exact ⟨R,h,Fz.refl _ _ _,⟨hk,rfl,e⟩,hV,AG⟩
  ·cases h2
 case cl ts =>
  obtain ⟨h1,h2⟩:=bt.1 he
  have hk:nt≤k:=Nat.le_of_ble_eq_true h1
  split at h2
  ·rename_i cs us e
   obtain ⟨h3,h4⟩:=bt.1 h2
   split at h4
   ·rename_i pG rB hf
    cases h4
    have e1:S1 k=(.ag cs,.cl us):=by
     rcases hV k with e' | e' | ⟨e',_⟩
     ·rw [←e',e]
     ·rw [e] at e';cases e'
     ·rw [e] at e';cases e'
    have hK:=h.key k
    rw [e1] at hK
    obtain ⟨b,ys,el,xs,a1,a2,a3,a4,a5,a6⟩:=hK
    cases a3
    obtain ⟨R',f1,f2,f3,f4,_⟩:=gZ h hV a4 (fun t ht=>⟨by
     have:=h.inv k t.2
     rw [e1] at this
     exact (this (List.mem_map_of_mem (f:=(·.2)) (kN ht))).1,a5 t (kN ht)⟩) hf
    refine ⟨R',f1,f2,⟨hk,cs,us,b,ys,el,_,e,a1,a2,rfl,bX.n9 (iG f3),a4.mono f2.1,a5,fun t ht=>?_⟩,f4,kM hf⟩
    have:=aw.1 h3 t ht
    rcases Bool.or_eq_true _ _ ▸ this with h | h
    ·exact .inl h
    ·right
     unfold CR at h
     split at h
     ·exact ⟨_,by assumption⟩
     ·cases h
   ·cases h4
  ·cases h2
 case pv =>
  obtain ⟨h1,h2⟩:=bt.1 he
  have hk:nt≤k:=Nat.le_of_ble_eq_true h1
  split at h2
  ·rename_i j lV
   split at h2 <;> cases h2
   exact ⟨R,h,Fz.refl _ _ _,⟨hk,.inl ⟨j,lV,by assumption⟩⟩,hV,AG⟩
  ·rename_i lV
   rw [aH] at h2
   obtain ⟨t,_,h2⟩:=h2
   cases h2
   exact ⟨R,h,Fz.refl _ _ _,⟨hk,.inr ⟨lV,t,rfl⟩⟩,hV,AG⟩
 case lv =>
  obtain ⟨h1,h2⟩:=bt.1 he
  have hk:nt≤k:=Nat.le_of_ble_eq_true h1
  split at h2
  ·rename_i j lV
   have HM:=hj k j lV hk
   split at h2 <;> cases h2
   ·rename_i e
    have hf:tw S (.pt,.cT j)=some (x,[(j,(x,.lv))]):=by simp only [tw,e]
    obtain ⟨R',k1,k2,_,k4,_,_⟩:=sf h hV HM hf
    exact ⟨R',k1,k2,⟨hk,.inl ⟨j,lV,.inr ⟨e,List.mem_singleton.2 rfl⟩⟩⟩,k4,sh hf⟩
   ·exact ⟨R,h,Fz.refl _ _ _,⟨hk,.inl ⟨j,lV,.inl (by assumption)⟩⟩,hV,AG⟩
  ·rename_i lV
   rw [aH] at h2
   obtain ⟨t,_,h2⟩:=h2
   cases h2
   exact ⟨R,h,Fz.refl _ _ _,⟨hk,.inr ⟨lV,t,rfl⟩⟩,hV,AG⟩
theorem pV (Di:Core nt R w cg τ S) (hj:∀k j,fj ρ k=some j→nt≤k→nt≤j):∀{l:GL} {xs:List TV} {ws:List (Nat × Cell)},lG nt S G ρ l=some (xs,ws) →
  ∃R',Core nt R' w cg τ (cO S ws)∧Fz cg R w R'∧xs.length=l.length∧(∀(i:Nat) (p:Nat × Gh) (x:TV),l[i]?=some p→xs[i]?=some x→Fact nt w τ S ρ ws R' p x)∧Lq S (cO S ws)∧Cu nt ws
 | [],_,_,h=>by cases h;exact ⟨R,Di,Fz.refl _ _ _,rfl,by simp,(fun k => .inl rfl),fun p hp=>by cases hp⟩
 | p :: l,xs,ws,h=>by
  simp only [lG] at h
  split at h
  ·rename_i x rB h1
   split at h
   ·rename_i xE us h2
    cases h
    obtain ⟨R1,k1,k2,k3,k4,k5,k6⟩:=pV Di hj h2
    obtain ⟨R2,m1,m2,m3,m4,m5⟩:=xT k1 k5 (fun k hk=>by
     have hs:=Di.slt k hk
     have hK:=Di.key k
     rw [eZ.slot hs] at hK
     exact ⟨hK.cq k2.1 fun _ _=>rfl,fun m hm=>(Di.inv k m hm).1⟩) hj h1
    rw [eF]
    refine ⟨R2,m1,k2.trans m2,by simp [k3],fun i p' x' hi hx=>?_,m4,fun q hq=>?_⟩
    ·cases i with
     | zero=>cases hi;cases hx;exact m3.mono (cH.refl _ _) fun q hq=>List.mem_append_left _ hq
     | succ i=>exact (k4 i p' x' (by simpa using hi) (by simpa using hx)).mono m2.1 fun q hq=>List.mem_append_right _ hq
    ·rcases List.mem_append.1 hq with hq | hq
     ·exact m5 q hq
     ·exact k6 q hq
   ·cases h
  ·cases h
theorem n8:∀{ws:List (Nat × Cell)} {S:St} {k:Nat} {c:Cell},(k,c)∈ws→∃p∈ws,p.1=k∧cO S ws k=p.2
 | (j,x) :: ws,S,k,c,h=>by
  simp only [cO]
  by_cases e:k=j
  ·subst e;exact ⟨_,List.mem_cons_self ..,rfl,by rw [bF]⟩
  ·rw [bQ _ _ e]
   rcases aD.1 h with h | h
   ·cases h;exact (e rfl).elim
   ·obtain ⟨p,h1,h2,h3⟩:=n8 h (S:=S)
    exact ⟨p,List.mem_cons_of_mem _ h1,h2,h3⟩
def fW (nt:Nat) (τ:Nat→Value) (ρ:List (Nat × Option Nat)) (k:Nat):Value:=if k<nt then τ k else match fj ρ k with | some j=>τ j | none => .slice none 0 0
end
theorem lh {k:Nat} {r:Option Nat}:∀{ρ:List (Nat × Option Nat)},ju k ρ=some r→(k,r)∈ρ
 | (i,j) :: ρ,h=>by
  simp only [ju] at h
  cases hb:Nat.beq i k with
  | true=>rw [hb] at h;cases h;rw [aj hb];exact List.mem_cons_self ..
  | false=>rw [hb] at h;exact List.mem_cons_of_mem _ (lh h)
theorem qn {S:St} {k i:Nat}:∀{G:GL},(k,.cT i)∈G→(∀j,S k=(.pt,.cT j)→(i,some j)∈jn S G)∧∀t,S k=(.nl t,.no)→(i,none)∈jn S G
 | (k',g) :: G,h=>by
  rcases aD.1 h with h | h
  ·cases h
   refine ⟨fun j hj=>?_,fun t hj=>?_⟩ <;> simp only [jn,hj] <;> exact List.mem_append_left _ (List.mem_singleton.2 rfl)
  ·obtain ⟨h1,h2⟩:=qn h (S:=S)
   cases g <;> first | exact ⟨fun j hj=>List.mem_append_right _ (h1 j hj),fun t hj=>List.mem_append_right _ (h2 t hj)⟩ | exact ⟨h1,h2⟩
theorem sT {S:St} {m:Nat} {ts us:List (Nat × Nat)} {cs:List TV} (hm:S m=(.ag cs,.cl us)):∀{G:GL},(m,.cl ts)∈G→∀t∈ts,(∀j,fZ t.1 us=some j→(t.2,some j)∈jn S G)∧(fZ t.1 us=none→∀y,cs[t.1]?=some (.nl y)→(t.2,none)∈jn S G)
 | (k',g) :: G,h,t,ht=>by
  rcases aD.1 h with h | h
  ·cases h
   refine ⟨fun j hj=>?_,fun hj y hy=>?_⟩ <;> simp only [jn,hm] <;> refine List.mem_append_left _ (List.mem_filterMap.2 ⟨t,ht,?_⟩)
   ·simp only [hj]
   ·simp only [hj,hy]
  ·obtain ⟨h1,h2⟩:=sT hm h t ht
   cases g <;> first | exact ⟨fun j hj=>List.mem_append_right _ (h1 j hj),fun a b c=>List.mem_append_right _ (h2 a b c)⟩ | exact ⟨h1,h2⟩
theorem kB {S:St} {i j:Nat}:∀{G:GL},(i,some j)∈jn S G→∃q,j∈(S q).2.bP
 | (k',g) :: G,h=>by
  cases g <;> first | exact kB (G:=G) h | skip
  ·simp only [jn] at h
   rcases List.mem_append.1 h with h | h
   ·refine ⟨k',?_⟩
    split at h
    ·rename_i e
     simp only [List.mem_singleton,Prod.mk.injEq,aA] at h
     rw [e,h.2];exact List.mem_singleton.2 rfl
    ·simp at h
    ·cases h
   ·exact kB h
  ·rename_i ts
   simp only [jn] at h
   rcases List.mem_append.1 h with h | h
   ·refine ⟨k',?_⟩
    split at h
    ·rename_i cs us e
     obtain ⟨t,_,ht⟩:=List.mem_filterMap.1 h
     split at ht
     ·rename_i hf
      simp only [aA,Prod.mk.injEq] at ht
      rw [e,←ht.2]
      exact aU.2 ⟨_,fS hf,rfl⟩
     ·simp at ht
     ·cases ht
    ·cases h
   ·exact kB h
theorem qW {A:Type} {f:A→Option Nat}:∀{l:List A} {i j k:Nat} {x y:A},hM (l.filterMap f)=true→l[i]?=some x→f x=some k→l[j]?=some y→f y=some k→i=j
 | a :: l,0,0,_,_,_,_,_,_,_,_=>rfl
 | a :: l,0,j+1,k,x,y,hd,h1,h2,h3,h4=>by
  have e:a=x:=by simpa using h1
  subst e
  rw [List.filterMap_cons,h2] at hd
  simp only [hM,ae,aw] at hd
  have:=hd.1 k (List.mem_filterMap.2 ⟨y,ay (by simpa using h3),h4⟩)
  simp at this
 | a :: l,i+1,0,k,x,y,hd,h1,h2,h3,h4=>by
  have e:a=y:=by simpa using h3
  subst e
  rw [List.filterMap_cons,h4] at hd
  simp only [hM,ae,aw] at hd
  have:=hd.1 k (List.mem_filterMap.2 ⟨x,ay (by simpa using h1),h2⟩)
  simp at this
 | a :: l,i+1,j+1,k,x,y,hd,h1,h2,h3,h4=>by
  have nP:hM (l.filterMap f)=true:=by
   rw [List.filterMap_cons] at hd
   split at hd
   ·exact hd
   ·simp only [hM,ae] at hd;exact hd.2
  exact congrArg (· + 1) (qW nP (by simpa using h1) h2 (by simpa using h3) h4)
 | [],_,_,_,_,_,_,h,_,_,_=>by simp at h
section
variable {C:Ctx} {S:St} {a:Act} {w:World} {R:Reach} {τ:Nat→Value} {G:GL} {xs:List TV}
theorem ue (h:cG C S a w R τ) (he:k9 C.nt G S=some xs):∃R',cG C (dp G xs) a w R' (fW C.nt τ (jn S G))∧cH R w R' w:=by
 unfold k9 at he
 split at he
 ·rename_i xE ws hv
  obtain ⟨ot,he⟩:=bt.1 he
  cases he
  generalize EO:jn S G=ρ at *
  simp only [DY,ae] at ot
  obtain ⟨⟨⟨⟨o1,o2⟩,o3⟩,o4⟩,o5⟩:=ot
  -- the names
  have cons:∀i r,(i,r)∈ρ→ju i ρ=some r∧(i<1000000∨r=some i)∧C.nt≤i:=fun i r hi=>by
   have:=aw.1 o2 (i,r) hi
   simp only [ae,Bool.or_eq_true,az] at this
   exact ⟨this.1.1,this.1.2.imp (fun h=>Nat.le_of_ble_eq_true h) id,Nat.le_of_ble_eq_true this.2⟩
  have EX:∀k j,fj ρ k=some j→C.nt≤k→C.nt≤j:=fun k j hk hn=>by
   unfold fj at hk
   cases hl:ju k ρ with
   | none=>rw [hl] at hk;cases hk;exact hn
   | some r =>
    rw [hl] at hk
    simp only [Option.getD_some] at hk
    subst hk
    have hm:=lh hl
    rw [←EO] at hm
    obtain ⟨q,hq⟩:=kB hm
    exact (h.core.inv q j hq).1
  obtain ⟨R',k1,k2,k3,k4,k5,k6⟩:=pV h.core EX hv
  refine ⟨R',⟨h.size,h.defers,?_,fun t ht=>?_,⟨h.io.1,fun k hk=>?_⟩,h.ext.reach k2.1 k2.2,h.gl.cq k2.1⟩,k2.1⟩
  ·have len:xs.length=G.length:=k3
   have DU:∀i r,(i,r)∈ρ→fW C.nt τ ρ i=match r with | some j=>τ j | none => .slice none 0 0:=fun i r hi=>by
    obtain ⟨c1,_,c2⟩:=cons i r hi
    unfold fW fj
    rw [ak (by omega),c1]
    cases r <;> rfl
   have ED:∀k,C.nt≤k→ju k ρ=none→fW C.nt τ ρ k=τ k:=fun k hk hl=>by
    unfold fW fj;rw [ak (by omega),hl];rfl
   have vM:∀k,k<C.nt→fW C.nt τ ρ k=τ k:=fun k hk=>by unfold fW;rw [ar hk]
   have DV:∀k j,C.nt≤k→fj ρ k=some j→fW C.nt τ ρ k=τ j:=fun k j hk hj=>by unfold fW;rw [ak (by omega),hj]
   have yh:∀k,C.nt≤k→fj ρ k=none→fW C.nt τ ρ k = .slice none 0 0:=fun k hk hj=>by unfold fW;rw [ak (by omega),hj]
   have DZ:∀p∈G,_:=aw.1 o5
   -- As in the state where all is read that is to be read
   have DW:∀k j x,(k,.pv)∈G→fj ρ k=some j→S j=(x,.pv)→cO S ws j=(x,.pv):=fun k j x hm hn hs=>by
    have:=DZ _ hm
    simp only [hn] at this
    rw [dV (pN this),hs]
   have D1:∀j x,(S j=(x,.lv)∨(S j=(x,.pv)∧(j,(x,.lv))∈ws))→cO S ws j=(x,.lv):=fun j x hs=>by
    rcases hs with hs | ⟨hs,hm⟩
    ·rcases k5 j with e | e | ⟨e,_⟩
     ·rw [←e,hs]
     ·rw [hs] at e;cases e
     ·rw [hs] at e;cases e
    ·obtain ⟨p,hp,_,D8⟩:=n8 (S:=S) hm
     rcases k5 j with e | e | ⟨_,e⟩
     ·have:=k6 p hp
      rw [←D8,←e,hs] at this;cases this
     ·rw [hs] at e;cases e
     ·rw [e,hs]
   have Ek:∀k cs us,S k=(.ag cs,.cl us)→cO S ws k=(.ag cs,.cl us):=fun k cs us hs=>by
    rcases k5 k with e | e | ⟨e,_⟩
    ·rw [←e,hs]
    ·rw [hs] at e;cases e
    ·rw [hs] at e;cases e
   have key:∀k i g x,G[i]?=some (k,g)→xs[i]?=some x→eZ R' w (fW C.nt τ ρ) x g (fW C.nt τ ρ k):=fun k i g x hG hx=>by
    have hm:=ay hG
    have hf:=k4 i (k,g) x hG hx
    unfold Fact at hf
    cases g <;> simp only at hf <;> try (exact hf.elim)
    case no =>
     rw [vM k hf.1];exact cz.no hf.2
    case cT i' =>
     obtain ⟨hk,rfl,hf⟩:=hf
     have hK:=h.core.key k
     rw [vM k hk]
     rw [eZ.slot (h.core.slt k hk)] at hK
     obtain ⟨n1,n2⟩:=qn (S:=S) hm
     rw [EO] at n1 n2
     rcases hf with ⟨j,hj⟩ | ⟨t,hj⟩
     ·rw [hj] at hK
      exact ⟨by rw [DU _ _ (n1 j hj)];exact hK.1,hK.2⟩
     ·rw [hj] at hK
      have hv:τ k = .slice none 0 0:=by
       have:Rep R w (.nl t) (τ k):=eX.rep hK
       generalize τ k=v at *
       cases this with
       | sc h=>cases h
       | nl=>rfl
      exact ⟨by rw [DU _ _ (n2 t hj)];exact hv,by rw [hv];rfl⟩
    case ptr m o =>
     obtain ⟨hk,rfl,hj⟩:=hf
     have hK:=h.core.key k
     rw [vM k hk]
     rw [eZ.slot (h.core.slt k hk),hj] at hK
     have hi:=h.core.inv k m (by rw [hj];exact List.mem_singleton.2 rfl)
     have hl:=DZ _ hm
     simp only [Option.isNone_iff_eq_none] at hl
     obtain ⟨b,b1,b2⟩:∃b,τ m = .pointer (some ⟨b,0,none⟩)∧τ k = .pointer (some ⟨b,o,none⟩):=hK
     exact ⟨b,by rw [ED m hi.1 hl];exact b1,b2⟩
    case cl ts =>
     obtain ⟨hk,cs,us,b,ys,e,zs,a1,a2,a3,rfl,a5,a6,a7,a8⟩:=hf
     have hl:=DZ _ hm
     simp only [Option.isNone_iff_eq_none] at hl
     have hK:=k1.key k
     rw [Ek k cs us a1] at hK
     obtain ⟨b',_,_,_,c1,_,_,_,_,c2⟩:=hK
     rw [a2] at c1;cases c1
     refine ⟨b,ys,e,zs,by rw [ED k hk hl];exact a2,a3,rfl,a5,fun t ht=>?_,c2⟩
     obtain ⟨n1,n2⟩:=sT a1 hm t ht
     rw [EO] at n1 n2
     cases B8:fZ t.1 us with
     | some j =>
      rw [DU _ _ (n1 j B8)]
      exact a7 _ (fS B8)
     | none =>
      obtain ⟨y,hy⟩:=(a8 t ht).resolve_left (by rw [B8];simp)
      rw [DU _ _ (n2 B8 y hy)]
      obtain ⟨v,hv,_,hr⟩:=a6.get _ _ hy
      rw [hv]
      cases hr with
      | sc h=>cases h
      | nl=>rfl
    case pv =>
     obtain ⟨hk,⟨j,hj,hs⟩ | ⟨hj,t,rfl⟩⟩:=hf
     ·have hK:=k1.key j
      rw [DW k j x hm hj hs] at hK
      rw [DV k j hk hj];exact hK
     ·rw [yh k hk hj];exact ⟨t,[],rfl,.inl ⟨rfl,rfl⟩⟩
    case lv =>
     obtain ⟨hk,⟨j,hj,hs⟩ | ⟨hj,t,rfl⟩⟩:=hf
     ·have hK:=k1.key j
      rw [D1 j x hs] at hK
      rw [DV k j hk hj];exact hK
     ·rw [yh k hk hj];exact ⟨t,[],rfl,.inl ⟨rfl,rfl⟩⟩
   have owner:∀k g,dv (fW C.nt τ ρ) (dp G xs) k=some g→∃(i:Nat) (g0:Gh) (j:Nat),G[i]?=some (k,g0)∧g0.own=true∧fj ρ k=some j∧dv τ (cO S ws) j=some g∧(cO S ws j).2.ta=false:=fun k g hb=>by
    obtain ⟨ho,hb⟩:=cZ hb
    rcases gR (G:=G) (xs:=xs) k with e | ⟨i,g0,x,hG,hx,e⟩
    ·rw [e] at ho;cases ho
    ·rw [e] at ho
     have hm:=ay hG
     have hf:=k4 i (k,g0) x hG hx
     unfold Fact at hf
     cases g0 <;> simp only at hf <;> try (first | exact hf.elim | (cases ho;done))
     case cl ts =>
      obtain ⟨hk,cs,us,b,ys,e,zs,a1,a2,a3,rfl,a5,a6,a7,a8⟩:=hf
      have hl:=DZ _ hm
      simp only [Option.isNone_iff_eq_none] at hl
      have hn:fj ρ k=some k:=by unfold fj;rw [hl];rfl
      rw [ED k hk hl] at hb
      exact ⟨i,_,k,hG,rfl,hn,dL (by rw [Ek k cs us a1];rfl) (by rw [Ek k cs us a1];rfl) hb,by rw [Ek k cs us a1];rfl⟩
     case pv =>
      obtain ⟨hk,⟨j,hj,hs⟩ | ⟨hj,t,rfl⟩⟩:=hf
      ·rw [DV k j hk hj] at hb
       exact ⟨i,_,j,hG,rfl,hj,dL (by rw [DW k j x hm hj hs];rfl) (by rw [DW k j x hm hj hs];rfl) hb,by rw [DW k j x hm hj hs];rfl⟩
      ·rw [yh k hk hj] at hb;cases hb
     case lv =>
      obtain ⟨hk,⟨j,hj,hs⟩ | ⟨hj,t,rfl⟩⟩:=hf
      ·rw [DV k j hk hj] at hb
       exact ⟨i,_,j,hG,rfl,hj,dL (by rw [D1 j x hs];rfl) (by rw [D1 j x hs];rfl) hb,by rw [D1 j x hs];rfl⟩
      ·rw [yh k hk hj] at hb;cases hb
   refine ⟨fun k=>?_,fun k k' g hb fJ=>?_,fun k g hb=>?_,fun j k hk=>?_,k1.j9,fun k hk=>?_,fun k d hk=>?_⟩
   ·rcases gR (G:=G) (xs:=xs) k with e | ⟨i,g,x,hG,hx,e⟩
    ·rw [e];exact cz.no (τ:=fW C.nt τ ρ) (.dead _)
    ·rw [e];exact key k i g x hG hx
   ·obtain ⟨i,g0,j,e1,e2,e3,e4,e5⟩:=owner k g hb
    obtain ⟨i',I0,j',f1,f2,f3,f4,f5⟩:=owner k' g fJ
    have:=k1.j0 e4 f4
    subst this
    have:=qW o3 e1 (by simp only [e2,ao];exact e3) f1 (by simp only [f2,ao];exact f3)
    subst this
    rw [e1] at f1;cases f1;rfl
   ·obtain ⟨i,g0,j,e1,e2,e3,e4,e5⟩:=owner k g hb
    exact k1.cg j g e4
   ·rcases gR (G:=G) (xs:=xs) j with e | ⟨i,g,x,hG,hx,e⟩
    ·rw [e] at hk;cases hk
    ·rw [e] at hk
     have:=aw.1 (aw.1 o4 _ (ay hG)) k hk
     obtain ⟨q,hq,zG⟩:=List.any_eq_true.1 this
     simp only [ae] at zG
     obtain ⟨zG,E0⟩:=zG
     obtain ⟨i',rH⟩:=List.mem_iff_getElem?.1 hq
     have eJ:i'<xs.length:=by rw [len];exact (av.1 rH).1
     have pk:xs[i']?=some xs[i']:=ah eJ
     have Gs:=aj zG
     obtain ⟨q1,q2⟩:=q
     simp only at Gs E0
     subst Gs
     have hf:=k4 i' _ _ rH pk
     refine ⟨?_,?_⟩
     ·unfold Fact at hf
      cases q2 <;> simp only at hf <;> first | exact hf.1 | exact hf.elim | cases E0
     ·rw [kI o1 rH pk];intro e;simp only at e;subst e;cases E0
   ·rcases gR (G:=G) (xs:=xs) k with e | ⟨i,g,x,hG,hx,e⟩
    ·rw [e];rfl
    ·rw [e]
     have hf:=k4 i (k,g) x hG hx
     unfold Fact at hf
     cases g <;> simp only at hf <;> first | rfl | exact hf.elim | (exfalso;have:=hf.1;omega)
   ·rcases gR (G:=G) (xs:=xs) k with e | ⟨i,g,x,hG,hx,e⟩
    ·rw [e] at hk;cases hk
    ·rw [e] at hk
     simp only at hk
     subst hk
     have hf:=k4 i _ x hG hx
     exact hf.elim
  ·unfold fW;rw [ar ht];exact h.tmps t ht
  ·unfold fW
   have:=h.io.1
   rw [ak (by omega)]
   unfold fj
   cases hl:ju k ρ with
   | none=>simp only [Option.getD_none];exact h.io.2 k hk
   | some r =>
    have:=(cons k r (lh hl)).2.1.resolve_left (by omega)
    subst this
    simp only [Option.getD_some];exact h.io.2 k hk
 ·cases he
theorem mJ:∀{l:List Nat} {S:St},cG C S a w R τ→cG C (qp l S) a w R τ
 | [],_,h=>h
 | k :: r,S,h=>by
  unfold qp
  split
  ·rename_i x d hk;exact mJ (h.recover hk)
  ·exact mJ h
theorem jl (h:cG C S a w R τ) (he:eR C.nt G S=some xs):∃R' τ',cG C (dp G xs) a w R' τ'∧cH R w R' w:=by
 obtain ⟨R',h1,h2⟩:=ue (mJ h) he
 exact ⟨R',_,h1,h2⟩
end
end Go.Eng
namespace Go.Eng
section
variable {R:Type} (P:Program) (E:cI) (nt:Nat)
theorem wO (c:Code):vk (R:=R) P E nt c=wN P E nt c:=by
 induction c with
 | seq a b r9 pR =>
  show vK nt (vk P E nt a) (vk P E nt b) (vk P E nt b).1=vK nt (wN P E nt a) (wN P E nt b) (ib P E nt b)
  rw [←r9,←pR];rfl
 | cond x a b r9 pR =>
  show tE E nt x (vk P E nt a) (vk P E nt b)=tE E nt x (wN P E nt a) (wN P E nt b)
  rw [r9,pR]
 | block id a ih =>
  show (dk fun h S K=>(vk P E nt a).1 h.s1 S (gq id K))=(dk fun h S K=>(wN P E nt a).1 h.s1 S (gq id K):nT R)
  rw [ih]
 | scope a ih =>
  show oS nt (vk P E nt a) (vk P E nt a).2=oS nt (wN P E nt a) (lY P E nt a)
  rw [←ih];rfl
 | _=>rfl
theorem tA (c:Code):ib (R:=R) P E nt c=ev P E nt c:=by show (vk P E nt c).1=(wN P E nt c).1;rw [wO]
end
section
variable {R:Type} {nt:Nat}
abbrev kU:=List (Option (MX × St))
def nU (l:kU) (K:MX × St→Option R) (r:R):Prop:=∀q∈l,∃p,q=some p∧K p=some r
def xV (K:dj R) (q:MX × St):Option R:=K q.1 q.2
def gM (g:dj R→Option R):Prop:=∃l:kU,∀(K:dj R) (r:R),g K=some r ↔ nU l (xV K) r
theorem gM.nil {g:dj R→Option R} (h:∀K,g K=none):gM g:=⟨[none],fun K r=>by rw [h];exact ⟨fun h=>(by cases h),fun h=>(by obtain ⟨p,e,_⟩:=h none (List.mem_singleton.2 rfl);cases e)⟩⟩
theorem gM.one {g:dj R→Option R} (e:MX) (S:St) (h:∀K,g K=K e S):gM g:=⟨[some (e,S)],fun K r=>by rw [h];exact ⟨fun h q hq=>⟨_,List.mem_singleton.1 hq,h⟩,fun h=>by obtain ⟨p,e,h⟩:=h _ (List.mem_singleton.2 rfl);cases e;exact h⟩⟩
theorem lC {x y:Option R} {r:R}:both x y=some r ↔ x=some r∧y=some r:=by
 unfold both
 split
 ·rename_i e;rw [←e];simp
 ·rename_i e;simp only [reduceCtorEq,false_iff];rintro ⟨rfl,rfl⟩;exact e rfl
theorem u7 (x:Option R):both x x=x:=by simp [both]
theorem gM.bind {l:kU} {g:dj R→Option R} {F:dj R→MX × St→Option R} (hF:∀q,gM fun K=>F K q) (h:∀K r,g K=some r ↔ nU l (F K) r):gM g:=by
 have key:∀l:kU,∃l':kU,∀K r,nU l (F K) r ↔ nU l' (xV K) r:=by
  intro l
  induction l with
  | nil=>exact ⟨[],fun K r=>by simp [nU]⟩
  | cons q t ih =>
   obtain ⟨lt,ht⟩:=ih
   cases q with
   | none=>exact ⟨[none],fun K r=>⟨fun h=>(by obtain ⟨p,e,_⟩:=h none (List.mem_cons_self ..);cases e),fun h=>(by obtain ⟨p,e,_⟩:=h none (List.mem_singleton.2 rfl);cases e)⟩⟩
   | some q =>
    obtain ⟨lq,hq⟩:=hF q
    refine ⟨lq++lt,fun K r=>?_⟩
    have h1:=hq K r
    have h2:=ht K r
    constructor
    ·intro ha x hx
     rcases List.mem_append.1 hx with hx | hx
     ·obtain ⟨p,e,hp⟩:=ha _ (List.mem_cons_self ..)
      cases e
      exact h1.1 hp x hx
     ·exact h2.1 (fun y hy=>ha y (List.mem_cons_of_mem _ hy)) x hx
    ·intro ha x hx
     rcases aD.1 hx with rfl | hx
     ·exact ⟨q,rfl,h1.2 fun y hy=>ha y (List.mem_append_left _ hy)⟩
     ·exact h2.2 (fun y hy=>ha y (List.mem_append_right _ hy)) x hx
 obtain ⟨l',hl⟩:=key l
 exact ⟨l',fun K r=>(h K r).trans (hl K r)⟩
def oN (f:St→dj R→Option R):Prop:=∀S,gM (f S)
theorem mS {g:Nat→Option R} (hm:∀n r,g n=some r→g (n+1)=some r) {r:R}:CL g=some r ↔ ∃n,g n=some r:=by
 have up:∀n k r,g n=some r→g (n+k)=some r:=by
  intro n k
  induction k with
  | zero=>exact fun r h=>h
  | succ k ih=>exact fun r h=>hm _ _ (ih r h)
 unfold CL
 constructor
 ·intro h
  split at h
  ·rename_i hx;exact ⟨_,h⟩
  ·cases h
 ·rintro ⟨n,hn⟩
  have hx:∃n r,g n=some r:=⟨n,r,hn⟩
  rw [dif_pos hx]
  obtain ⟨r',vg⟩:=hx.choose_spec
  rw [vg]
  have h1:=up _ n _ vg
  have h2:=up _ hx.choose _ hn
  rw [Nat.add_comm] at h2
  rw [h1] at h2
  exact h2
section
variable {ι:Type} {f:ι→dj R→Option R} {tr:MX→St→Option (Option ι)}
def kC (tr:MX→St→Option (Option ι)) (g:ι→Option R) (K:dj R) (q:MX × St):Option R :=
 match tr q.1 q.2 with
 | none=>K q.1 q.2
 | some none=>none
 | some (some j)=>g j
theorem kf {g g':ι→Option R} {K:dj R} {q:MX × St} {r:R} (h:∀j,g j=some r→g' j=some r) (e:kC tr g K q=some r):kC tr g' K q=some r:=by
 unfold kC at e ⊢
 split at e
 ·exact e
 ·cases e
 ·exact h _ e
theorem mj {K:dj R} {i:ι} {l:kU} (hp:∀(K:dj R) r,f i K=some r ↔ nU l (xV K) r) (n:Nat) (r:R) :
  gY f tr (n+1) i K=some r ↔ nU l (kC tr (fun j=>gY f tr n j K) K) r:=by
 rw [gY,hp]
 rfl
theorem iJ (hf:∀i,gM (f i)) {K:dj R}:∀(n:Nat) (i:ι) (r:R),gY f tr n i K=some r→gY f tr (n+1) i K=some r
 | 0,_,_,h=>by cases h
 | n+1,i,r,h=>by
  obtain ⟨l,hp⟩:=hf i
  rw [mj hp] at h ⊢
  intro q hq
  obtain ⟨p,e,h1⟩:=h q hq
  exact ⟨p,e,kf (fun j hj=>iJ hf n j r hj) h1⟩
theorem mi (hf:∀i,gM (f i)) {K:dj R} {n:Nat} {i:ι} {r:R} (h:gY f tr n i K=some r):∀m,gY f tr (n+m) i K=some r
 | 0=>h
 | m+1=>iJ hf _ i r (mi hf h m)
theorem gS (hf:∀i,gM (f i)) (i:ι) (K:dj R) (r:R):uP f tr i K=some r ↔ ∃n,gY f tr n i K=some r:=mS fun n r=>iJ hf n i r
theorem yp {x y:Option R} (h:∀r,x=some r ↔ y=some r):x=y:=by
 cases x with
 | none=>cases y with
  | none=>rfl
  | some b=>exact absurd ((h b).2 rfl) (by simp)
 | some a=>exact ((h a).1 rfl).symm
theorem oy (hf:∀i,gM (f i)) {K:dj R} {q:MX × St} {r:R}:xV (ni f tr K) q=some r ↔ ∃n,kC tr (fun j=>gY f tr n j K) K q=some r:=by
 unfold xV ni kC
 cases tr q.1 q.2 with
 | none=>exact ⟨fun h=>⟨0,h⟩,fun ⟨_,h⟩=>h⟩
 | some j=>cases j with
  | none=>exact ⟨fun h=>(by cases h),fun ⟨_,h⟩=>(by cases h)⟩
  | some j=>exact gS hf j K r
theorem tt (hf:∀i,gM (f i)) (i:ι) (K:dj R):uP f tr i K=f i (ni f tr K):=by
 obtain ⟨l,hp⟩:=hf i
 refine yp fun r=>?_
 rw [gS hf,hp]
 constructor
 ·rintro ⟨n,hn⟩ q hq
  cases n with
  | zero=>cases hn
  | succ n =>
   obtain ⟨p,e,h1⟩:=(mj hp n r).1 hn q hq
   exact ⟨p,e,(oy hf).2 ⟨n,h1⟩⟩
 ·intro h
  have key:∀l:kU,(∀q∈l,∃p,q=some p∧xV (ni f tr K) p=some r)→∃n,nU l (kC tr (fun j=>gY f tr n j K) K) r:=by
   intro l
   induction l with
   | nil=>exact fun _=>⟨0,fun q hq=>by cases hq⟩
   | cons q t ih =>
    intro h
    obtain ⟨n,hn⟩:=ih fun x hx=>h x (List.mem_cons_of_mem _ hx)
    obtain ⟨p,e,h1⟩:=h q (List.mem_cons_self ..)
    obtain ⟨m,hm⟩:=(oy hf).1 h1
    refine ⟨n+m,fun x hx=>?_⟩
    rcases aD.1 hx with rfl | hx
    ·exact ⟨p,e,kf (fun j hj=>by rw [Nat.add_comm];exact mi hf hj n) hm⟩
    ·obtain ⟨p',e',h2⟩:=hn x hx
     exact ⟨p',e',kf (fun j hj=>mi hf hj m) h2⟩
  obtain ⟨n,hn⟩:=key l h
  exact ⟨n+1,(mj hp n r).2 hn⟩
noncomputable def fX (L:ι→kU) (tr:MX→St→Option (Option ι)):Nat→ι→kU
 | 0,_=>[none]
 | n+1,i=>(L i).flatMap fun q=>match q with
  | none=>[none]
  | some p=>match tr p.1 p.2 with
   | none=>[some p]
   | some none=>[none]
   | some (some j)=>fX L tr n j
theorem qN (hf:∀i,gM (f i)) (i:ι):gM (uP f tr i):=by
 let L:=fun i=>(hf i).choose
 have hL:∀i (K:dj R) r,f i K=some r ↔ nU (L i) (xV K) r:=fun i=>(hf i).choose_spec
 have hI:∀n i (K:dj R) r,gY f tr n i K=some r ↔ nU (fX L tr n i) (xV K) r:=by
  intro n
  induction n with
  | zero=>exact fun i K r=>⟨fun h=>(by cases h),fun h=>by obtain ⟨p,e,_⟩:=h none (List.mem_singleton.2 rfl);cases e⟩
  | succ n ih =>
   intro i K r
   rw [mj (hL i)]
   constructor
   ·intro h q hq
    obtain ⟨x,hx,hq⟩:=List.mem_flatMap.1 hq
    obtain ⟨p,rfl,h1⟩:=h x hx
    simp only at hq
    unfold kC at h1
    cases e:tr p.1 p.2 with
    | none=>rw [e] at h1 hq;exact ⟨p,List.mem_singleton.1 hq,h1⟩
    | some j=>cases j with
     | none=>rw [e] at h1;cases h1
     | some j=>rw [e] at h1 hq;exact (ih j K r).1 h1 q hq
   ·intro h x hx
    have sub:∀q,q∈(match x with
      | none=>[none]
      | some p=>match tr p.1 p.2 with
       | none=>[some p]
       | some none=>[none]
       | some (some j)=>fX L tr n j:kU)→∃p,q=some p∧xV K p=some r:=fun q hq=>h q (List.mem_flatMap.2 ⟨x,hx,hq⟩)
    cases x with
    | none=>obtain ⟨p,e,_⟩:=sub none (List.mem_singleton.2 rfl);cases e
    | some p =>
     refine ⟨p,rfl,?_⟩
     simp only at sub
     unfold kC
     cases e:tr p.1 p.2 with
     | none=>rw [e] at sub;obtain ⟨p',e',h1⟩:=sub _ (List.mem_singleton.2 rfl);cases e';exact h1
     | some j=>cases j with
      | none=>rw [e] at sub;obtain ⟨p',e',_⟩:=sub _ (List.mem_singleton.2 rfl);cases e'
      | some j=>rw [e] at sub;exact (ih j K r).2 sub
 have stay:∀n i,none ∉ fX L tr n i→fX L tr (n+1) i=fX L tr n i:=by
  intro n
  induction n with
  | zero=>intro i h;exact absurd (List.mem_singleton.2 rfl) h
  | succ n ih =>
   intro i h
   rw [fX,fX]
   rw [fX] at h
   have:∀l:kU,none ∉ (l.flatMap fun q=>match q with
     | none=>[none]
     | some p=>match tr p.1 p.2 with
      | none=>[some p]
      | some none=>[none]
      | some (some j)=>fX L tr n j:kU)→(l.flatMap fun q=>match q with
     | none=>[none]
     | some p=>match tr p.1 p.2 with
      | none=>[some p]
      | some none=>[none]
      | some (some j)=>fX L tr (n+1) j:kU)=(l.flatMap fun q=>match q with
     | none=>[none]
     | some p=>match tr p.1 p.2 with
      | none=>[some p]
      | some none=>[none]
      | some (some j)=>fX L tr n j:kU):=by
    intro l
    induction l with
    | nil=>exact fun _=>rfl
    | cons q t Hr =>
     intro h
     rw [List.flatMap_cons,List.mem_append] at h
     rw [List.flatMap_cons,List.flatMap_cons,Hr fun hx=>h (.inr hx)]
     congr 1
     split
     ·rfl
     ·rename_i p
      simp only at h
      split
      ·rfl
      ·rfl
      ·rename_i j e
       rw [e] at h
       exact ih j fun hx=>h (.inl hx)
   exact this _ h
 by_cases hx:∃n,none ∉ fX L tr n i
 ·obtain ⟨n,hn⟩:=hx
  have Hj:∀m,fX L tr (n+m) i=fX L tr n i:=by
   intro m
   induction m with
   | zero=>rfl
   | succ m ih=>rw [←ih];exact stay (n+m) i (by rw [ih];exact hn)
  refine ⟨fX L tr n i,fun K r=>?_⟩
  rw [gS hf,←hI]
  refine ⟨fun ⟨m,hm⟩=>?_,fun h=>⟨n,h⟩⟩
  have h1:=mi hf hm n
  rw [Nat.add_comm,hI,Hj,←hI] at h1
  exact h1
 ·refine ⟨[none],fun K r=>?_⟩
  rw [gS hf]
  refine ⟨fun ⟨n,hn⟩=>?_,fun h=>by obtain ⟨p,e,_⟩:=h none (List.mem_singleton.2 rfl);cases e⟩
  have:none∈fX L tr n i:=Classical.byContradiction fun h=>hx ⟨n,h⟩
  obtain ⟨p,e,_⟩:=(hI n i K r).1 hn none this
  cases e
end
theorem mz {f:St→dj R→Option R} (hf:oN f) (G:GL):∀xs,gM (BG f G xs):=fun xs=>hf (dp G xs)
theorem vX {f:St→dj R→Option R} (hf:oN f) (G:GL) (xs:List TV) (K:dj R):sZ nt f G xs K=f (dp G xs) (pO nt f G K):=tt (mz hf G) xs K
theorem uy {f:St→dj R→Option R} (hf:oN f) (G:GL):oN (mP nt f G):=fun S=>by
 unfold mP
 cases eR nt G S with
 | none=>exact .nil fun K=>rfl
 | some xs=>exact qN (mz hf G) xs
theorem mw {f:Nat→Option (Ev R)} (hf:∀l g,f l=some g→∀h,oN (g h)) (ls:List (Nat × GL)) (a:Hint) (i:Nat × List TV):gM (vb f ls a i):=by
 cases e1:f i.1 with
 | none=>exact .nil fun K=>by simp only [vb,e1]
 | some g =>
  cases e2:mQ i.1 ls with
  | none=>exact .nil fun K=>by simp only [vb,e1,e2]
  | some G =>
   obtain ⟨p,hp⟩:=hf _ g e1 a (dp G i.2)
   exact ⟨p,fun K r=>by simp only [vb,e1,e2];exact hp K r⟩
theorem tY {f:Nat→Option (Ev R)} (hf:∀l g,f l=some g→∀h,oN (g h)) (ls:List (Nat × GL)) (a:Hint) (i:Nat × List TV) (K:dj R):rQ nt f ls a i K=vb f ls a i (fN nt f ls a K):=tt (mw hf ls a) i K
theorem gM.then {g g':dj R→Option R} (hf:gM g) (F:dj R→dj R) (h:∀K,g' K=g (F K)) (hF:∀e S,gM fun K=>F K e S):gM g':=by
 obtain ⟨l,hl⟩:=hf
 exact gM.bind (F:=fun K q=>F K q.1 q.2) (fun q=>hF q.1 q.2) fun K r=>by rw [h];exact hl (F K) r
theorem rR {f:Ev R} {o:Nat→Option (Ev R)} (hf:∀h,oN (f h)) (ho:∀l g,o l=some g→∀h,oN (g h)) (ls:List (Nat × GL)) (a:Hint):oN fun S K=>f a S (fN nt o ls a K):=fun S =>
 (hf a S).then _ (fun K=>rfl) fun e S'=>by
  cases ht:tS nt ls e S' with
  | none=>exact .one e S' fun K=>by simp only [fN,ni,ht]
  | some j =>
   cases j with
   | none=>exact .nil fun K=>by simp only [fN,ni,ht]
   | some j =>
    obtain ⟨p',AW⟩:=qN (mw ho ls a) (tr:=tS nt ls) j
    exact ⟨p',fun K r=>by simp only [fN,ni,ht];exact AW K r⟩
theorem qi {f g:St→dj R→Option R} (hf:oN f) (hg:oN g):oN fun S K=>f S (tX g K):=fun S =>
 (hf S).then _ (fun K=>rfl) fun e S'=>by
  cases e with
  | normal=>exact hg S'
  | _=>exact .one _ S' fun K=>rfl
theorem oi {f g:St→dj R→Option R} (hf:oN f) (hg:oN g) (G:GL):oN fun S K=>f S (lL nt g G K):=fun S =>
 (hf S).then _ (fun K=>rfl) fun e S'=>by
  cases e with
  | normal =>
   cases hr:eR nt G S' with
   | none=>exact .nil fun K=>by simp only [lL,hr]
   | some xs =>
    obtain ⟨p,hp⟩:=hg (dp G xs)
    exact ⟨p,fun K r=>by simp only [lL,hr];exact hp K r⟩
  | _=>exact .one _ S' fun K=>rfl
theorem sA {f:St→dj R→Option R} (hf:oN f) (id:Nat):oN fun S K=>f S (gq id K):=fun S =>
 (hf S).then _ (fun K=>rfl) fun e S'=>by
  cases e with
  | exit j =>
   cases hb:Nat.beq j id with
   | true=>exact .one .normal S' fun K=>by simp only [gq,hb]
   | false=>exact .one (.exit j) S' fun K=>by simp only [gq,hb]
  | _=>exact .one _ S' fun K=>rfl
variable (P:Program) (E:cI)
theorem pI {X:Type} {p:Option Bool} {f:(X→Option R)→Option R} (h:∃q:Option X,∀K,f K=q.bind K):∃q:Option X,∀K,yV p (f K)=q.bind K:=by
 obtain ⟨q,hq⟩:=h
 cases p with
 | none=>exact ⟨q,hq⟩
 | some b=>cases b with
  | true=>exact ⟨q,hq⟩
  | false=>exact ⟨none,fun K=>rfl⟩
theorem ky (ops:Array Oper):∀(os:List Oper) (S:St),∃p:Option St,∀K:St→Option R,rU P E nt ops os S K=p.bind K
 | [],S=>⟨some S,fun K=>rfl⟩
 | o :: os,S=>by
  show ∃p:Option St,∀K:St→Option R,(match ie P E nt ops o S with | some e=>sJ (kW E nt ops o S) o.dst e S (fun S=>rU P E nt ops os S K) | none=>none)=p.bind K
  cases ie P E nt ops o S with
  | none=>exact ⟨none,fun K=>rfl⟩
  | some e =>
   cases kW E nt ops o S with
   | none=>exact pI (ky ops os _)
   | some c =>
    cases c with
    | true=>exact pI (ky ops os _)
    | false =>
     cases o.dst with
     | none=>exact ⟨none,fun K=>rfl⟩
     | some d=>exact ky ops os _
theorem ql (ops:Array Oper) (W B:List (List Nat)):∀(os:List Oper) (i:Nat) (S:St),∃p:Option St,∀K:St→Option R,ud P E nt ops W B i os S K=p.bind K
 | [],_,S=>⟨some S,fun K=>rfl⟩
 | o :: os,i,S=>by
  show ∃p:Option St,∀K:St→Option R,(match ie P E nt ops o (jW (lf W B i) S) with | some e=>da (decide (fE o.dst e=W.getD i [])&&(lf W B i).all fun k=>!((W.getD i []).contains k)) (yV e.p (ud P E nt ops W B (i+1) os (eG S o.dst e) K)) | none=>none)=p.bind K
  cases ie P E nt ops o (jW (lf W B i) S) with
  | none=>exact ⟨none,fun K=>rfl⟩
  | some e =>
   simp only
   generalize (decide (fE o.dst e=W.getD i [])&&(lf W B i).all fun k=>!((W.getD i []).contains k))=b
   cases b with
   | false=>exact ⟨none,fun K=>rfl⟩
   | true=>exact pI (ql ops W B os (i+1) _)
theorem qk (ops:Array Oper) (draw:Bool) (S:St):∃p:Option St,∀K:St→Option R,oX P E nt ops draw S K=p.bind K:=by
 cases draw with
 | false=>exact ky P E ops _ S
 | true =>
  simp only [oX]
  cases mr ops.toList with
  | false=>exact ⟨none,fun K=>rfl⟩
  | true =>
   cases wg P E nt ops ops.toList S with
   | none=>exact ⟨none,fun K=>rfl⟩
   | some W=>exact ql P E ops W _ _ 0 S
theorem jN (c:Code):(∀h,oN (ib (R:=R) P E nt c h))∧∀l g,lY (R:=R) P E nt c l=some g→∀h,oN (g h):=by
 have mg:∀{f:Ev R},∀l g,(dk f).2 l=some g→∀h,oN (g h):=fun l g e=>by cases e
 induction c with
 | skip=>exact ⟨fun h S => .one .normal S fun K=>rfl,mg⟩
 | label l =>
  refine ⟨fun h S => .one .normal S fun K=>rfl,fun l' g e=>?_⟩
  have e:iy l l'=some g:=e
  unfold iy at e
  cases hb:Nat.beq l l' with
  | true=>rw [hb] at e;cases e;exact fun h S => .one .normal S fun K=>rfl
  | false=>rw [hb] at e;cases e
 | exit id=>exact ⟨fun h S => .one (.exit id) S fun K=>rfl,mg⟩
 | goto l=>exact ⟨fun h S => .one (.goto l) S fun K=>rfl,mg⟩
 | ret=>exact ⟨fun h S => .one .ret S fun K=>rfl,mg⟩
 | region id ops draw =>
  refine ⟨fun h S=>?_,mg⟩
  obtain ⟨p,hp⟩:=qk (R:=R) P E (nt:=nt) ops draw S
  cases p with
  | none=>exact .nil fun K=>hp _
  | some S'=>exact .one .normal S' fun K=>hp _
 | seq a b r9 pR =>
  refine ⟨fun h=>?_,fun l g e=>?_⟩
  ·cases h <;> first | exact qi (r9.1 _) (pR.1 _) | exact oi (r9.1 _) (pR.1 _) _
  ·have e:nJ nt (lY P E nt a) (lY P E nt b) (ib P E nt b) (ib P E nt b) l=some g:=e
   unfold nJ at e
   split at e
   ·rename_i ga ea
    cases e
    intro h
    cases h <;> first | exact qi (r9.2 l ga ea _) (pR.1 _) | exact oi (r9.2 l ga ea _) (pR.1 _) _
   ·split at e
    ·rename_i gb eb;cases e;exact fun h=>pR.2 l gb eb _
    ·cases e
 | cond x a b r9 pR =>
  refine ⟨fun h S=>?_,mg⟩
  obtain ⟨p,hp⟩:=r9.1 h.s1 S
  obtain ⟨p',AW⟩:=pR.1 h.s2 S
  have two:gM (R:=R) fun K=>both (ib P E nt a h.s1 S K) (ib P E nt b h.s2 S K):=by
   refine ⟨p++p',fun K r=>?_⟩
   rw [lC,hp,AW]
   refine ⟨fun ⟨h1,h2⟩ q hq=>(List.mem_append.1 hq).elim (h1 q) (h2 q),fun h=>⟨fun q hq=>h q (List.mem_append_left _ hq),fun q hq=>h q (List.mem_append_right _ hq)⟩⟩
  show gM fun K:dj R=>(match dQ E nt S 0 x with | some (.b t,.no)=>cond t (ib P E nt a h.s1 S K) (ib P E nt b h.s2 S K) | some (.ub e,.no)=>cond e (both (ib P E nt a h.s1 S K) (ib P E nt b h.s2 S K)) (ib P E nt b h.s2 S K) | _=>none)
  split
  ·rename_i t _
   cases t with
   | true=>exact ⟨p,hp⟩
   | false=>exact ⟨p',AW⟩
  ·rename_i t _
   cases t with
   | true=>exact two
   | false=>exact ⟨p',AW⟩
  ·exact .nil fun K=>rfl
 | block id a ih=>exact ⟨fun h=>sA (ih.1 _) id,mg⟩
 | loop a ih =>
  refine ⟨fun h=>?_,mg⟩
  cases h <;> first | exact uy (ih.1 _) _ | exact fun S => .nil fun K=>rfl
 | rangeFunc _ _ _ _ _ _=>exact ⟨fun h S => .nil fun K=>rfl,mg⟩
 | scope a ih =>
  refine ⟨fun h=>?_,mg⟩
  cases h <;> first | exact rR ih.1 ih.2 _ _ | exact fun S => .nil fun K=>rfl
 | refuse _=>exact ⟨fun h S => .nil fun K=>rfl,mg⟩
theorem yS (c:Code) (h:Hint) (G:GL) (xs:List TV) (K:dj R):sZ nt (ib P E nt c h) G xs K=ev P E nt c h (dp G xs) (pO nt (ib P E nt c h) G K):=by
 rw [vX ((jN P E c).1 h),tA]
theorem wM (c:Code) (ls:List (Nat × GL)) (a:Hint) (i:Nat × List TV) (K:dj R):rQ nt (lY P E nt c) ls a i K=vb (wN P E nt c).2 ls a i (fN nt (lY P E nt c) ls a K):=by
 rw [tY (jN P E c).2,←wO];rfl
end
end Go.Eng
namespace Go.Eng
open Go.RowKit
def xY:MX→Exit
 | .normal => .normal
 | .exit id => .exit id
 | .goto l => .goto l
 | .ret => .ret
section
variable {C:Ctx} {R:Type}
theorem lF.eR {S:St} {a:Act} {w:World} {G:GL} {xs:List TV} (h:lF C S a w) (he:eR C.nt G S=some xs):lF C (dp G xs) a w:=by
 obtain ⟨R,τ,h⟩:=h
 obtain ⟨R',τ',h',_⟩:=jl h he
 exact ⟨R',_,h'⟩
theorem nI {P:Program} {a:Act} {w:World} {Q:Exit→Act→World→Prop} {c:Code} (I:Nat→Nat→Act→World→Prop)
  (first:c.wp P (fun e a w=>match e with | .goto l=>∃n,I n l a w | e=>Q e a w) a w)
  (pass:∀n l a w,I n l a w→∃rest,findLabel c l=some rest∧rest.wp P (fun e a' w'=>match e with | .goto l'=>∃m,m<n∧I m l' a' w' | e=>Q e a' w') a w) :
  (Code.scope c).wp P Q a w:=by
 intro b k cs
 have key:∀n l a w,I n l a w→∀rest,findLabel c l=some rest→∃e a' w',Q e a' w'∧Arrives P (lone (b.at a (.code rest :: .inScope c :: k)) cs w) b k cs e a' w':=by
  intro n
  induction n using Nat.strongRecOn with
  | _ n ih =>
   intro l a w hI rest hf
   obtain ⟨Ga,A5,hp⟩:=pass n l a w hI
   rw [hf] at A5
   cases A5
   obtain ⟨e,ko,jZ,hq,lr⟩:=hp b (.inScope c :: k) cs
   cases e with
   | normal=>exact ⟨.normal,ko,jZ,hq,Steps.trans lr (.one step_inScope)⟩
   | exit id=>exact ⟨.exit id,ko,jZ,hq,fun k' hk=>lr k' (by simp [exitTo,hk])⟩
   | goto l' =>
    obtain ⟨m,eJ,hJ⟩:=hq
    obtain ⟨qm,C8,_⟩:=pass m l' ko jZ hJ
    have hg:gotoIn l' (.inScope c :: k)=some (.code qm :: .inScope c :: k):=by simp [gotoIn,C8]
    obtain ⟨Bi,BE,z8,wv,pr⟩:=ih m eJ l' ko jZ hJ qm C8
    exact ⟨Bi,BE,z8,wv,.of_steps (lr _ hg) pr⟩
   | ret=>exact ⟨_,ko,jZ,hq,lr⟩
   | panic ch=>exact ⟨_,ko,jZ,hq,lr⟩
   | outgrown=>exact ⟨_,ko,jZ,hq,lr⟩
 obtain ⟨e,ko,jZ,hq,lr⟩:=first b (.inScope c :: k) cs
 cases e with
 | normal=>exact ⟨.normal,ko,jZ,hq,.head step_scope (Steps.trans lr (.one step_inScope))⟩
 | exit id=>exact ⟨.exit id,ko,jZ,hq,fun k' hk => .head step_scope (lr k' (by simp [exitTo,hk]))⟩
 | goto l' =>
  obtain ⟨m,hJ⟩:=hq
  obtain ⟨qm,C8,_⟩:=pass m l' ko jZ hJ
  have hg:gotoIn l' (.inScope c :: k)=some (.code qm :: .inScope c :: k):=by simp [gotoIn,C8]
  obtain ⟨Bi,BE,z8,wv,pr⟩:=key m l' ko jZ hJ qm C8
  exact ⟨Bi,BE,z8,wv,.of_steps (.head step_scope (lr _ hg)) pr⟩
 | ret=>exact ⟨_,ko,jZ,hq,.of_steps (.one step_scope) lr⟩
 | panic ch=>exact ⟨_,ko,jZ,hq,.of_steps (.one step_scope) lr⟩
 | outgrown=>exact ⟨_,ko,jZ,hq,.of_steps (.one step_scope) lr⟩
def rA (C:Ctx) (R:Type) (c:Code) (g:Ev R):Prop:=∀{h:Hint} {S:St} {a:Act} {w:World} {K:dj R} {r:R} {Q:Exit→Act→World→Prop},lF C S a w→g h S K=some r →
  (∀e S' a' w',lF C S' a' w'→K e S'=some r→Q (xY e) a' w')→c.wp C.P Q a w
theorem rA.seq {x y:Code} {g:Ev R} {o:Ev R} (hx:rA C R x g) (hy:rA C R y o):rA C R (.seq x y) (vL C.nt g o o):=by
 intro h S a w K r Q hs he hQ
 have plain:∀{h1 h2:Hint},g h1 S (tX (o h2) K)=some r→(Code.seq x y).wp C.P Q a w:=fun he=>by
  refine wp_seq (hx hs he fun e S' a' w' h' hk=>?_)
  cases e with
  | normal=>exact hy h' hk hQ
  | exit id=>exact hQ (.exit id) S' a' w' h' hk
  | goto l=>exact hQ (.goto l) S' a' w' h' hk
  | ret=>exact hQ .ret S' a' w' h' hk
 cases h <;> first | exact plain he | skip
 rename_i G h1 h2
 have he:g h1 S (lL C.nt (o h2) G K)=some r:=he
 refine wp_seq (hx hs he fun e S' a' w' h' hk=>?_)
 cases e with
 | normal =>
  simp only [lL] at hk
  split at hk
  ·rename_i xs hr
   exact hy (h'.eR hr) hk hQ
  ·cases hk
 | exit id=>exact hQ (.exit id) S' a' w' h' hk
 | goto l=>exact hQ (.goto l) S' a' w' h' hk
 | ret=>exact hQ .ret S' a' w' h' hk
theorem Bk (hE:fc C.P C.E) (hF:∀f,bD C.P C.gl f (C.E.fs f)) (c:Code):rA C R c (ib C.P C.E C.nt c)∧(∀l g,lY (R:=R) C.P C.E C.nt c l=some g→∃rest,findLabel c l=some rest∧rA C R rest g)∧∀l,lY (R:=R) C.P C.E C.nt c l=none→findLabel c l=none:=by
 have mg:∀{f:Ev R} {c:Code},∀l g,(dk f).2 l=some g→∃rest,findLabel c l=some rest∧rA C R rest g:=fun l g e=>by cases e
 induction c with
 | skip=>exact ⟨fun hs he hQ=>wp_skip (hQ .normal _ _ _ hs he),mg,fun _ _=>rfl⟩
 | label l =>
  refine ⟨fun hs he hQ=>wp_label (hQ .normal _ _ _ hs he),fun l' g e=>?_,fun l' e=>?_⟩
  ·have e:iy l l'=some g:=e
   unfold iy at e
   cases hb:Nat.beq l l' with
   | true =>
    rw [hb] at e;cases e
    exact ⟨.skip,by rw [aj hb];simp [findLabel],fun hs he hQ=>wp_skip (hQ .normal _ _ _ hs he)⟩
   | false=>rw [hb] at e;cases e
  ·have e:iy (R:=R) l l'=none:=e
   unfold iy at e
   cases hb:Nat.beq l l' with
   | true=>rw [hb] at e;cases e
   | false =>
    have:¬l=l':=fun e=>by rw [e] at hb;simp at hb
    simp [findLabel,this]
 | exit id=>exact ⟨fun hs he hQ=>wp_exit (hQ (.exit id) _ _ _ hs he),mg,fun _ _=>rfl⟩
 | goto l=>exact ⟨fun hs he hQ=>wp_goto (hQ (.goto l) _ _ _ hs he),mg,fun _ _=>rfl⟩
 | ret=>exact ⟨fun hs he hQ=>wp_ret (hQ .ret _ _ _ hs he),mg,fun _ _=>rfl⟩
 | region id ops draw=>exact ⟨fun hs he hQ=>uh hE hF hs he fun S' a' w' h' hk=>hQ .normal S' a' w' h' hk,mg,fun _ _=>rfl⟩
 | seq x y AM zD =>
  refine ⟨rA.seq AM.1 zD.1,fun l g e=>?_,fun l e=>?_⟩
  ·have e:nJ C.nt (lY C.P C.E C.nt x) (lY C.P C.E C.nt y) (ib C.P C.E C.nt y) (ib C.P C.E C.nt y) l=some g:=e
   unfold nJ at e
   split at e
   ·rename_i gx ex
    cases e
    obtain ⟨rest,hr,hd⟩:=AM.2.1 l gx ex
    exact ⟨.seq rest y,by simp [findLabel,hr],hd.seq zD.1⟩
   ·rename_i ex
    split at e
    ·rename_i gy ey
     cases e
     obtain ⟨rest,hr,hd⟩:=zD.2.1 l gy ey
     exact ⟨rest,by simp [findLabel,AM.2.2 l ex,hr],fun hs he hQ=>hd hs he hQ⟩
    ·cases e
  ·have e:nJ C.nt (lY C.P C.E C.nt x) (lY C.P C.E C.nt y) (ib C.P C.E C.nt y) (ib C.P C.E C.nt y) l=none:=e
   unfold nJ at e
   split at e
   ·cases e
   ·rename_i ex
    split at e
    ·cases e
    ·rename_i ey;simp [findLabel,AM.2.2 l ex,zD.2.2 l ey]
 | cond o x y AM zD =>
  refine ⟨?_,mg,fun _ _=>rfl⟩
  intro h S a w K r Q hs he hQ
  have he:(match dQ C.E C.nt S 0 o with | some (.b t,.no)=>cond t (ib C.P C.E C.nt x h.s1 S K) (ib C.P C.E C.nt y h.s2 S K) | some (.ub e,.no)=>cond e (both (ib C.P C.E C.nt x h.s1 S K) (ib C.P C.E C.nt y h.s2 S K)) (ib C.P C.E C.nt y h.s2 S K) | _=>none)=some r:=he
  split at he
  ·rename_i t ho
   have EV:=hs
   obtain ⟨R0,τ,h0⟩:=EV
   have hv:=(cR h0 (Lt.refl S) ho).dA rfl
   refine wp_cond_split hv (fun e=>?_) (fun e=>?_)
   ·subst e;exact AM.1 hs he hQ
   ·subst e;exact zD.1 hs he hQ
  ·rename_i e ho
   have EV:=hs
   obtain ⟨R0,τ,h0⟩:=EV
   obtain ⟨b,hv,hb⟩:∃b,a.eval o = .bool b∧(b=true→e=true):=by
    have hv:=cR h0 (Lt.refl S) ho
    generalize a.eval o=v at hv
    cases hv with
    | sc h=>cases h
    | ub h=>exact ⟨_,rfl,h⟩
   refine wp_cond_split hv (fun e1=>?_) (fun e1=>?_)
   ·rw [hb e1] at he
    exact AM.1 hs (lC.1 he).1 hQ
   ·cases e with
    | false=>exact zD.1 hs he hQ
    | true=>exact zD.1 hs (lC.1 he).2 hQ
  ·cases he
 | block id x ih =>
  refine ⟨?_,mg,fun _ _=>rfl⟩
  intro h S a w K r Q hs he hQ
  have he:ib C.P C.E C.nt x h.s1 S (gq id K)=some r:=he
  refine wp_block (ih.1 hs he fun e S' a' w' h' hk=>?_)
  cases e with
  | normal=>exact hQ .normal S' a' w' h' hk
  | exit j =>
   simp only [gq] at hk
   cases hb:Nat.beq j id with
   | true =>
    rw [hb] at hk
    have:=aj hb
    simp only [xY,Exit.inBlock,this,if_true]
    exact hQ .normal S' a' w' h' hk
   | false =>
    rw [hb] at hk
    have:j≠id:=fun e=>by rw [e] at hb;simp at hb
    simp only [xY,Exit.inBlock,this,if_false]
    exact hQ (.exit j) S' a' w' h' hk
  | goto l=>exact hQ (.goto l) S' a' w' h' hk
  | ret=>exact hQ .ret S' a' w' h' hk
 | loop x ih =>
  refine ⟨?_,mg,fun _ _=>rfl⟩
  intro h S a w K r Q hs he hQ
  cases h <;> try (cases he;done)
  rename_i G h1
  have he:mP C.nt (ib C.P C.E C.nt x h1) G S K=some r:=he
  unfold mP at he
  split at he
  ·rename_i xs hr
   obtain ⟨n,hn⟩:=(mS (fun n r=>iJ (mz ((jN C.P C.E x).1 h1) G) (tr:=Af C.nt G) n xs r)).1 he
   refine wp_loop_ghost (fun n a w=>∃xs,lF C (dp G xs) a w∧gY (BG (ib C.P C.E C.nt x h1) G) (Af C.nt G) n xs K=some r) n ⟨xs,hs.eR hr,hn⟩ ?_
   rintro n a w ⟨xs,hs,hn⟩
   cases n with
   | zero=>cases hn
   | succ n =>
    rw [gY] at hn
    refine ih.1 hs hn fun e S' a' w' h' hk=>?_
    cases e with
    | normal =>
     simp only [Af] at hk
     split at hk
     ·rename_i e;cases e
     ·cases hk
     ·rename_i ys hr
      cases vg:eR C.nt G S' with
      | none=>rw [vg] at hr;cases hr
      | some zs =>
       rw [vg] at hr;cases hr
       exact ⟨n,Nat.lt_succ_self n,_,h'.eR vg,hk⟩
    | exit id=>exact hQ (.exit id) S' a' w' h' hk
    | goto l=>exact hQ (.goto l) S' a' w' h' hk
    | ret=>exact hQ .ret S' a' w' h' hk
  ·cases he
 | rangeFunc _ _ _ _ _ _=>exact ⟨fun _ he=>(by cases he),mg,fun _ _=>rfl⟩
 | scope x ih =>
  refine ⟨?_,mg,fun _ _=>rfl⟩
  intro h S a w K r Q hs he hQ
  cases h <;> try (cases he;done)
  rename_i ls h1
  have he:ib C.P C.E C.nt x h1 S (fN C.nt (lY C.P C.E C.nt x) ls h1 K)=some r:=he
  let F:=lY (R:=R) C.P C.E C.nt x
  have hm:=fun i=>fun n r=>iJ (mw (f:=F) (jN C.P C.E x).2 ls h1) (tr:=tS C.nt ls) (K:=K) n i r
  have go:∀{S' a' w'} l,lF C S' a' w'→∀j,tS C.nt ls (.goto l) S'=some (some j)→j.1=l∧∃G,mQ l ls=some G∧lF C (dp G j.2) a' w':=by
   intro S' a' w' l h' j hj
   simp only [tS] at hj
   split at hj
   ·rename_i G hl
    cases hr:eR C.nt G S' with
    | none=>rw [hr] at hj;cases hj
    | some ys=>rw [hr] at hj;cases hj;exact ⟨rfl,G,hl,h'.eR hr⟩
   ·cases hj
  refine nI (fun n l a w=>∃xs G,mQ l ls=some G∧lF C (dp G xs) a w∧gY (vb F ls h1) (tS C.nt ls) n (l,xs) K=some r) ?_ ?_
  ·refine ih.1 hs he fun e S' a' w' h' hk=>?_
   cases e with
   | goto l =>
    simp only [fN,ni] at hk
    split at hk
    ·rename_i e;simp [tS] at e
    ·cases hk
    ·rename_i j hj
     obtain ⟨e1,G,hG,hS⟩:=go l h' j hj
     obtain ⟨n,hn⟩:=(mS (hm j)).1 hk
     exact ⟨n,j.2,G,hG,hS,by rw [←e1];exact hn⟩
   | normal=>exact hQ .normal S' a' w' h' hk
   | exit id=>exact hQ (.exit id) S' a' w' h' hk
   | ret=>exact hQ .ret S' a' w' h' hk
  ·rintro n l a w ⟨xs,G,hG,hS,hn⟩
   cases n with
   | zero=>cases hn
   | succ n =>
    rw [gY] at hn
    simp only [vb,hG] at hn
    cases hF:F l with
    | none=>rw [hF] at hn;cases hn
    | some g =>
     rw [hF] at hn
     obtain ⟨rest,hr,hd⟩:=ih.2.1 l g hF
     refine ⟨rest,hr,hd hS hn fun e S' a' w' h' hk=>?_⟩
     cases e with
     | goto l' =>
      split at hk
      ·rename_i e;simp [tS] at e
      ·cases hk
      ·rename_i j hj
       obtain ⟨e1,G',Ih,se⟩:=go l' h' j hj
       exact ⟨n,Nat.lt_succ_self n,j.2,G',Ih,se,by rw [←e1];exact hk⟩
     | normal=>exact hQ .normal S' a' w' h' hk
     | exit id=>exact hQ (.exit id) S' a' w' h' hk
     | ret=>exact hQ .ret S' a' w' h' hk
 | refuse _=>exact ⟨fun _ he=>(by cases he),mg,fun _ _=>rfl⟩
theorem sk (hE:fc C.P C.E) (hF:∀f,bD C.P C.gl f (C.E.fs f)) (c:Code):∀{h:Hint} {S:St} {a:Act} {w:World} {K:dj R} {r:R} {Q:Exit→Act→World→Prop},lF C S a w→ib C.P C.E C.nt c h S K=some r →
  (∀e S' a' w',lF C S' a' w'→K e S'=some r→Q (xY e) a' w')→c.wp C.P Q a w:=fun hs he hQ=>(Bk hE hF c).1 hs he hQ
end
end Go.Eng
namespace Go.Eng
open Go.RowKit
def fG (xs:List Value) (k:Nat):Value:=if k<1000000 then xs.getD k undef else xs.getD (k - 1000000) undef
theorem na {n:Nat} {ms:List Md} {iB:List TV} {k:Nat} (h:k<n):wk n ms iB k=match ms.getD k .pl with | .pl=>(iB.getD k .dead,.no) | .rf=>(.pt,.ptr (1000000+k) 0) | _=>(.pt,.cT (1000000+k)):=by
 have:Nat.blt k n=true:=Nat.ble_eq_true_of_le h
 unfold wk
 simp only [this,ao]
 rfl
theorem nc {n:Nat} {ms:List Md} {iB:List TV} {k:Nat} (hn:n≤1000000) (h:k<n):wk n ms iB (1000000+k)=match ms.getD k .pl with | .pl=>(.dead,.no) | .rf=>(iB.getD k .dead,.cl []) | _=>(iB.getD k .dead,.pv):=by
 have h1:Nat.blt (1000000+k) n=false:=by
  cases hb:Nat.blt (1000000+k) n with
  | false=>rfl
  | true=>exact absurd (Nat.le_of_ble_eq_true hb:1000000+k+1≤n) (by omega)
 have h2:Nat.ble 1000000 (1000000+k)=true:=Nat.ble_eq_true_of_le (by omega)
 have h3:Nat.blt (1000000+k) (1000000+n)=true:=Nat.ble_eq_true_of_le (by omega)
 unfold wk
 simp only [h1,h2,h3,ao,af,bc,Nat.add_sub_cancel_left]
 rfl
theorem kH {n:Nat} {ms:List Md} {iB:List TV} {k:Nat} (h1:n≤k) (h2:k<1000000∨1000000+n≤k):wk n ms iB k=(.dead,.no):=by
 have e1:Nat.blt k n=false:=by
  cases hb:Nat.blt k n with
  | false=>rfl
  | true=>exact absurd (Nat.le_of_ble_eq_true hb:k+1≤n) (by omega)
 have e2:(Nat.ble 1000000 k&&Nat.blt k (1000000+n))=false:=by
  cases hb:(Nat.ble 1000000 k&&Nat.blt k (1000000+n)) with
  | false=>rfl
  | true =>
   simp only [ae] at hb
   have a:=Nat.le_of_ble_eq_true hb.1
   have b:k+1≤1000000+n:=Nat.le_of_ble_eq_true hb.2
   omega
 unfold wk
 simp only [e1,e2,af]
theorem jw {n:Nat} (hn:n≤1000000) (k:Nat):k<n∨(∃j,j<n∧k=1000000+j)∨(n≤k∧(k<1000000∨1000000+n≤k)):=by
 by_cases h1:k<n
 ·exact .inl h1
 ·by_cases h2:k<1000000∨1000000+n≤k
  ·exact .inr (.inr ⟨by omega,h2⟩)
  ·exact .inr (.inl ⟨k - 1000000,by omega,by omega⟩)
theorem rm {P:Program} {E:cI} {gl:Nat→Option (List Value)} {nt:Nat} {w:World} {R:Reach} {ins:List TV} {xs:List Value} {ms:List Md} (hn:xs.length≤nt) (xJ:nt≤1000000) (hR:∀b o,R b o→b<w.heap.size) (qK:GlOK gl R w) (ha:pQ R w ms ins xs) (hs:BR (· ≠ .pl) ms xs) :
  cG ⟨P,E,nt,w,R,pj ms xs,fG xs,gl⟩ (wk xs.length ms ins) { tmps:=(⟨xs⟩:Array Value)++Array.replicate (nt - xs.length) undef,defers:=[] } w R (fG xs):=by
 have hx:xs.length≤1000000:=Nat.le_trans hn xJ
 have arg:∀k,k<xs.length→tM R w (ms.getD k .pl) (ins.getD k .dead) (xs.getD k undef):=fun k hk=>by
  have h1:xs[k]?=some xs[k]:=ah hk
  have h2:ins[k]?=some (ins[k]'(by rw [ha.1];exact hk)):=ah _
  have:=ha.2 k _ _ h2 h1
  rw [ai,ai,ai,h1,h2] at *
  simpa using this
 have t1:∀k,k<xs.length→fG xs k=xs.getD k undef:=fun k hk=>by unfold fG;rw [ar (by omega)]
 have t2:∀k,fG xs (1000000+k)=xs.getD k undef:=fun k=>by unfold fG;rw [ak (by omega),Nat.add_sub_cancel_left]
 have own:∀k,(wk xs.length ms ins k).2.own=true→∃j,j<xs.length∧k=1000000+j∧ms.getD j .pl ≠ .pl:=fun k ho=>by
  rcases jw hx k with h | ⟨j,hj,rfl⟩ | ⟨h1,h2⟩
  ·rw [na h] at ho
   cases hm:ms.getD k .pl <;> rw [hm] at ho <;> cases ho
  ·refine ⟨j,hj,rfl,fun hm=>?_⟩
   rw [nc hx hj,hm] at ho;cases ho
  ·rw [kH h1 h2] at ho;cases ho
 have val:∀k,k<xs.length→xs[k]?=some (xs.getD k undef):=fun k hk=>by rw [ai,ah hk];rfl
 refine ⟨by simp;omega,rfl,⟨fun k=>?_,fun k k' g hb fJ=>?_,fun k g hb=>?_,fun j k hk=>?_,hR,fun k hk=>?_,fun k d hk=>?_⟩,fun t ht=>?_,⟨xJ,fun k _=>rfl⟩,Ext.refl _ _ _,qK⟩
 ·rcases jw hx k with h | ⟨j,hj,rfl⟩ | ⟨h1,h2⟩
  ·have hA:=arg k h
   rw [na h,t1 k h]
   cases hm:ms.getD k .pl <;> rw [hm] at hA
   ·exact cz.no (τ:=fG xs) hA
   ·obtain ⟨b,cs,e,zs,e1,_⟩:=hA
    exact ⟨b,by rw [t2,e1],e1⟩
   all_goals exact ⟨(t2 k).symm,cV.one hA⟩
  ·have hA:=arg j hj
   rw [nc hx hj,t2]
   cases hm:ms.getD j .pl <;> rw [hm] at hA
   ·exact cz.no (τ:=fG xs) (.dead _)
   ·obtain ⟨b,cs,e,zs,e1,e2,e3,e4,e5,e6⟩:=hA
    exact ⟨b,cs,e,zs,e1,e2,e3,e4,by simp,e6⟩
   all_goals exact hA
  ·rw [kH h1 h2];exact cz.no (τ:=fG xs) (.dead _)
 ·obtain ⟨o1,b1⟩:=cZ hb
  obtain ⟨o2,b2⟩:=cZ fJ
  obtain ⟨j,hj,rfl,m1⟩:=own k o1
  obtain ⟨j',lV,rfl,m2⟩:=own k' o2
  rw [t2] at b1 b2
  rw [hs j j' _ _ g m1 m2 (val j hj) (val j' lV) b1 b2]
 ·obtain ⟨o1,b1⟩:=cZ hb
  obtain ⟨j,hj,rfl,m1⟩:=own k o1
  rw [t2] at b1
  exact .inl ⟨j,_,m1,val j hj,b1⟩
 ·rcases jw hx j with h | ⟨i,hi,rfl⟩ | ⟨h1,h2⟩
  ·rw [na h] at hk
   have key:ms.getD j .pl ≠ .pl→k=1000000+j→nt≤k∧(wk xs.length ms ins k).2 ≠ .no:=fun hm e=>by
    subst e
    refine ⟨by omega,?_⟩
    rw [nc hx h]
    cases yK:ms.getD j .pl <;> first | exact (hm yK).elim | simp
   cases hm:ms.getD j .pl <;> rw [hm] at hk key <;> simp only [Gh.bP,List.mem_singleton,List.not_mem_nil] at hk
   all_goals exact key (by simp) hk
  ·rw [nc hx hi] at hk
   cases hm:ms.getD i .pl <;> rw [hm] at hk <;> simp [Gh.bP] at hk
  ·rw [kH h1 h2] at hk;cases hk
 ·rcases jw hx k with h | ⟨j,hj,rfl⟩ | ⟨h1,h2⟩
  ·rw [na h];cases ms.getD k .pl <;> rfl
  ·have:1000000+j<nt:=hk
   omega
  ·rw [kH h1 h2];rfl
 ·rcases jw hx k with h | ⟨j,hj,rfl⟩ | ⟨h1,h2⟩
  ·rw [na h] at hk;cases hm:ms.getD k .pl <;> rw [hm] at hk <;> cases hk
  ·rw [nc hx hj] at hk;cases hm:ms.getD j .pl <;> rw [hm] at hk <;> cases hk
  ·rw [kH h1 h2] at hk;cases hk
 ·have ht:t<nt:=ht
  unfold fG
  rw [ar (by omega)]
  simp only [Array.getD_eq_getD_getElem?,Array.getElem?_append,List.size_toArray]
  by_cases h:t<xs.length
  ·simp [h,ai]
  ·have ET:t - xs.length<nt - xs.length:=by omega
   rw [ak h,ai,List.getElem?_eq_none (by omega)]
   simp [ET]
end Go.Eng
namespace Go.Eng
open Go.RowKit
def o0 (tmps:Array Value):ResultVar→Sem Value
 | .tmp t=>pure (tmps.getD t undef)
 | .cell a t=>do loadVar t (←asAddr (tmps.getD a undef))
theorem ig {P:Program} {w:World} {fn:Func} {tmps:Array Value} {vs:List Value} (h:(fn.results.toList.mapM (o0 tmps)).run P w = .ok vs w) :
  (results fn tmps).run P w = .ok (if vs.length=1 then vs.headD undef else .tuple ⟨vs⟩) w:=by
 have e:results fn tmps=(do
   let vs ←fn.results.mapM (o0 tmps)
   pure (if h:vs.size=1 then vs[0] else .tuple vs)):=by
  unfold results
  congr 2
 rw [e,Array.mapM_eq_mapM_toList]
 simp only [Sem.run_bind,Sem.run_map,h,Result.andThen_ok,Sem.run_pure]
 match vs with
 | []=>simp
 | [x]=>simp
 | _ :: _ :: _=>simp
section
variable {C:Ctx} {a:Act} {w:World} {τ:Nat→Value}
theorem iL {own:List Nat}:∀{rs:List ResultVar} {i:Nat} {S S':St} {xs:List TV} {R:Reach},cG C S a w R τ→jB C.P C.nt own i rs S=some (xs,S') →
  ∃R' vs,cG C S' a w R' τ∧cH R w R' w∧(rs.mapM (o0 a.tmps)).run C.P w = .ok vs w∧xs.length=rs.length∧vs.length=rs.length ∧
   ∀(q:Nat) (r:ResultVar) (x:TV) (v:Value),rs[q]?=some r→xs[q]?=some x→vs[q]?=some v→match r with | .tmp t=>v=a.tmps.getD t undef | .cell _ _=>Rep R' w x v∧(i+q) ∉ own
 | [],i,S,S',xs,R,h,he=>by
  cases he
  exact ⟨R,[],h,cH.refl _ _,rfl,rfl,rfl,by simp⟩
 | .tmp t :: rs,i,S,S',xs,R,h,he=>by
  simp only [jB] at he
  split at he
  ·rename_i xE IA h1
   cases he
   obtain ⟨R',vs,k1,k2,k3,k4,k5,k6⟩:=iL h h1
   refine ⟨R',a.tmps.getD t undef :: vs,k1,k2,?_,by simp [k4],by simp [k5],fun q r x v hr hx hv=>?_⟩
   ·simp only [List.mapM_cons,o0,Sem.run_bind,Sem.run_pure,Result.andThen_ok,k3]
   ·cases q with
    | zero=>cases hr;cases hv;rfl
    | succ q =>
     have:=k6 q r x v (by simpa using hr) (by simpa using hx) (by simpa using hv)
     rwa [show i+1+q=i+(q+1) by omega] at this
  ·cases he
 | .cell b t :: rs,i,S,S',xs,R,h,he=>by
  simp only [jB] at he
  obtain ⟨h0,he⟩:=bt.1 he
  simp only [ae,Bool.not_eq_true'] at h0
  have hb:b<C.nt:=Nat.le_of_ble_eq_true h0.1
  split at he
  ·rename_i m o n agg hS hs
   obtain ⟨h1,he⟩:=bt.1 he
   have h1:agg=true∨n=1:=by
    rcases Bool.or_eq_true _ _ ▸ h1 with h | h
    ·exact .inl h
    ·exact .inr (aj h)
   split at he
   ·rename_i cs ts hm
    split at he
    ·rename_i pG ws hf
     split at he
     ·rename_i x hp
      split at he
      ·rename_i xE IA EY
       cases he
       obtain ⟨bb,ys,e,c1,c2,c3,c4,c5,c6,_⟩:=gW h (Lt.refl S) hm
       obtain ⟨R1,f1,f2,f3,f4,_⟩:=gZ h.core (Lt.refl S).q c3 (fun t ht=>⟨(c6 t ht).1,c4 t ht⟩) hf
       have rF:=iO h hb
       rw [hS] at rF
       obtain ⟨b',p1,hv⟩:∃b',τ m = .pointer (some ⟨b',0,none⟩)∧a.tmps.getD b undef = .pointer (some ⟨b',o,none⟩):=rF
       rw [c1] at p1;cases p1
       obtain ⟨inf,hi,rfl,ha⟩:=dU hs
       obtain ⟨hlen,fh⟩:=jq f3 hp h1
       have hc:∀j y,((ys.drop o).take inf.size)[j]?=some y→w.cell? ⟨bb,o+j,none⟩=some y:=fun j y hj=>by
        rw [aF] at hj
        split at hj
        ·rw [List.getElem?_drop] at hj
         simp only [World.cell?,c2];simpa using hj
        ·cases hj
       obtain ⟨R2,vs,k1,k2,k3,k4,k5,k6⟩:=iL (h.fz f1 f2) EY
       refine ⟨R2,(if agg then .agg ⟨(ys.drop o).take inf.size⟩ else ((ys.drop o).take inf.size).headD undef) :: vs,k1,f2.1.trans k2,?_,by simp [k4],by simp [k5],fun q r x' v hr hx oj=>?_⟩
       ·simp only [List.mapM_cons,o0,hv,asAddr,Sem.run_bind,Sem.run_pure,Result.andThen_ok,eT hi ha h1 hlen hc,k3]
       ·cases q with
        | zero =>
         cases hr;cases hx;cases oj
         exact ⟨(o9 fh).mono k2,by simpa using h0.2⟩
        | succ q =>
         have:=k6 q r x' v (by simpa using hr) (by simpa using hx) (by simpa using oj)
         rwa [show i+1+q=i+(q+1) by omega] at this
      ·cases he
     ·cases he
    ·cases he
   ·cases he
  ·cases he
end
theorem dW.of {R:Reach} {w:World}:∀{xs:List TV} {ys:List Value},xs.length=ys.length→(∀(i:Nat) (x:TV) (y:Value),xs[i]?=some x→ys[i]?=some y→Rep R w x y)→dW R w xs ys
 | [],[],_,_ => .nil
 | x :: xs,y :: ys,h,k => .cons (k 0 x y rfl rfl) (dW.of (by simpa using h) fun i a b ha hb=>k (i+1) a b (by simpa using ha) (by simpa using hb))
 | [],_ :: _,h,_=>by simp at h
 | _ :: _,[],h,_=>by simp at h
theorem kA {own:List Nat}:∀{rs:List ResultVar} {i q t:Nat},rs[q]?=some (.tmp t)→(own.contains (i+q)=false→(t,.no)∈iE own i rs)∧(own.contains (i+q)=true→(t,.cT (900000+(i+q)))∈iE own i rs∧(900000+(i+q),.pv)∈iE own i rs)
 | r :: rs,i,0,t,h=>by
  cases h
  refine ⟨fun h=>?_,fun h=>?_⟩ <;> simp only [Nat.add_zero] at h ⊢ <;> simp only [iE,h,ao,af]
  ·exact List.mem_append_left _ (List.mem_singleton.2 rfl)
  ·exact ⟨List.mem_append_left _ (List.mem_cons_self ..),List.mem_append_left _ (List.mem_cons_of_mem _ (List.mem_singleton.2 rfl))⟩
 | r :: rs,i,q+1,t,h=>by
  obtain ⟨h1,h2⟩:=kA (own:=own) (rs:=rs) (i:=i+1) (q:=q) (t:=t) (by simpa using h)
  rw [show i+1+q=i+(q+1) by omega] at h1 h2
  cases r with
  | tmp u=>exact ⟨fun h=>List.mem_append_right _ (h1 h),fun h=>⟨List.mem_append_right _ (h2 h).1,List.mem_append_right _ (h2 h).2⟩⟩
  | cell u v=>exact ⟨h1,h2⟩
theorem oL:∀{ms:List Md} {k q:Nat},(ms[q]?=some .rf→(1000000+(k+q),.cl [])∈jd k ms)∧((ms[q]?=some .sl∨ms[q]?=some .sm)→(1000000+(k+q),.pv)∈jd k ms)
 | [],k,q=>by simp
 | m :: ms,k,0=>by
  refine ⟨fun h=>?_,fun h=>?_⟩
  ·cases h;exact List.mem_cons_self ..
  ·rcases h with h | h <;> cases h <;> exact List.mem_cons_self ..
 | m :: ms,k,q+1=>by
  obtain ⟨h1,h2⟩:=oL (ms:=ms) (k:=k+1) (q:=q)
  rw [show k+1+q=k+(q+1) by omega] at h1 h2
  refine ⟨fun h=>?_,fun h=>?_⟩
  ·have:=h1 (by simpa using h)
   cases m <;> first | exact List.mem_cons_of_mem _ this | exact this
  ·have:=h2 (by simpa using h)
   cases m <;> first | exact List.mem_cons_of_mem _ this | exact this
theorem iD {own:List Nat} {H:St}:∀{rs:List ResultVar} {i:Nat} {xs:List TV},xs.length=rs.length→(iQ own H i rs xs).length=rs.length
 | [],_,_,_=>by simp [iQ]
 | .tmp _ :: rs,i,x :: xs,h=>by simp [iQ,iD (rs:=rs) (i:=i+1) (xs:=xs) (by simpa using h)]
 | .cell _ _ :: rs,i,x :: xs,h=>by simp [iQ,iD (rs:=rs) (i:=i+1) (xs:=xs) (by simpa using h)]
 | _ :: _,_,[],h=>by simp at h
theorem kz {own:List Nat} {H:St}:∀{rs:List ResultVar} {i q:Nat} {xs:List TV} {r:ResultVar} {x:TV},rs[q]?=some r→xs[q]?=some x→(iQ own H i rs xs)[q]?=some (match r with | .tmp t=>cond (own.contains (i+q)) (H (900000+(i+q))).1 (H t).1 | .cell _ _=>x)
 | r :: rs,i,0,x :: xs,_,_,h1,h2=>by cases h1;cases h2;cases r <;> simp [iQ]
 | r :: rs,i,q+1,x :: xs,r',x',h1,h2=>by
  have:=kz (own:=own) (H:=H) (rs:=rs) (i:=i+1) (q:=q) (xs:=xs) (r:=r') (x:=x') (by simpa using h1) (by simpa using h2)
  rw [show i+1+q=i+(q+1) by omega] at this
  cases r <;> simp only [iQ,List.getElem?_cons_succ] <;> exact this
 | [],_,_,_,_,_,h,_=>by simp at h
 | _ :: _,_,_,[],_,_,_,h=>by simp at h
def hZ (H:St):Nat→List Md→List TV→List TV
 | k,.rf :: ms,_ :: ins=>(H (1000000+k)).1 :: hZ H (k+1) ms ins
 | k,.sl :: ms,_ :: ins=>(H (1000000+k)).1 :: hZ H (k+1) ms ins
 | k,_ :: ms,y :: ins=>y :: hZ H (k+1) ms ins
 | _,_,_=>[]
theorem nE {H:St}:∀{ms:List Md} {k:Nat} {ins:List TV},ms.length≤ins.length→fK ms ins (kR H k ms)=some (hZ H k ms ins)
 | [],k,ins,_=>by cases ins <;> simp [fK,kR,hZ,da]
 | m :: ms,k,y :: ins,h=>by
  have:=nE (H:=H) (ms:=ms) (k:=k+1) (ins:=ins) (by simpa using h)
  cases m <;> simp [fK,kR,hZ,this]
 | _ :: _,_,[],h=>by simp at h
theorem oJ {H:St}:∀{ms:List Md} {k q:Nat} {ins:List TV} {y:TV},(hZ H k ms ins)[q]?=some y→(ms.getD q .pl = .rf∨ms.getD q .pl = .sl→y=(H (1000000+(k+q))).1)∧(ms.getD q .pl = .sm→ins[q]?=some y)∧q<ms.length
 | m :: ms,k,0,x :: ins,y,h=>by
  cases m <;> simp only [hZ,List.getElem?_cons_zero,aA] at h <;> subst h <;> simp
 | m :: ms,k,q+1,x :: ins,y,h=>by
  have h':(hZ H (k+1) ms ins)[q]?=some y:=by cases m <;> simpa [hZ] using h
  obtain ⟨h1,h2,h3⟩:=oJ h'
  rw [show k+1+q=k+(q+1) by omega] at h1
  exact ⟨h1,h2,by simp;omega⟩
 | [],k,q,ins,y,h=>by cases ins <;> simp [hZ] at h
 | m :: _,_,_,[],_,h=>by cases m <;> simp [hZ] at h
theorem oe {H:St}:∀{ms:List Md} {k q:Nat} {ins:List TV} {y:TV},jv H k ms=fD ms ins→ms.length≤ins.length→ms[q]?=some .sm→ins[q]?=some y→y=(H (1000000+(k+q))).1
 | m :: ms,k,0,x :: ins,y,h,_,h1,h2=>by
  cases h1;cases h2
  simp only [jv,fD,bg] at h
  exact h.1.symm
 | m :: ms,k,q+1,x :: ins,y,h,hl,h1,h2=>by
  have h':jv H (k+1) ms=fD ms ins:=by
   cases m <;> simp only [jv,fD,bg] at h <;> first | exact h | exact h.2
  have:=oe h' (by simpa using hl) (by simpa using h1) (by simpa using h2)
  rwa [show k+1+q=k+(q+1) by omega] at this
 | [],_,_,_,_,_,_,h,_=>by simp at h
 | _ :: _,_,_,[],_,_,h,_,_=>by simp at h
theorem mT {H:St}:∀{ms:List Md} {k:Nat} {ins:List TV},ms.length≤ins.length→(jv H k ms).length=(fD ms ins).length
 | [],_,ins,_=>by cases ins <;> rfl
 | m :: ms,k,x :: ins,h=>by
  have:=mT (H:=H) (ms:=ms) (k:=k+1) (ins:=ins) (by simpa using h)
  cases m <;> simp [jv,fD,this]
 | _ :: _,_,[],h=>by simp at h
theorem jE {nt:Nat} {S:St} {G:GL} {ρ:List (Nat × Option Nat)}:∀{l:GL} {xs:List TV} {ws:List (Nat × Cell)},lG nt S G ρ l=some (xs,ws)→xs.length=l.length
 | [],_,_,h=>by cases h;rfl
 | p :: l,xs,ws,h=>by
  simp only [lG] at h
  split at h
  ·split at h
   ·rename_i h2;cases h;simp [jE h2]
   ·cases h
  ·cases h
theorem jF {nt:Nat} {S:St} {G:GL} {ρ:List (Nat × Option Nat)}:∀{l:GL} {xs:List TV} {ws:List (Nat × Cell)} {i:Nat} {p:Nat × Gh} {x:TV},lG nt S G ρ l=some (xs,ws)→l[i]?=some p→xs[i]?=some x→∃us,pX nt S G ρ p=some (x,us)
 | p :: l,xs,ws,i,p',x',h,h1,h2=>by
  simp only [lG] at h
  split at h
  ·rename_i hv
   split at h
   ·rename_i h3
    cases h
    cases i with
    | zero=>cases h1;cases h2;exact ⟨_,hv⟩
    | succ i=>exact jF h3 (by simpa using h1) (by simpa using h2)
   ·cases h
  ·cases h
 | [],_,_,_,_,_,_,h,_=>by simp at h
theorem gX {nt:Nat} {G:GL} {S:St} {xs:List TV} (h:eR nt G S=some xs) {k:Nat} {g:Gh} (hm:(k,g)∈G):∃x,dp G xs k=(x,g)∧(g = .no→k<nt)∧∀i,g = .cT i→k<nt∧x = .pt:=by
 unfold eR k9 at h
 split at h
 ·rename_i hv
  obtain ⟨ot,he⟩:=bt.1 h
  cases he
  simp only [DY,ae] at ot
  obtain ⟨i,hi⟩:=List.mem_iff_getElem?.1 hm
  have eJ:i<xs.length:=by rw [jE hv];exact (av.1 hi).1
  have hx:xs[i]?=some xs[i]:=ah eJ
  obtain ⟨us,hu⟩:=jF hv hi hx
  refine ⟨_,kI ot.1.1.1.1 hi hx,fun e=>?_,fun j e=>?_⟩
  ·subst e
   simp only [pX] at hu
   exact Nat.le_of_ble_eq_true (bt.1 hu).1
  ·subst e
   simp only [pX] at hu
   obtain ⟨h1,h2⟩:=bt.1 hu
   refine ⟨Nat.le_of_ble_eq_true h1,?_⟩
   split at h2
   ·simp only [aA,Prod.mk.injEq] at h2;exact h2.1.symm
   ·simp only [aA,Prod.mk.injEq] at h2;exact h2.1.symm
   ·cases h2
 ·cases h
section
variable {P:Program} {E:cI} {gl:Nat→Option (List Value)} {nt:Nat} {ms:List Md} {w w0:World} {R0 R2:Reach} {ins outs:List TV} {xs:List Value} {H:St} {a:Act} {kV:Nat→Value}
theorem mU (hs:cG ⟨P,E,nt,w0,R0,pj ms xs,fG xs,gl⟩ H a w R2 kV) (hG:∀p∈jd 0 ms,∃x,H p.1=(x,p.2)) {q:Nat} {v:Value} (hm:(ms.getD q .pl).uB) (hv:xs[q]?=some v):∃x g,H (1000000+q)=(x,g)∧(ms.getD q .pl = .rf→g = .cl [])∧(ms.getD q .pl ≠ .rf→g = .pv)∧v=kV (1000000+q):=by
 have xK:ms[q]?=some (ms.getD q .pl):=by
  cases e:ms[q]? with
  | none=>rw [ai,e] at hm;exact (hm.1 rfl).elim
  | some m=>rw [ai,e];rfl
 have oj:v=kV (1000000+q):=by
  have:kV (1000000+q)=fG xs (1000000+q):=hs.io.2 _ (Nat.le_add_right _ _)
  rw [this]
  unfold fG
  rw [ak (by omega),Nat.add_sub_cancel_left,ai,hv];rfl
 obtain ⟨g1,g2⟩:=oL (ms:=ms) (k:=0) (q:=q)
 rw [Nat.zero_add] at g1 g2
 cases e:ms.getD q .pl <;> rw [e] at hm xK
 ·exact (hm.1 rfl).elim
 ·obtain ⟨x,c1⟩:=hG _ (g1 xK)
  exact ⟨x,_,c1,fun _=>rfl,fun h=>(h rfl).elim,oj⟩
 ·obtain ⟨x,c1⟩:=hG _ (g2 (.inl xK))
  exact ⟨x,_,c1,fun h=>by (try cases h),fun _=>rfl,oj⟩
 ·obtain ⟨x,c1⟩:=hG _ (g2 (.inr xK))
  exact ⟨x,_,c1,fun h=>by (try cases h),fun _=>rfl,oj⟩
 ·exact (hm.2 rfl).elim
theorem rq (hs:cG ⟨P,E,nt,w0,R0,pj ms xs,fG xs,gl⟩ H a w R2 kV) (hG:∀p∈jd 0 ms,∃x,H p.1=(x,p.2)) (yJ:ms.length≤ins.length) (e2:jv H 0 ms=fD ms ins) {q:Nat} {y:TV} {v:Value} (hy:(hZ H 0 ms ins)[q]?=some y) (hv:xs[q]?=some v):xD R2 w (ms.getD q .pl) y v:=by
 obtain ⟨y1,y2,y3⟩:=oJ hy
 rw [Nat.zero_add] at y1
 by_cases hm:(ms.getD q .pl).uB
 ·obtain ⟨x,g,c1,c2,c3,c4⟩:=mU hs hG hm hv
  have hK:=hs.core.key (1000000+q)
  rw [c1] at hK
  cases e:ms.getD q .pl <;> rw [e] at hm
  ·exact (hm.1 rfl).elim
  ·have rE:=y1 (.inl e)
   rw [c1] at rE
   have:=c2 e
   subst this
   obtain ⟨b,cs,el,zs,p1,p2,p3,p4,p5,p6⟩:=hK
   exact ⟨b,cs,el,zs,by rw [c4];exact p1,p2,by rw [rE];exact p3,p4,by simp,p6⟩
  ·have rE:=y1 (.inr e)
   rw [c1] at rE
   have:=c3 (by rw [e];simp)
   subst this
   rw [rE,c4];exact hK
  ·have xK:ms[q]?=some .sm:=by
    rw [ai,ah y3] at e
    rw [ah y3];exact congrArg some e
   have rE:=oe e2 yJ xK (y2 e)
   rw [Nat.zero_add,c1] at rE
   have:=c3 (by rw [e];simp)
   subst this
   rw [rE,c4];exact hK
  ·exact (hm.2 rfl).elim
 ·cases e:ms.getD q .pl <;> rw [e] at hm <;> first | trivial | exact (hm ⟨by simp,by simp⟩).elim
theorem qz {q:Nat} {g:Gh} (c2:ms.getD q .pl = .rf→g = .cl []) (c3:ms.getD q .pl ≠ .rf→g = .pv):g.own=true∧g.s9=false:=by
 by_cases e:ms.getD q .pl = .rf
 ·rw [c2 e];exact ⟨rfl,rfl⟩
 ·rw [c3 e];exact ⟨rfl,rfl⟩
end
theorem n4 {nt:Nat} {G:GL} {S:St} {xs:List TV} (h:eR nt G S=some xs) {k m o:Nat} (hm:(k,.ptr m o)∈G):(dp G xs k).1 = .pt:=by
 unfold eR k9 at h
 split at h
 ·rename_i hv
  obtain ⟨ot,he⟩:=bt.1 h
  cases he
  simp only [DY,ae] at ot
  obtain ⟨i,hi⟩:=List.mem_iff_getElem?.1 hm
  have eJ:i<xs.length:=by rw [jE hv];exact (av.1 hi).1
  have hx:xs[i]?=some xs[i]:=ah eJ
  obtain ⟨us,hu⟩:=jF hv hi hx
  rw [kI ot.1.1.1.1 hi hx]
  simp only [pX] at hu
  obtain ⟨_,h2⟩:=bt.1 hu
  split at h2
  ·obtain ⟨_,h3⟩:=bt.1 h2
   simp only [aA,Prod.mk.injEq] at h3;exact h3.1.symm
  ·cases h2
 ·cases h
theorem Bq {P:Program} {E:cI} {gl:Nat→Option (List Value)} {fn:Func} {sg:cr} {w w0:World} {R0:Reach} {ins outs:List TV} {xs:List Value} {S:St} {a:Act} (hlen:ins.length=xs.length) (hp:xs.length=fn.params.size) (fQ:pB fn sg=true)
  (h:lF ⟨P,E,fn.ntmps,w0,R0,pj sg.md xs,fG xs,gl⟩ S a w) (ho:uj fn sg=none) (he:uS P fn.ntmps fn sg S=some (outs++fD sg.md ins)) :
  a.defers=[]∧∃x R' eN ys,(results fn a.tmps).run P w = .ok x w∧Ext w0 R0 (pj sg.md xs) w R'∧(∀b o,R' b o→b<w.heap.size)∧pP sg R' w (fun b=>pj sg.md xs b∨w0.heap.size≤b) ins xs outs x eN ys:=by
 simp only [pB,ae] at fQ
 obtain ⟨⟨⟨⟨⟨⟨⟨b1,b2⟩,b3⟩,b4⟩,b5⟩,b6⟩,b7⟩,b8⟩:=fQ
 have b1:fn.ntmps<900000:=Nat.le_of_ble_eq_true b1
 have b2:=Nat.le_of_ble_eq_true b2
 have b3:=Nat.le_of_ble_eq_true b3
 have b4:=aj b4
 have b5:fn.results.size<1000:=Nat.le_of_ble_eq_true b5
 have yJ:sg.md.length≤ins.length:=by omega
 rw [ho,Option.isSome_none,Bool.false_or] at b6
 have blt:∀q∈sg.own,q<sg.bE:=fun q hq=>Nat.le_of_ble_eq_true (aw.1 b6 q hq)
 have bs:∀q∈sg.own,Nat.blt q 1000=true:=fun q hq=>Nat.ble_eq_true_of_le (show q+1≤1000 by have:=blt q hq;omega)
 have G0:fM sg.own=true:=aw.2 bs
 have oV:∀q∈sg.own,∀l,iT l q=l[q]?:=fun q hq l=>by unfold iT;rw [bs q hq,ao]
 have oT:∀q∈sg.own,∀l,jV l q=l[q]?:=fun q hq l=>by unfold jV;rw [bs q hq,ao]
 obtain ⟨R,τ,h⟩:=h
 simp only [uS,ho] at he
 split at he
 ·rename_i cx S1 hc
  split at he
  ·rename_i ys hr
   obtain ⟨R1,vs,k1,k2,k3,k4,k5,k6⟩:=iL h hc
   obtain ⟨R2,kV,hs,ln⟩:=jl k1 hr
   have he:=Option.some.inj he
   have gF:=fun {k g}=>gX hr (k:=k) (g:=g)
   generalize hH:dp (wP fn sg) ys=H at *
   have hl:=mT (H:=H) (ms:=sg.md) (k:=0) yJ
   obtain ⟨e1,e2⟩:=List.append_inj' he hl
   have pS:(iQ sg.own H 0 fn.results.toList cx).length=sg.bE:=by rw [iD k4,b4,Array.length_toList]
   have CT:vs.length=sg.bE:=by rw [k5,b4,Array.length_toList]
   have zF:outs.take sg.bE=iQ sg.own H 0 fn.results.toList cx:=by rw [←e1,←pS,List.take_left]
   have C9:outs.drop sg.bE=kR H 0 sg.md:=by rw [←e1,←pS,List.drop_left]
   have zM:∀q,sg.own.contains q=true ↔ q∈sg.own:=fun q=>by simp
   -- a result
   have res:∀q v,vs[q]?=some v→∃(r:ResultVar) (x:TV),fn.results.toList[q]?=some r∧cx[q]?=some x∧(match r with | ResultVar.tmp t=>v=a.tmps.getD t undef | ResultVar.cell _ _=>Rep R1 w x v∧q ∉ sg.own):=fun q v hv=>by
    have eJ:=(av.1 hv).1
    have h1:fn.results.toList[q]?=some (fn.results.toList[q]'(by omega)):=ah _
    have h2:cx[q]?=some (cx[q]'(by omega)):=ah _
    have:=k6 q _ _ v h1 h2 hv
    rw [Nat.zero_add] at this
    exact ⟨_,_,h1,h2,this⟩
   have vy:∀k x g,H k=(x,g)→k<fn.ntmps→cz R2 w kV x g (a.tmps.getD k undef):=fun k x g hk eJ=>by
    have:=iO hs (t:=k) eJ
    rw [hk] at this;exact this
   have EH:∀q,q<sg.bE→outs[q]?=(iQ sg.own H 0 fn.results.toList cx)[q]?:=fun q hq=>by
    rw [←zF,aF,ar hq]
   -- a result of Ge own
   have own:∀q∈sg.own,∀v,vs[q]?=some v→∃y,outs[q]?=some y∧v=kV (900000+q)∧H (900000+q)=(y,.pv)∧cV R2 w false v y:=fun q hq v hv=>by
    obtain ⟨r,x,r1,r2,r3⟩:=res q v hv
    have eJ:=(av.1 hv).1
    cases r with
    | cell=>exact (r3.2 hq).elim
    | tmp t =>
     obtain ⟨m1,m2⟩:=(kA (own:=sg.own) (i:=0) r1).2 (by rw [Nat.zero_add];exact (zM q).2 hq)
     rw [Nat.zero_add] at m1 m2
     obtain ⟨x1,c1,_,c2⟩:=gF (List.mem_append_left _ m1)
     obtain ⟨x2,d1,_⟩:=gF (List.mem_append_left _ m2)
     obtain ⟨c3,rfl⟩:=c2 _ rfl
     have rF:=vy t _ _ c1 c3
     have hK:=hs.core.key (900000+q)
     rw [d1] at hK
     have oj:v=kV (900000+q):=r3.trans rF.1
     refine ⟨x2,?_,oj,d1,by rw [oj];exact hK⟩
     rw [EH q (by omega),kz r1 r2,Nat.zero_add]
     simp only [(zM q).2 hq,ao,d1]
   have Dl:∀p∈jd 0 sg.md,∃x,H p.1=(x,p.2):=fun p hp=>by obtain ⟨x,c,_⟩:=gF (List.mem_append_right _ hp);exact ⟨x,c⟩
   refine ⟨hs.defers,_,R2,vs,hZ H 0 sg.md ins,ig k3,hs.ext,hs.core.j9,⟨CT,?_,by rw [CT],?_,fun q hq v y hv hy=>?_,by rw [C9];exact nE yJ,fun q y v hy hv=>?_,fun q hq v b hv hb=>?_,fun j j' i i' v v' b hj lV hv oj hb fJ=>?_,fun i hi v b hv hb q u hm hu Df=>?_⟩⟩
   ·rw [←e1];simp only [al,pS];omega
   ·refine dW.of (by simp only [ka,G0,ao,List.length_mapIdx,aB];rw [CT,←e1,al,pS];omega) fun q x v hx hv=>?_
    simp only [ka,G0,ao,List.getElem?_mapIdx,aH] at hx
    obtain ⟨y,hy,rfl⟩:=hx
    cases GJ:sg.own.contains q with
    | true=>exact .pt _
    | false =>
     rw [af]
     obtain ⟨r,x,r1,r2,r3⟩:=res q v hv
     rw [zF,kz r1 r2,Nat.zero_add] at hy
     cases r with
     | cell=>cases hy;exact r3.1.mono ln
     | tmp t =>
      simp only [GJ,af,aA] at hy
      subst hy
      have m1:=(kA (own:=sg.own) (i:=0) r1).1 (by rw [Nat.zero_add];exact GJ)
      obtain ⟨x1,c1,c2,_⟩:=gF (List.mem_append_left _ m1)
      rw [c1,r3]
      exact eX.rep (vy t _ _ c1 (c2 rfl))
   ·rw [oV q hq] at hv
    rw [oT q hq] at hy
    obtain ⟨y',o1,_,_,o2⟩:=own q hq v hv
    rw [o1] at hy;cases hy;exact o2
   ·exact rq hs Dl yJ e2 hy hv
   ·rw [oV q hq] at hv
    obtain ⟨y,_,o1,o2,_⟩:=own q hq v hv
    rw [o1] at hb
    exact hs.core.cg (900000+q) b (dL (by rw [o2];rfl) (by rw [o2];rfl) hb)
   ·rw [oV i (ay hj)] at hv
    rw [oV i' (ay lV)] at oj
    obtain ⟨y,_,o1,o2,_⟩:=own i (ay hj) v hv
    obtain ⟨y',_,Hp,Gg,_⟩:=own i' (ay lV) v' oj
    rw [o1] at hb
    rw [Hp] at fJ
    have:=hs.core.j0 (dL (by rw [o2];rfl) (by rw [o2];rfl) hb) (dL (by rw [Gg];rfl) (by rw [Gg];rfl) fJ)
    have:i=i':=by omega
    subst this
    exact qV b7 hj lV
   ·rw [oV i hi] at hv
    obtain ⟨y,_,o1,o2,_⟩:=own i hi v hv
    obtain ⟨x,g,c1,c2,c3,c4⟩:=mU hs Dl hm hu
    rw [o1] at hb
    rw [c4] at Df
    have CZ:=qz c2 c3
    have:=hs.core.j0 (dL (by rw [o2];rfl) (by rw [o2];rfl) hb) (dL (by rw [c1];exact CZ.1) (by rw [c1];exact CZ.2) Df)
    have eJ:=(av.1 hv).1
    have:fn.results.size=sg.bE:=b4.symm
    omega
  ·cases he
 ·cases he
theorem Bn {P:Program} {E:cI} {gl:Nat→Option (List Value)} {fn:Func} {sg:cr} {w w0:World} {R0:Reach} {ins outs:List TV} {xs:List Value} {S:St} {a:Act} {r c:Nat} {t:TypeId} (hlen:ins.length=xs.length) (hp:xs.length=fn.params.size) (fQ:pB fn sg=true)
  (h:lF ⟨P,E,fn.ntmps,w0,R0,pj sg.md xs,fG xs,gl⟩ S a w) (ho:uj fn sg=some ((r,t),c)) (he:uS P fn.ntmps fn sg S=some (outs++fD sg.md ins)) :
  a.defers=[]∧∃x R' eN ys,(results fn a.tmps).run P w = .ok x w∧Ext w0 R0 (pj sg.md xs) w R'∧(∀b o,R' b o→b<w.heap.size)∧pP sg R' w (fun b=>pj sg.md xs b∨w0.heap.size≤b) ins xs outs x eN ys:=by
 simp only [pB,ae] at fQ
 obtain ⟨⟨⟨⟨⟨⟨⟨b1,b2⟩,b3⟩,b4⟩,b5⟩,b6⟩,b7⟩,b8⟩:=fQ
 have b1:fn.ntmps<900000:=Nat.le_of_ble_eq_true b1
 have b3:=Nat.le_of_ble_eq_true b3
 have b4:=aj b4
 have yJ:sg.md.length≤ins.length:=by omega
 obtain ⟨R,τ,h⟩:=h
 simp only [uS,ho] at he
 obtain ⟨wq,yG⟩:fn.results.toList=[.cell r t]∧sg.own=[1000+c]:=by
  unfold uj at ho
  split at ho
  ·rename_i a' t' j h1 h2
   cases hb:Nat.blt j 1000 with
   | true=>rw [hb] at ho;cases ho
   | false =>
    rw [hb] at ho;cases ho
    have:1000≤j:=Nat.le_of_not_lt fun eJ=>by rw [show Nat.blt j 1000=true from Nat.ble_eq_true_of_le eJ] at hb;cases hb
    rw [h1,h2,show 1000+(j - 1000)=j by omega];exact ⟨rfl,rfl⟩
  ·cases ho
 have yI:sg.bE=1:=by rw [b4,←Array.length_toList,wq];rfl
 unfold Dt at he
 split at he
 ·rename_i m n IY Hy
  split at he
  ·rename_i ys hr
   obtain ⟨R2,kV,hs,ln⟩:=jl h hr
   have gF:=fun {k g}=>gX hr (k:=k) (g:=g)
   generalize hH:dp (uT r m c sg) ys=H at *
   obtain ⟨x1,c1,_,_⟩:=gF (k:=r) (g := .ptr m 0) (List.mem_cons_self ..)
   obtain ⟨x2,c2,_,_⟩:=gF (k:=m) (g := .cl [(c,900000)]) (List.mem_cons_of_mem _ (List.mem_cons_self ..))
   obtain ⟨y,c3,_,_⟩:=gF (k:=900000) (g := .pv) (List.mem_cons_of_mem _ (List.mem_cons_of_mem _ (List.mem_cons_self ..)))
   have Dl:∀p∈jd 0 sg.md,∃x,H p.1=(x,p.2):=fun p hp=>by obtain ⟨x,c,_⟩:=gF (List.mem_cons_of_mem _ (List.mem_cons_of_mem _ (List.mem_cons_of_mem _ hp)));exact ⟨x,c⟩
   rw [c2] at he
   split at he
   ·rename_i cs g e
    cases e
    obtain ⟨hh,he⟩:=bt.1 he
    simp only [ae] at hh
    have hn:=aj hh.1
    have pS:r<fn.ntmps:=Nat.le_of_ble_eq_true hh.2
    have he:=Option.some.inj he
    have hl:=mT (H:=H) (ms:=sg.md) (k:=0) yJ
    rw [←List.cons_append] at he
    obtain ⟨e1,e2⟩:=List.append_inj' he hl
    rw [c3] at e1
    have om:=iO hs (t:=r) pS
    rw [c1] at om
    have hV:=hs.core.key m
    rw [c2] at hV
    obtain ⟨b,zs,el,xE,p1,p2,p3,p4,p5,p6⟩:=hV
    cases p3
    have hv:a.tmps.getD r undef = .pointer (some ⟨b,0,none⟩):=by
     have ER:=n4 hr (List.mem_cons_self ..)
     rw [hH,c1] at ER
     simp only at ER
     subst ER
     obtain ⟨b',q1,q2⟩:∃b',kV m = .pointer (some ⟨b',0,none⟩)∧a.tmps.getD r undef = .pointer (some ⟨b',0,none⟩):=om
     rw [p1] at q1;cases q1;exact q2
    have hy:=p5 (c,900000) (List.mem_singleton.2 rfl)
    simp only at hy
    have hK:=hs.core.key 900000
    rw [c3] at hK
    obtain ⟨inf,hi,jX,ha⟩:=dU Hy
    have EP:=p4.length
    have vi:c<zs.length:=(av.1 hy).1
    have ft:(fn.results.toList.mapM (o0 a.tmps)).run P w = .ok [.agg ⟨zs⟩] w:=by
     rw [wq]
     simp only [List.mapM_cons,List.mapM_nil,o0,hv,asAddr,Sem.run_bind,Sem.run_pure,Result.andThen_ok,eT hi ha (.inl rfl) (w:=w) (b:=b) (off:=0) (ys:=zs) (by omega) (fun j y hj=>by simp only [World.cell?,p2];simpa using hj),if_true]
    have E4:Nat.blt (1000+c) 1000=false:=by
     cases hb:Nat.blt (1000+c) 1000 with
     | false=>rfl
     | true=>have:1000+c+1≤1000:=Nat.le_of_ble_eq_true hb;omega
    have oV:∀q∈sg.own,∀v,iT [.agg ⟨zs⟩] q=some v→v=kV 900000:=fun q hq v hv=>by
     rw [yG,List.mem_singleton] at hq
     subst hq
     unfold iT at hv
     simp only [E4,af,List.getElem?_cons_zero,Nat.add_sub_cancel_left] at hv
     rw [hy] at hv;cases hv;rfl
    have Gu:∀{v b},v=kV 900000→Value.dv v=some b→dv kV H 900000=some b:=fun e hb=>by subst e;exact dL (by rw [c3];rfl) (by rw [c3];rfl) hb
    refine ⟨hs.defers,_,R2,[.agg ⟨zs⟩],hZ H 0 sg.md ins,ig ft,hs.ext,hs.core.j9,⟨yI.symm,?_,by rw [yI];rfl,?_,fun q hq v y' hv rE=>?_,by rw [yI,←e1];exact nE yJ,fun q y v hy hv=>?_,fun q hq v b hv hb=>?_,fun j j' i i' v v' b hj lV hv oj hb fJ=>?_,fun i hi v b hv hb q u hm hu Df=>?_⟩⟩
    ·rw [yI,←e1];simp
    ·have AP:fM [1000+c]=false:=by unfold fM;rw [List.all_cons,E4];rfl
     rw [yI,←e1,yG]
     simp only [List.take_succ_cons,List.take_zero,ka,AP,af,aQ,bn,DX]
     refine .cons (.ag ?_) .nil
     have:((cs.set c y).mapIdx fun k z=>cond ([1000+c].contains (1000+k)) TV.pt z)=cs.set c .pt:=by
      apply List.ext_getElem?
      intro k
      rw [List.getElem?_mapIdx,List.getElem?_set,List.getElem?_set]
      by_cases e:c=k
      ·subst e;simp [show c<cs.length by omega]
      ·have e':¬k=c:=fun h=>e h.symm
       simp [e,e']
     rw [this]
     exact p4.set fun _ _ => .pt _
    ·rw [oV q hq v hv]
     rw [yG,List.mem_singleton] at hq
     subst hq
     unfold jV at rE
     rw [←e1] at rE
     simp only [E4,af,List.getElem?_cons_zero,Nat.add_sub_cancel_left,List.getElem?_set,if_true,show c<cs.length by omega] at rE
     cases rE;exact hK
    ·exact rq hs Dl yJ e2 hy hv
    ·exact hs.core.cg 900000 b (Gu (oV q hq v hv) hb)
    ·rw [yG] at hj lV
     have:=(av.1 hj).1
     have:=(av.1 lV).1
     simp at *;omega
    ·obtain ⟨x,g,d1,d2,d3,d4⟩:=mU hs Dl hm hu
     rw [d4] at Df
     have CZ:=qz d2 d3
     have:=hs.core.j0 (Gu (oV i hi v hv) hb) (dL (by rw [d1];exact CZ.1) (by rw [d1];exact CZ.2) Df)
     omega
   ·cases he
  ·cases he
 ·cases he
theorem Bo {P:Program} {E:cI} {gl:Nat→Option (List Value)} {fn:Func} {sg:cr} {w w0:World} {R0:Reach} {ins outs:List TV} {xs:List Value} {S:St} {a:Act} (hlen:ins.length=xs.length) (hp:xs.length=fn.params.size) (fQ:pB fn sg=true)
  (h:lF ⟨P,E,fn.ntmps,w0,R0,pj sg.md xs,fG xs,gl⟩ S a w) (he:uS P fn.ntmps fn sg S=some (outs++fD sg.md ins)) :
  a.defers=[]∧∃x R' eN ys,(results fn a.tmps).run P w = .ok x w∧Ext w0 R0 (pj sg.md xs) w R'∧(∀b o,R' b o→b<w.heap.size)∧pP sg R' w (fun b=>pj sg.md xs b∨w0.heap.size≤b) ins xs outs x eN ys:=by
 cases ho:uj fn sg with
 | none=>exact Bq hlen hp fQ h ho he
 | some p=>obtain ⟨⟨r,t⟩,c⟩:=p;exact Bn hlen hp fQ h ho he
end Go.Eng
namespace Go.Eng
open Go.RowKit
theorem rW:∀{rs:List ResultVar} {i q t:Nat},rs[q]?=some (.tmp t)→(t,.no)∈iE [] i rs:=fun {rs i q t} h=>(kA (own:=[]) (i:=i) h).1 (by simp)
theorem og (ins:List TV):fD [] ins=[]:=by cases ins <;> rfl
theorem sS {C:Ctx} {a:Act} {w:World} {R1 R2:Reach} {kV:Nat→Value} {G:GL} {ys cx:List TV} {S:St} {rs:List ResultVar} {i:Nat} {vs:List Value} (hr:eR C.nt G S=some ys) (hs:cG C (dp G ys) a w R2 kV) (cq:cH R1 w R2 w) (hG:∀p∈iE [] i rs,p∈G) (k4:cx.length=rs.length) (k5:vs.length=rs.length)
  (k6:∀(q:Nat) (r:ResultVar) (x:TV) (v:Value),rs[q]?=some r→cx[q]?=some x→vs[q]?=some v→match r with | .tmp t=>v=a.tmps.getD t undef | .cell _ _=>Rep R1 w x v∧(i+q) ∉ ([]:List Nat)):dW R2 w (iQ [] (dp G ys) i rs cx) vs:=by
 refine dW.of (by rw [iD k4,k5]) fun q x v hx hv=>?_
 have eJ:=(av.1 hv).1
 have h1:rs[q]?=some (rs[q]'(by omega)):=ah _
 have h2:cx[q]?=some (cx[q]'(by omega)):=ah _
 have h3:=k6 q _ _ v h1 h2 hv
 rw [kz h1 h2] at hx
 generalize rs[q]'(by omega)=r at *
 cases r with
 | cell=>cases hx;exact h3.1.mono cq
 | tmp t =>
  simp only [List.contains_nil,af,aA] at hx
  subst hx
  obtain ⟨x1,c1,c2,_⟩:=gX hr (hG _ (rW h1))
  have rF:=iO hs (t:=t) (c2 rfl)
  rw [c1] at rF
  rw [c1,h3]
  exact eX.rep rF
def sG (xs:List Value) (i:Nat) (u:Value) (k:Nat):Value:=if k<1000000 then xs.getD k undef else if k=1000000 then xs.getD i undef else if k=1000001 then u else undef
def D3 (b:Nat) (e:Bool) (u:Value) (g:Nat):Prop:=g=b∨(e=true∧Value.dv u=some g)
theorem xv {P:Program} {E:cI} {gl:Nat→Option (List Value)} {nt i c b:Nat} {e:Bool} {w:World} {R:Reach} {ins x:List TV} {xs zs:List Value} {u:Value} {y:TV} {el:TypeId} (hn:xs.length≤nt) (xJ:nt≤1000000) (hR:∀b o,R b o→b<w.heap.size) (qK:GlOK gl R w) (hl:ins.length=xs.length+1)
  (nH:∀j x v,j≠i→ins[j]?=some x→xs[j]?=some v→Rep R w x v) (B4:xs[i]?=some (.pointer (some ⟨b,0,none⟩))) (Ff:ins[i]?=some (.ag x)) (hb:w.heap[b]?=some (.cells ⟨zs⟩ el (0,0))) (hL:bX R w x zs) (A8:∀o,¬R b o) (hu:zs[c]?=some u) (hy:ins[xs.length]?=some y) (he:e=true→cV R w false u y∧Value.dv u≠some b) :
  cG ⟨P,E,nt,w,R,D3 b e u,sG xs i u,gl⟩ (vf xs.length i c e ins) { tmps:=(⟨xs⟩:Array Value)++Array.replicate (nt - xs.length) undef,defers:=[] } w R (sG xs i u):=by
 have hi:i<xs.length:=(av.1 B4).1
 have blt:∀{k n:Nat},¬k<n→Nat.blt k n=false:=fun {k n} h=>by
  cases hb:Nat.blt k n with
  | false=>rfl
  | true=>exact absurd (Nat.le_of_ble_eq_true hb:k+1≤n) (by omega)
 have bne:∀{k n:Nat},k≠n→Nat.beq k n=false:=fun {k n} h=>by
  cases hb:Nat.beq k n with
  | false=>rfl
  | true=>exact absurd (aj hb) h
 have s1:∀k,k<xs.length→vf xs.length i c e ins k=if k=i then (.pt,.ptr 1000000 0) else (ins.getD k .dead,.no):=fun k hk=>by
  unfold vf
  rw [show Nat.blt k xs.length=true from Nat.ble_eq_true_of_le hk,ao]
  by_cases h:k=i
  ·subst h;simp
  ·rw [bne h,af,ak h]
 have s2:vf xs.length i c e ins 1000000=(.ag x,.cl (cond e [(c,1000001)] [])):=by
  unfold vf
  rw [blt (by omega),af]
  simp only [Nat.beq_refl,ao]
  rw [ai,Ff];rfl
 have s3:e=true→vf xs.length i c e ins 1000001=(y,.pv):=fun he=>by
  unfold vf
  rw [blt (by omega),af,bne (by omega),af,he]
  simp only [Nat.beq_refl,Bool.true_and,ao]
  rw [ai,hy];rfl
 have s4:∀k,xs.length≤k→k≠1000000→(k=1000001→e=false)→vf xs.length i c e ins k=(.dead,.no):=fun k h1 h2 h3=>by
  unfold vf
  rw [blt (by omega),af,bne h2,af]
  by_cases h:k=1000001
  ·rw [h3 h];rfl
  ·rw [bne h,Bool.and_false,af]
 have cs:∀k,k<xs.length∨k=1000000∨(k=1000001∧e=true)∨(xs.length≤k∧k≠1000000∧(k=1000001→e=false)):=fun k=>by
  by_cases h1:k<xs.length
  ·exact .inl h1
  by_cases h2:k=1000000
  ·exact .inr (.inl h2)
  cases e with
  | true =>
   by_cases h3:k=1000001
   ·exact .inr (.inr (.inl ⟨h3,rfl⟩))
   ·exact .inr (.inr (.inr ⟨by omega,h2,fun h=>(h3 h).elim⟩))
  | false=>exact .inr (.inr (.inr ⟨by omega,h2,fun _=>rfl⟩))
 have t1:∀k,k<xs.length→sG xs i u k=xs.getD k undef:=fun k hk=>by unfold sG;rw [ar (by omega)]
 have t2:sG xs i u 1000000 = .pointer (some ⟨b,0,none⟩):=by unfold sG;rw [ak (by omega),ar rfl,ai,B4];rfl
 have t3:sG xs i u 1000001=u:=by unfold sG;rw [ak (by omega),ak (by omega),ar rfl]
 have own:∀k,(vf xs.length i c e ins k).2.own=true→k=1000000∨(k=1000001∧e=true):=fun k ho=>by
  rcases cs k with h | h | h | ⟨h1,h2,h3⟩
  ·rw [s1 k h] at ho;split at ho <;> cases ho
  ·exact .inl h
  ·exact .inr h
  ·rw [s4 k h1 h2 h3] at ho;cases ho
 have bk:∀k g,dv (sG xs i u) (vf xs.length i c e ins) k=some g→(k=1000000∧g=b)∨(k=1000001∧e=true∧Value.dv u=some g):=fun k g hb=>by
  obtain ⟨o1,b1⟩:=cZ hb
  rcases own k o1 with rfl | ⟨rfl,h⟩
  ·rw [t2] at b1;cases b1;exact .inl ⟨rfl,rfl⟩
  ·rw [t3] at b1;exact .inr ⟨rfl,h,b1⟩
 refine ⟨by simp;omega,rfl,⟨fun k=>?_,fun k k' g hb fJ=>?_,fun k g hb=>?_,fun j k hk=>?_,hR,fun k hk=>?_,fun k d hk=>?_⟩,fun t ht=>?_,⟨xJ,fun k _=>rfl⟩,Ext.refl _ _ _,qK⟩
 ·rcases cs k with h | rfl | ⟨rfl,h⟩ | ⟨h1,h2,h3⟩
  ·rw [s1 k h,t1 k h]
   by_cases hk:k=i
   ·subst hk
    rw [ar rfl]
    exact ⟨b,t2,by rw [ai,B4];rfl⟩
   ·rw [ak hk]
    have e1:xs[k]?=some (xs.getD k undef):=by rw [ai,ah h];rfl
    have e2:ins[k]?=some (ins.getD k .dead):=by rw [ai,ah (by omega:k<ins.length)];rfl
    exact cz.no (nH k _ _ hk e2 e1)
  ·rw [s2,t2]
   refine ⟨b,zs,el,x,rfl,hb,rfl,hL,fun t ht=>?_,A8⟩
   cases e with
   | false=>cases ht
   | true =>
    rw [ao,List.mem_singleton] at ht
    subst ht
    rw [t3];exact hu
  ·rw [s3 h,t3];exact (he h).1
  ·rw [s4 k h1 h2 h3];exact cz.no (τ:=sG xs i u) (.dead _)
 ·rcases bk k g hb with ⟨rfl,rfl⟩ | ⟨rfl,h,e1⟩ <;> rcases bk k' _ fJ with ⟨rfl,h2⟩ | ⟨rfl,h2,e2⟩
  ·rfl
  ·exact ((he h2).2 e2).elim
  ·subst h2;exact ((he h).2 e1).elim
  ·rfl
 ·rcases bk k g hb with ⟨_,rfl⟩ | ⟨_,h,e1⟩
  ·exact .inl (.inl rfl)
  ·exact .inl (.inr ⟨h,e1⟩)
 ·rcases cs j with h | rfl | ⟨rfl,h⟩ | ⟨h1,h2,h3⟩
  ·rw [s1 j h] at hk
   split at hk
   ·simp only [Gh.bP,List.mem_singleton] at hk
    subst hk
    exact ⟨xJ,by rw [s2];simp⟩
   ·cases hk
  ·rw [s2] at hk
   cases e with
   | false=>cases hk
   | true =>
    simp only [ao,Gh.bP,aQ,bn,List.mem_singleton] at hk
    subst hk
    exact ⟨by show nt≤1000001;omega,by rw [s3 rfl];simp⟩
  ·rw [s3 h] at hk;cases hk
  ·rw [s4 j h1 h2 h3] at hk;cases hk
 ·have hk:k<nt:=hk
  rcases cs k with h | rfl | ⟨rfl,h⟩ | ⟨h1,h2,h3⟩
  ·rw [s1 k h];split <;> rfl
  ·omega
  ·omega
  ·rw [s4 k h1 h2 h3];rfl
 ·rcases cs k with h | rfl | ⟨rfl,h⟩ | ⟨h1,h2,h3⟩
  ·rw [s1 k h] at hk;split at hk <;> cases hk
  ·rw [s2] at hk;cases hk
  ·rw [s3 h] at hk;cases hk
  ·rw [s4 k h1 h2 h3] at hk;cases hk
 ·have ht:t<nt:=ht
  unfold sG
  rw [ar (by omega)]
  simp only [Array.getD_eq_getD_getElem?,Array.getElem?_append,List.size_toArray]
  by_cases h:t<xs.length
  ·simp [h,ai]
  ·have ET:t - xs.length<nt - xs.length:=by omega
   rw [ak h,ai,List.getElem?_eq_none (by omega)]
   simp [ET]
theorem Bm {P:Program} {E:cI} {gl:Nat→Option (List Value)} {fn:Func} {c b:Nat} {e:Bool} {u:Value} {BX:Nat→Value} {w w0:World} {R0:Reach} {outs:List TV} {S:St} {a:Act} (ht0:BX 1000000 = .pointer (some ⟨b,0,none⟩))
  (h:lF ⟨P,E,fn.ntmps,w0,R0,D3 b e u,BX,gl⟩ S a w) (he:Bg P fn.ntmps fn c S=some outs) :
  a.defers=[]∧∃R' eN sH xP x' u' y',(results fn a.tmps).run P w = .ok (if eN.length=1 then eN.headD undef else .tuple ⟨eN⟩) w∧Ext w0 R0 (D3 b e u) w R'∧(∀b o,R' b o→b<w.heap.size)∧eN.length=fn.results.size∧outs.drop fn.results.size=[.ag x',y']∧dW R' w (outs.take fn.results.size) eN ∧
   w.heap[b]?=some (.cells ⟨sH⟩ xP (0,0))∧bX R' w x' sH∧(∀o,¬R' b o)∧sH[c]?=some u'∧cV R' w false u' y'∧∀g,Value.dv u'=some g→g≠b∧((e=true∧Value.dv u=some g)∨w0.heap.size≤g):=by
 obtain ⟨R,τ,h⟩:=h
 unfold Bg at he
 split at he <;> try (cases he;done)
 rename_i cx S1 hc
 split at he <;> try (cases he;done)
 rename_i ys hr
 obtain ⟨R1,vs,k1,k2,k3,k4,k5,k6⟩:=iL h hc
 obtain ⟨R2,kV,hs,ln⟩:=jl k1 hr
 have he:=Option.some.inj he
 have gF:=fun {k g}=>gX hr (k:=k) (g:=g)
 have fh:=sS hr hs ln (i:=0) (rs:=fn.results.toList) (fun p hp=>List.mem_cons_of_mem _ (List.mem_cons_of_mem _ hp)) k4 k5 k6
 obtain ⟨x1,c1,_,_⟩:=gF (k:=1000000) (g := .cl [(c,910000)]) (List.mem_cons_self ..)
 obtain ⟨y1,c2,_,_⟩:=gF (k:=910000) (g := .pv) (List.mem_cons_of_mem _ (List.mem_cons_self ..))
 generalize hH:dp ((1000000,.cl [(c,910000)]) :: (910000,.pv) :: iE [] 0 fn.results.toList) ys=H at *
 rw [c1,c2] at he
 have pS:(iQ [] H 0 fn.results.toList cx).length=fn.results.size:=by rw [iD k4,Array.length_toList]
 have CT:vs.length=fn.results.size:=by rw [k5,Array.length_toList]
 have Dk:=hs.core.key 1000000
 rw [c1] at Dk
 obtain ⟨b',zs,el,x2,p1,p2,p3,p4,p5,p6⟩:=Dk
 have fJ:kV 1000000 = .pointer (some ⟨b,0,none⟩):=(hs.io.2 1000000 (Nat.le_refl _)).trans ht0
 rw [fJ] at p1;cases p1
 simp only at p3
 subst p3
 have Dj:=hs.core.key 910000
 rw [c2] at Dj
 have xO:dv kV H 1000000=some b:=dL (by rw [c1];rfl) (by rw [c1];rfl) (by rw [fJ];rfl)
 refine ⟨hs.defers,R2,vs,zs,el,x2,kV 910000,y1,ig k3,hs.ext,hs.core.j9,CT,?_,?_,p2,p4,p6,p5 _ (List.mem_singleton.2 rfl),Dj,fun g hg=>?_⟩
 ·rw [←he,←pS,List.drop_left]
 ·rw [←he,←pS,List.take_left];exact fh
 ·have zP:dv kV H 910000=some g:=dL (by rw [c2];rfl) (by rw [c2];rfl) hg
  have fP:g≠b:=fun e=>by subst e;have:=hs.core.j0 xO zP;omega
  refine ⟨fP,?_⟩
  rcases hs.core.cg 910000 g zP with (h | h) | h
  ·exact (fP h).elim
  ·exact .inl h
  ·exact .inr h
theorem Bp {P:Program} {E:cI} {gl:Nat→Option (List Value)} {fn:Func} {oc:Option Nat} {BX:Nat→Value} {io:Nat→Prop} {w w0:World} {R0:Reach} {outs:List TV} {S:St} {a:Act} (tj:∀b,¬io b) (xJ:fn.ntmps<900000)
  (h:lF ⟨P,E,fn.ntmps,w0,R0,io,BX,gl⟩ S a w) (he:Bh P fn.ntmps fn oc S=some outs) :
  a.defers=[]∧∃R' eN b zs el x rs,(results fn a.tmps).run P w = .ok (if eN.length+1=1 then .pointer (some ⟨b,0,none⟩) else .tuple ⟨.pointer (some ⟨b,0,none⟩) :: eN⟩) w∧Ext w0 R0 (fun _=>False) w R'∧(∀b o,R' b o→b<w.heap.size)∧eN.length+1=fn.results.size∧outs.take fn.results.size = .ag x :: rs∧dW R' w rs eN ∧
   w0.heap.size≤b∧w.heap[b]?=some (.cells ⟨zs⟩ el (0,0))∧bX R' w x zs∧(∀o,¬R' b o)∧DQ R' w w0.heap.size b zs (outs.drop fn.results.size) oc:=by
 obtain ⟨R,τ,h⟩:=h
 unfold Bh at he
 split at he <;> try (cases he;done)
 rename_i t Ap wq
 split at he <;> try (cases he;done)
 rename_i m GR
 split at he <;> try (cases he;done)
 rename_i cx S1 hc
 split at he <;> try (cases he;done)
 rename_i ys hr
 obtain ⟨R1,vs,k1,k2,k3,k4,k5,k6⟩:=iL h hc
 obtain ⟨R2,kV,hs,ln⟩:=jl k1 hr
 have he:=Option.some.inj he
 have gF:=fun {k g}=>gX hr (k:=k) (g:=g)
 have fh:=sS hr hs ln (i:=1) (rs:=Ap) (fun p hp=>List.mem_append_right _ hp) k4 k5 k6
 have jX:fn.results.size=Ap.length+1:=by rw [←Array.length_toList,wq];rfl
 have g1:(t,.ptr m 0)∈gN t m oc:=by cases oc <;> exact List.mem_cons_self ..
 have g2:∃ts,(m,.cl ts)∈gN t m oc∧(match oc with | none=>ts=[] | some c=>ts=[(c,910000)]∧(910000,.pv)∈gN t m oc):=by
  cases oc with
  | none=>exact ⟨_,List.mem_cons_of_mem _ (List.mem_cons_self ..),rfl⟩
  | some c=>exact ⟨_,List.mem_cons_of_mem _ (List.mem_cons_self ..),rfl,List.mem_cons_of_mem _ (List.mem_cons_of_mem _ (List.mem_cons_self ..))⟩
 obtain ⟨ts,g2,g3⟩:=g2
 obtain ⟨x0,c0,_,_⟩:=gF (List.mem_append_left _ g1)
 obtain ⟨x1,c1,_,_⟩:=gF (List.mem_append_left _ g2)
 have Et:=n4 hr (List.mem_append_left _ g1)
 rw [c0] at Et
 simp only at Et
 subst Et
 generalize hH:dp (gN t m oc++iE [] 1 Ap) ys=H at *
 have pS:(iQ [] H 1 Ap cx).length=Ap.length:=iD k4
 have Dk:=hs.core.key m
 rw [c1] at Dk
 obtain ⟨b,zs,el,x2,p1,p2,p3,p4,p5,p6⟩:=Dk
 simp only at p3
 subst p3
 have Ie:=hs.core.key t
 rw [c0] at Ie
 have IL:t<fn.ntmps∨¬t<fn.ntmps:=Nat.lt_or_ge .. |>.imp id Nat.not_lt.2
 have xO:dv kV H m=some b:=dL (by rw [c1];rfl) (by rw [c1];rfl) (by rw [p1];rfl)
 have Cb:w0.heap.size≤b:=(hs.core.cg m b xO).resolve_left (tj b)
 have hv:a.tmps.getD t undef = .pointer (some ⟨b,0,none⟩):=by
  have Hx:t<fn.ntmps:=by
   have hh:=hr
   unfold eR k9 at hh
   split at hh
   ·rename_i Gn
    obtain ⟨i,hi⟩:=List.mem_iff_getElem?.1 (List.mem_append_left (iE [] 1 Ap) g1)
    obtain ⟨us,hu⟩:=jF Gn hi (x:=_) (ah (by rw [jE Gn];exact (av.1 hi).1))
    simp only [pX] at hu
    exact Nat.le_of_ble_eq_true (bt.1 hu).1
   ·cases hh
  have rF:=iO hs (t:=t) Hx
  rw [c0] at rF
  obtain ⟨b',q1,q2⟩:∃b',kV m = .pointer (some ⟨b',0,none⟩)∧a.tmps.getD t undef = .pointer (some ⟨b',0,none⟩):=rF
  rw [p1] at q1;cases q1;exact q2
 have ft:(fn.results.toList.mapM (o0 a.tmps)).run P w = .ok (.pointer (some ⟨b,0,none⟩) :: vs) w:=by
  rw [wq]
  simp only [List.mapM_cons,o0,Sem.run_bind,Sem.run_pure,Result.andThen_ok,k3,hv]
 have EW:=ig ft
 rw [c1] at he
 refine ⟨hs.defers,R2,vs,b,zs,el,x2,iQ [] H 1 Ap cx,?_,⟨hs.ext.os,hs.ext.tape,hs.ext.output,hs.ext.size,fun g hg _=>hs.ext.heap g hg (tj g),hs.ext.cq,fun g o hg=>(hs.ext.oZ g o hg).imp id fun h=>h.imp id (tj g)⟩,hs.core.j9,by rw [k5,jX],?_,fh,Cb,p2,p4,p6,?_⟩
 ·rw [EW]
  simp only [aK]
  split <;> rfl
 ·rw [←he,jX,List.take_succ_cons,←pS,List.take_left]
 ·cases oc with
  | none =>
   show outs.drop fn.results.size=[]
   rw [←he,jX,List.drop_succ_cons,←pS,List.drop_left]
  | some k =>
   obtain ⟨rfl,g4⟩:=g3
   obtain ⟨y1,c2,_,_⟩:=gF (List.mem_append_left _ g4)
   have Dj:=hs.core.key 910000
   rw [c2] at Dj
   refine ⟨y1,kV 910000,?_,p5 _ (List.mem_singleton.2 rfl),Dj,fun g hg=>?_⟩
   ·rw [←he,jX,List.drop_succ_cons,←pS,List.drop_left]
    simp only [c2]
   ·have zP:dv kV H 910000=some g:=dL (by rw [c2];rfl) (by rw [c2];rfl) hg
    have fP:g≠b:=fun e=>by
     subst e
     have:=hs.core.j0 xO zP
     rw [this] at c1
     rw [c1] at c2;cases c2
    exact ⟨fP,(hs.core.cg 910000 g zP).resolve_left (tj g)⟩
theorem sM {P:Program} {E:cI} {gl:Nat→Option (List Value)} (hE:fc P E) (hF:∀f,bD P gl f (E.fs f)) {f:Nat} {c:eH} {sg:cr} (hint:Hint) (hG:∀ins outs,(c ins).holds outs→dK P E f sg hint ins=some (outs++fD sg.md ins)):bD P gl f (c,sg):=by
 have base:∀{ins outs:List TV},(c ins).holds outs→∃fn body,P.funcs[f]?=some fn∧fn.body=some body∧pB fn sg=true∧uR fn sg ins=true∧gJ P f=true∧fn.ntmps<900000∧fn.params.size≤fn.ntmps∧fn.results.size=sg.bE∧ib P E fn.ntmps body hint (B3 fn.params.size sg ins) (sr P fn.ntmps fn sg)=some (outs++fD sg.md ins):=fun {ins outs} hc=>by
  have hr:=hG ins outs hc
  unfold dK at hr
  split at hr <;> try (cases hr;done)
  rename_i fn hf
  split at hr <;> try (cases hr;done)
  rename_i body hb
  obtain ⟨h1,hr⟩:=bt.1 hr
  simp only [ae] at h1
  obtain ⟨fQ,hl⟩:=h1
  have zK:=fQ
  simp only [pB,ae] at zK
  obtain ⟨⟨⟨⟨⟨⟨⟨b1,b2⟩,b3⟩,b4⟩,b5⟩,b6⟩,b7⟩,b8⟩:=zK
  refine ⟨fn,body,hf,hb,fQ,hl,?_,Nat.le_of_ble_eq_true b1,Nat.le_of_ble_eq_true b2,(aj b4).symm,by rw [tA];exact hr⟩
  unfold gJ
  rw [hf]
  simp only [Option.any_some,hb,Option.isSome_some,Bool.true_and]
  exact b8
 unfold bD
 split <;> rename_i hk <;> simp only at hk
 ·intro ins outs hc
  obtain ⟨fn,body,hf,hb,fQ,hl,wx,b1,b2,b3,hr⟩:=base hc
  simp only [uR,B3,sr,hk] at hl hr
  have hl:=aj hl
  refine ⟨wx,fun w R xs hR qK ha hs=>?_⟩
  have hx:xs.length=fn.params.size:=by rw [←ha.1,hl]
  refine calls_of_wp hf hb ?_
  have jX:(⟨xs⟩:Array Value).size=xs.length:=rfl
  rw [jX]
  have wC:=rm (P:=P) (E:=E) (nt:=fn.ntmps) (by omega) (by omega) hR qK ha hs
  rw [←hx] at hr
  refine sk (C:=⟨P,E,fn.ntmps,w,R,pj sg.md xs,fG xs,gl⟩) hE hF body ⟨R,_,wC⟩ hr fun e S' a' w' h' hq=>?_
  have fin:qS P fn.ntmps fn sg S'=some (outs++fD sg.md ins)→_:=fun hq=>by
   simp only [qS,hk] at hq
   exact Bo ha.1 hx fQ h' hq
  cases e with
  | ret =>
   obtain ⟨d,x,R',eN,ys,k1,k2,k3,k4⟩:=fin hq
   exact ⟨d,x,k1,x,R',eN,ys,rfl,k2,k3,k4⟩
  | normal =>
   obtain ⟨d,x,R',eN,ys,k1,k2,k3,k4⟩:=fin hq
   exact ⟨d,x,k1,x,R',eN,ys,rfl,k2,k3,k4⟩
  | _=>cases hq
 ·rename_i i k e
  intro ins outs hc
  obtain ⟨fn,body,hf,hb,fQ,hl,wx,b1,b2,b3,hr⟩:=base hc
  simp only [uR,B3,sr,hk,ae] at hl hr
  obtain ⟨hm,hl⟩:=hl
  have hl:=aj hl
  have xK:sg.md=[]:=by simpa using hm
  rw [xK,og,bj] at hr
  refine ⟨wx,fun w R xs b zs el x u y hR qK yC nH B4 Ff H7 hL A8 hu hy he=>?_⟩
  have hx:xs.length=fn.params.size:=by omega
  refine calls_of_wp hf hb ?_
  have jX:(⟨xs⟩:Array Value).size=xs.length:=rfl
  rw [jX]
  have wC:=xv (P:=P) (E:=E) (nt:=fn.ntmps) (by omega) (by omega) hR qK yC nH B4 Ff H7 hL A8 hu hy he
  rw [←hx] at hr
  refine sk (C:=⟨P,E,fn.ntmps,w,R,D3 b e u,sG xs i u,gl⟩) hE hF body ⟨R,_,wC⟩ hr fun e' S' a' w' h' hq=>?_
  have ht0:sG xs i u 1000000 = .pointer (some ⟨b,0,none⟩):=by unfold sG;rw [ak (by omega),ar rfl,ai,B4];rfl
  have fin:qS P fn.ntmps fn sg S'=some outs→_:=fun hq=>by
   simp only [qS,hk] at hq
   exact Bm ht0 h' hq
  rw [←b3]
  cases e' with
  | ret =>
   obtain ⟨d,R',eN,sH,xP,x',u',y',k1,k2⟩:=fin hq
   exact ⟨d,_,k1,R',eN,sH,xP,x',u',y',rfl,k2⟩
  | normal =>
   obtain ⟨d,R',eN,sH,xP,x',u',y',k1,k2⟩:=fin hq
   exact ⟨d,_,k1,R',eN,sH,xP,x',u',y',rfl,k2⟩
  | _=>cases hq
 ·rename_i oc
  intro ins outs hc
  obtain ⟨fn,body,hf,hb,fQ,hl,wx,b1,b2,b3,hr⟩:=base hc
  simp only [uR,B3,sr,hk,ae] at hl hr
  obtain ⟨hm,hl⟩:=hl
  have hl:=aj hl
  have xK:sg.md=[]:=by simpa using hm
  rw [xK,og,bj] at hr
  refine ⟨wx,fun w R xs hR qK ha=>?_⟩
  have hx:xs.length=fn.params.size:=by rw [←ha.length,hl]
  refine calls_of_wp hf hb ?_
  have jX:(⟨xs⟩:Array Value).size=xs.length:=rfl
  rw [jX]
  have pl:∀i,([]:List Md).getD i .pl = .pl:=fun i=>by simp
  have wC:=rm (P:=P) (E:=E) (nt:=fn.ntmps) (ms:=[]) (by omega) (by omega) hR qK ⟨ha.length,fun i x v hi hv=>by
   obtain ⟨v',h1,h2⟩:=ha.get i x hi
   rw [hv] at h1;cases h1
   rw [pl i];exact h2⟩ (fun i j v v' b hi=>(hi (pl i)).elim)
  rw [←hx] at hr
  refine sk (C:=⟨P,E,fn.ntmps,w,R,pj [] xs,fG xs,gl⟩) hE hF body ⟨R,_,wC⟩ hr fun e' S' a' w' h' hq=>?_
  have fin:=fun hq:qS P fn.ntmps fn sg S'=some outs=>Bp (oc:=oc) (outs:=outs) (by rintro b ⟨i,v,hm,_⟩;exact hm (pl i)) b1 h' (by simpa only [qS,hk] using hq)
  rw [←b3]
  cases e' with
  | ret =>
   obtain ⟨d,R',eN,b,zs,el,x,rs,k1,k2⟩:=fin hq
   exact ⟨d,_,k1,R',eN,b,zs,el,x,rs,rfl,k2⟩
  | normal =>
   obtain ⟨d,R',eN,b,zs,el,x,rs,k1,k2⟩:=fin hq
   exact ⟨d,_,k1,R',eN,b,zs,el,x,rs,rfl,k2⟩
  | _=>cases hq
end Go.Eng
namespace Go.Eng
open Go.RowKit
def sW:eH × cr:=(fun _ => .err,{})
theorem tV {P:Program} {gl:Nat→Option (List Value)} {f:Nat}:bD P gl f sW:=fun _ _ h=>h.elim
def look {A:Type} (z:A):List (Nat × A)→Nat→A
 | [],_=>z
 | (k,c) :: r,n=>cond (Nat.beq n k) c (look z r n)
abbrev zj:=List (Nat × (dS × Nat))
abbrev Zs:=List (Nat × List TV)
def kE {A:Type}:List (Nat × A)→Nat→Option A
 | [],_=>none
 | (k,c) :: r,n=>cond (Nat.beq n k) (some c) (kE r n)
def dO (ty:zj) (z:Zs) (l:List (Nat × (eH × cr))) (ld:List Nat:=[]):cI:=⟨look sW l,kE ty,kE z,ld⟩
theorem sq {P:Program} {gl:Nat→Option (List Value)} {l:List (Nat × (eH × cr))} (h:∀p∈l,bD P gl p.1 p.2):∀f,bD P gl f (look sW l f):=by
 intro f
 induction l with
 | nil=>exact tV
 | cons p r ih =>
  obtain ⟨k,c⟩:=p
  simp only [look]
  cases hb:Nat.beq f k with
  | true=>rw [aj hb];exact h (k,c) (List.mem_cons_self ..)
  | false=>exact ih fun q hq=>h q (List.mem_cons_of_mem _ hq)
theorem lj {A:Type} {n:Nat} {x:A}:∀{l:List (Nat × A)},kE l n=some x→(n,x)∈l
 | (k,c) :: r,h=>by
  simp only [kE] at h
  cases hb:Nat.beq n k with
  | true=>rw [hb] at h;cases h;rw [aj hb];exact List.mem_cons_self ..
  | false=>rw [hb] at h;exact List.mem_cons_of_mem _ (lj h)
def zU:Value→TV→Bool
 | .slice none 0 0,.sl _ []=>true
 | v,x=>sI v x
def lA:List Value→List TV→Bool
 | [],[]=>true
 | x :: xs,y :: ys=>zU x y&&lA xs ys
 | _,_=>false
theorem oG {R:Reach} {w:World}:∀{vs:List Value} {xs:List TV},lA vs xs=true→bX R w xs vs
 | [],[],_ => .nil
 | v :: vs,x :: xs,h=>by
  simp only [lA,ae] at h
  have h1:Rep R w x v∧v.oneCell'=true:=by
   have:=h.1
   unfold zU at this
   split at this
   ·exact ⟨.sn _,rfl⟩
   ·exact mD this
  exact .cons h1.2 h1.1 (oG h.2)
 | [],_ :: _,h=>by simp [lA] at h
 | _ :: _,[],h=>by simp [lA] at h
def nW (P:Program) (ty:zj):Bool:=ty.all fun p=>match P.underlying p.1 with
 | some (.slice e)=>match P.info? e with
  | some i=>Nat.beq i.size p.2.1.size&&Nat.beq i.bytes p.2.2&&(match i.zero with
   | some z=>lA z.cells.toList (p.2.1.tv p.2.1.fi).cells
   | none=>false)
  | none=>false
 | _=>false
def tN (P:Program) (z:Zs):Bool:=z.all fun p=>jy P p.1&&match (P.info? p.1).bind (·.zero) with
 | some v=>jg v.cells.toList p.2
 | none=>false
theorem so {P:Program} {ty:zj} {z:Zs} {l:List (Nat × (eH × cr))} {ld:List Nat} (hm:P.follows .mixedOrders=true) (h1:nW P ty=true) (h2:tN P z=true):fc P (dO ty z l ld):=by
 refine ⟨hm,fun t st b he=>?_,fun t c he=>?_⟩
 ·have:=aw.1 h1 _ (lj (l:=ty) he)
  simp only at this
  split at this
  ·rename_i e hu
   split at this
   ·rename_i i hi
    simp only [ae] at this
    obtain ⟨⟨k1,k2⟩,k3⟩:=this
    split at k3
    ·rename_i zv hz
     have hL:∀R w,bX R w (st.tv st.fi).cells zv.cells.toList:=fun R w=>oG k3
     refine ⟨e,i,zv,hu,hi,aj k1,aj k2,hz,?_,hL⟩
     have:=(hL (fun _ _=>False) default).length
     rw [dS.fT] at this
     simpa using this.symm
    ·cases k3
   ·cases this
  ·cases this
 ·have:=aw.1 h2 _ (lj (l:=z) he)
  simp only [ae] at this
  refine ⟨this.1,?_⟩
  have h:=this.2
  split at h
  ·rename_i v hv
   exact ⟨v,hv,h⟩
  ·cases h
theorem meets {P:Program} {gl:Nat→Option (List Value)} {ty:zj} {z:Zs} {l:List (Nat × (eH × cr))} {ld:List Nat} (hm:P.follows .mixedOrders=true∧nW P ty=true∧tN P z=true) (hE:∀p∈l,bD P gl p.1 p.2) {f:Nat} (hint:Hint) {c:eH} {sg:cr}
  (hG:∀ins outs,(c ins).holds outs→dK P (dO ty z l ld) f sg hint ins=some (outs++fD sg.md ins)):bD P gl f (c,sg) :=
 sM (so hm.1 hm.2.1 hm.2.2) (sq hE) hint hG
def Fit (F:List TV→OT) (l:List TV→List TV) (ins:List TV):iM→Prop
 | .ok outs=>F ins=some (outs++l ins)
 | .ez p outs=>p=true→F ins=some (outs++l ins)
 | .err=>True
theorem fits {c:eH} {F:List TV→OT} {l:List TV→List TV} (h:∀ins,Fit F l ins (c ins)):∀ins outs,(c ins).holds outs→F ins=some (outs++l ins):=fun ins outs hc=>by
 have h:=h ins
 cases e:c ins with
 | ok ws=>rw [e] at h hc;obtain rfl:outs=ws:=hc;exact h
 | ez p ws=>rw [e] at h hc;obtain ⟨hp,rfl⟩:p=true∧outs=ws:=hc;exact h hp
 | err=>rw [e] at hc;exact hc.elim
theorem fV {P:Program} {gl:Nat→Option (List Value)} {f:Nat} {sg:cr} {c':eH} (h:∀ti gO,(c' ti).holds gO→∃c:eH,bD P gl f (c,sg)∧(c ti).holds gO):bD P gl f (c',sg):=by
 unfold bD at *
 cases hk:sg.kd <;> simp only [hk] at * <;>
  exact fun ins outs hc=>by
   obtain ⟨c,hs,hc⟩:=h ins outs hc
   exact hs ins outs hc
theorem eQ {P:Program} {gl:Nat→Option (List Value)} {f:Nat} {sg:cr} {c:eH} (h:∀ti gO,¬(c ti).holds gO):bD P gl f (c,sg):=by
 unfold bD
 cases hk:sg.kd <;> simp only <;> exact fun ins outs hc=>(h ins outs hc).elim
theorem all_nil {A:Type} {p:A→Prop}:∀x∈([]:List A),p x:=fun _ h=>by cases h
theorem all_cons {A:Type} {p:A→Prop} {a:A} {l:List A} (h:p a) (t:∀x∈l,p x):∀x∈a :: l,p x:=fun x hx=>by
 rcases aD.1 hx with rfl | hx
 ·exact h
 ·exact t x hx
def Old (w:World):Reach:=fun b _=>b<w.heap.size
theorem calls_of_spec {P:Program} {gl:Nat→Option (List Value)} {f:Nat} {c:eH} (h:bD P gl f (c,{})) {ti:List TV} {xs:List Value} {w:World}
  (qK:GlOK gl (Old w) w) (hc:(c ti).holds [.b true]) (ha:dW (Old w) w ti xs):Calls P f ⟨xs⟩ w fun e w'=>e = .returned (.bool true)∧Below w.heap.size w w':=by
 refine ((h ti [.b true] hc).2 w (Old w) xs (fun b o hb=>hb) qK ⟨ha.length,fun i x v hx hv=>?_⟩ fun i j v v' b hi=>(hi (by simp)).elim).mono ?_
 ·obtain ⟨y,h1,h2⟩:=ha.get i x hx
  rw [hv] at h1;cases h1;exact h2
 ·rintro e w' ⟨x,R',eN,ys,rfl,hx,hr,ho⟩
  refine ⟨?_,hx.os,hx.tape,hx.output,hx.size,fun k hk=>hx.heap k hk ?_⟩
  ·congr 1
   have hl:eN.length=1:=ho.len
   have fh:=ho.rep
   rw [ho.val]
   match eN,hl with
   | [y],_ =>
    simp only [if_true,List.headD_cons]
    have fh:dW R' w' [.b true] [y]:=fh
    cases fh with
    | cons a _=>exact a.dA rfl
  ·rintro ⟨i,v,hm,_⟩
   exact hm (by simp)
theorem uE {n:Int} {l:Nat}:cU n l=true ↔ 0≤n∧n<l:=by simp [cU]
theorem uY {a b:Int} {l:Nat}:en a b l=true ↔ 0≤a∧a≤b∧b≤l:=by simp [en,and_assoc]
theorem xz {n b:Nat}:fg n b=true ↔ n≤maxLen∧n * b≤140737488355328:=by simp [fg]
theorem oh {n:Nat}:lK n=true ↔ n≤maxLen:=by simp [lK]
end Go.Eng
namespace Go.Eng
open Go.IntWalk
theorem bw {R:Type} {p:Bool} {x:Option R} (h:p=true):ck p x=x:=by rw [h];rfl
theorem lg:maxLen=9223372036854775807:=by decide
theorem y8 {n:Nat} (h:n≤1099511627776):lK n=true:=oh.2 (by rw [lg];omega)
theorem hY {n b:Nat} (h:n * b≤140737488355328) (h2:n≤140737488355328):fg n b=true:=xz.2 ⟨by rw [lg];omega,h⟩
theorem ew {n:Int} {l:Nat} (h0:0≤n) (h1:n<l):cU n l=true:=uE.2 ⟨h0,h1⟩
theorem hO {a b:Int} {l:Nat} (h0:0≤a) (h1:a≤b) (h2:b≤l):en a b l=true:=uY.2 ⟨h0,h1,h2⟩
theorem ik (n:Nat):(BitVec.ofInt 64 (n:Int))=BitVec.ofNat 64 n:=by
 apply BitVec.eq_of_toNat_eq;rw [BitVec.toNat_ofInt,BitVec.toNat_ofNat];omega
theorem zi (a b:Nat) (ha:a<9223372036854775808) (hb:b<9223372036854775808):cp .and .i64 a b=((a &&& b:Nat):Int):=by
 have h1:a &&& b≤a:=Nat.and_le_left
 have e:cp .and .i64 a b=IntKind.i64.wrap (((BitVec.ofInt 64 (a:Int) &&& BitVec.ofInt 64 (b:Int)).toNat:Nat):Int):=rfl
 rw [e,ik,ik,BitVec.toNat_and,BitVec.toNat_ofNat,BitVec.toNat_ofNat,Nat.mod_eq_of_lt (by omega),Nat.mod_eq_of_lt (by omega)]
 exact i64_in _ (by omega)
theorem CG {a b k:Nat} (ha:a<2 ^ k) (hb:b<2 ^ k):a ||| b<2 ^ k:=Nat.or_lt_two_pow ha hb
theorem AA (a b:Nat) (ha:a<9223372036854775808) (hb:b<9223372036854775808):cp .or .i64 a b=((a ||| b:Nat):Int):=by
 have h1:a ||| b<9223372036854775808:=CG (k:=63) (by simpa using ha) (by simpa using hb)
 have e:cp .or .i64 a b=IntKind.i64.wrap (((BitVec.ofInt 64 (a:Int) ||| BitVec.ofInt 64 (b:Int)).toNat:Nat):Int):=rfl
 rw [e,ik,ik,BitVec.toNat_or,BitVec.toNat_ofNat,BitVec.toNat_ofNat,Nat.mod_eq_of_lt (by omega),Nat.mod_eq_of_lt (by omega)]
 exact i64_in _ (by omega)
theorem rZ {a b k:Nat} (hb:b<2 ^ k):(a * 2 ^ k) ||| b=a * 2 ^ k+b:=by
 rw [←Nat.shiftLeft_eq,Nat.shiftLeft_add_eq_or_of_lt hb]
theorem drop_cons {α:Type} {l:List α} {i:Nat} (hi:i<l.length) (d:α):l.drop i=l.getD i d :: l.drop (i+1):=by
 rw [List.drop_eq_getElem_cons hi,ai,ah hi];rfl
theorem Ac (n:Nat):(UInt8.ofInt (n:Int)).toNat=n % 256:=by
 have h:=ku (n:Int)
 rw [wrap_u8'] at h;omega
end Go.Eng
namespace Go.Eng
def bits:Nat→Nat→List Bool
 | 0,_=>[]
 | f+1,n=>cond (Nat.ble n 1) [] (Nat.beq (n % 2) 1 :: bits f (n / 2))
section
variable {R:Type} (P:Program) (E:cI) (nt:Nat)
noncomputable def walk:List Bool→Code→Hint→dj R→Code × Hint × dj R
 | [],c,h,K=>(c,h,K)
 | false :: p,.seq a b,.j G h1 h2,K=>walk p a h1 (lL nt (ib P E nt b h2) G K)
 | true :: p,.seq _ b,.j _ _ h2,K=>walk p b h2 K
 | false :: p,.seq a b,h,K=>walk p a h.s1 (tX (ev P E nt b h.s2) K)
 | true :: p,.seq _ b,h,K=>walk p b h.s2 K
 | false :: p,.cond _ a _,h,K=>walk p a h.s1 K
 | true :: p,.cond _ _ b,h,K=>walk p b h.s2 K
 | _ :: p,.block id a,h,K=>walk p a h.s1 (gq id K)
 | _ :: p,.loop a,.l G h,K=>walk p a h (pO nt (ib P E nt a h) G K)
 | _ :: p,.scope a,.sc ls h,K=>walk p a h (fN nt (lY P E nt a) ls h K)
 | _ :: _,_,_,_=>(.skip,.o,fun _ _=>none)
end
noncomputable def BZ (P:Program) (E:cI) (f:Nat) (sg:cr) (h:Hint) (p:Nat):Nat × Code × Hint × dj (List TV) :=
 match P.funcs[f]? with
 | some fn=>match fn.body with
  | some c=>(fn.ntmps,walk P E fn.ntmps (bits 500 p) c h (sr P fn.ntmps fn sg))
  | none=>(0,.skip,.o,fun _ _=>none)
 | none=>(0,.skip,.o,fun _ _=>none)
noncomputable def fm (P:Program) (E:cI) (f:Nat) (sg:cr) (h:Hint) (p:Nat) (xs:List TV):OT :=
 match BZ P E f sg h p with
 | (nt,.seq _ b,.j G _ h2,K)=>ib P E nt b h2 (dp G xs) K
 | _=>none
noncomputable def iI (P:Program) (E:cI) (f:Nat) (sg:cr) (h:Hint) (p:Nat) (xs:List TV):OT :=
 match BZ P E f sg h p with
 | (nt,.loop a,.l G h1,K)=>sZ nt (ib P E nt a h1) G xs K
 | _=>none
noncomputable def ll (P:Program) (E:cI) (f:Nat) (sg:cr) (h:Hint) (p l:Nat) (xs:List TV):OT :=
 match BZ P E f sg h p with
 | (nt,.scope a,.sc ls h1,K)=>rQ nt (lY P E nt a) ls h1 (l,xs) K
 | _=>none
theorem dE (P:Program) (E:cI) (f:Nat) (sg:cr) (h:Hint) (p:Nat) (xs:List TV):fm P E f sg h p xs=match BZ P E f sg h p with
  | (nt,.seq _ b,.j G _ h2,K)=>ev P E nt b h2 (dp G xs) K
  | _=>none:=by
 unfold fm
 split
 ·rw [tA]
 ·rfl
theorem fk (P:Program) (E:cI) (f:Nat) (sg:cr) (h:Hint) (p:Nat) (xs:List TV):iI P E f sg h p xs=match BZ P E f sg h p with
  | (nt,.loop a,.l G h1,K)=>ev P E nt a h1 (dp G xs) (pO nt (ib P E nt a h1) G K)
  | _=>none:=by
 unfold iI
 split
 ·rw [yS]
 ·rfl
theorem jK (P:Program) (E:cI) (f:Nat) (sg:cr) (h:Hint) (p l:Nat) (xs:List TV):ll P E f sg h p l xs=match BZ P E f sg h p with
  | (nt,.scope a,.sc ls h1,K)=>vb (wN P E nt a).2 ls h1 (l,xs) (fN nt (lY P E nt a) ls h1 K)
  | _=>none:=by
 unfold ll
 split
 ·rw [wM]
 ·rfl
end Go.Eng
namespace Go.Eng
open Go.RowKit Go.Sort
theorem lD {w w':World} {R:Reach} {io:Nat→Prop} (hR:∀b o,R b o→b<w.heap.size) (h:Below w.heap.size w w'):Ext w R io w' R :=
 ⟨h.os,h.tape,h.output,h.size,fun b hb _=>h.block b hb,fun b o hr=>⟨hr,by simp only [World.cell?,h.block b (hR b o hr)]⟩,fun b o hr => .inl hr⟩
theorem tK {R:Reach} {w:World} {ti:List TV} {xs:List Value} (h:pQ R w [] ti xs):dW R w ti xs:=dW.of h.1 fun i x y hx hy=>h.2 i x y hx hy
theorem rM {P:Program} {gl:Nat→Option (List Value)} {f:Nat} {c:eH} (hb:gJ P f=true) (h:∀(ti gO:List TV) (w:World) (R:Reach) (xs:List Value),(c ti).holds gO→dW R w ti xs→(∀b o,R b o→b<w.heap.size)→GlOK gl R w →
  Calls P f ⟨xs⟩ w fun e w'=>∃x,e = .returned x∧Below w.heap.size w w'∧∀R w',dW R w' gO [x]):bD P gl f (c,{}):=by
 refine fun ti gO hc=>⟨hb,fun w R xs hR qK ha _=>(h ti gO w R xs hc (tK ha) hR qK).mono ?_⟩
 rintro e w' ⟨x,rfl,zO,hx⟩
 have hl:gO.length=1:=by simpa using (hx R w').length
 match gO,hl with
 | [y],_ =>
  refine ⟨x,R,[x],[],rfl,lD hR zO,fun b o hr=>Nat.lt_of_lt_of_le (hR b o hr) zO.size,?_⟩
  exact ⟨rfl,Nat.le_refl _,rfl,hx R w',fun i hi=>(by cases hi),rfl,fun i y v hy=>(by simp at hy),fun i hi=>(by cases hi),fun j j' i i' v v' b hj=>(by simp at hj),fun i hi=>(by cases hi)⟩
theorem qc {P:Program} {gl:Nat→Option (List Value)} {f n:Nat} {c:eH} (hb:gJ P f=true) (hn:n≠1) (h:∀(ti gO:List TV) (w:World) (R:Reach) (xs:List Value),(c ti).holds gO→dW R w ti xs→(∀b o,R b o→b<w.heap.size)→GlOK gl R w →
  Calls P f ⟨xs⟩ w fun e w'=>∃ys,ys.length=n∧e = .returned (.tuple ⟨ys⟩)∧Below w.heap.size w w'∧∀R w',dW R w' gO ys):bD P gl f (c,{ bE:=n }):=by
 refine fun ti gO hc=>⟨hb,fun w R xs hR qK ha _=>(h ti gO w R xs hc (tK ha) hR qK).mono ?_⟩
 rintro e w' ⟨ys,hy,rfl,zO,hx⟩
 have hl:gO.length=n:=by rw [(hx R w').length,hy]
 refine ⟨.tuple ⟨ys⟩,R,ys,[],rfl,lD hR zO,fun b o hr=>Nat.lt_of_lt_of_le (hR b o hr) zO.size,?_⟩
 have e1:gO.take n=gO:=List.take_of_length_le (by omega)
 have e2:gO.drop n=[]:=aL (by omega)
 refine ⟨hy,by show n≤_;omega,by show _=if n=1 then _ else _;rw [ak hn],?_,fun i hi=>(by cases hi),?_,fun i y v hy=>(by simp at hy),fun i hi=>(by cases hi),fun j j' i i' v v' b hj=>(by simp at hj),fun i hi=>(by cases hi)⟩
 ·have e3:ka [] (gO.take n)=gO:=by rw [e1,qq]
  show dW R w' (ka [] (gO.take n)) ys
  rw [e3];exact hx R w'
 ·show fK [] ti (gO.drop n)=some []
  rw [e2];rfl
theorem mI {R:Reach} {w:World}:∀{ti:List TV} {xs ys:List Value},dW R w ti xs→ti.mapM TV.val=some ys→xs=ys
 | [],_,_,.nil,h=>by simpa using h
 | x :: r,_,_,.cons a b,h=>by
  rw [List.mapM_cons] at h
  obtain ⟨v,hv,h⟩:=aE.1 h
  obtain ⟨vs,sa,h⟩:=aE.1 h
  cases h
  rw [a.dA hv,mI b sa]
theorem CB {R:Reach} {w:World} {l:bG}:Rep R w (.s l) (.string ⟨⟨l⟩⟩) := .sc rfl
theorem CC {R:Reach} {w:World} {n:Int}:Rep R w (.i .i64 n) (.int .i64 n) := .sc rfl
theorem CD {R:Reach} {w:World} {x:TV} {v:Value} (h:Rep R w x v):dW R w [x] [v] := .cons h .nil
def yP:List (Nat × List Value)→Nat→Option (List Value)
 | [],_=>none
 | (k,v) :: r,n=>cond (Nat.beq n k) (some v) (yP r n)
def p9 (k:IntKind) (zs:List Int):List Value:=zs.map fun z=>Value.int k z
theorem Bb {P:Program} {w:World} {name:String} {k:IntKind} {zs:List Int} {g:Nat} (h:Lib.TabIs P w name k zs) (hg:P.globalNamed name=some g) (o:Nat):Old w g o∧w.cell? ⟨g,o,none⟩=(p9 k zs)[o]?:=by
 have hs:g<w.heap.size:=by
  unfold Lib.TabIs World.var? at h
  rw [hg] at h
  simp only [Option.bind_some] at h
  cases hh:w.heap[g]? with
  | none=>rw [hh] at h;cases h
  | some x=>exact (Array.getElem?_eq_some_iff.1 hh).1
 exact ⟨hs,by have:=World.var?_cell hg h o;simpa [p9] using this⟩
theorem Ai {P:Program} {gl:Nat→Option (List Value)} {R:Reach} {w:World} {name:String} {k:IntKind} {z:Int} {zs:List Int} {g:Nat} (h:GlOK gl R w) (e:gl g=some (p9 k (z :: zs))) (hg:P.globalNamed name=some g):Lib.TabIs P w name k (z :: zs):=by
 have h2:=fun o=>(h g _ e o).2
 have h0:=h2 0
 unfold Lib.TabIs World.var?
 rw [hg]
 simp only [Option.bind_some]
 simp only [World.cell?] at h0 h2
 cases hh:w.heap[g]? with
 | none=>rw [hh] at h0;cases h0
 | some x =>
  rw [hh] at h0 h2
  cases x with
  | cells cs e f =>
   simp only at h2 ⊢
   congr 1
   apply Array.ext_getElem?
   intro i
   have:=h2 i
   simp only [Option.isSome_none,bd,if_false] at this
   rw [this]
   simp [p9]
  | _=>cases h0
theorem gl_nil {R:Reach} {w:World}:GlOK (yP []) R w:=fun _ _ h=>by cases h
theorem gl_cons {P:Program} {w:World} {name:String} {k:IntKind} {zs:List Int} {g:Nat} {r:List (Nat × List Value)} (h:Lib.TabIs P w name k zs) (hg:P.globalNamed name=some g) (t:GlOK (yP r) (Old w) w):GlOK (yP ((g,p9 k zs) :: r)) (Old w) w:=fun n vs hn o=>by
 unfold yP at hn
 cases hb:Nat.beq n g with
 | true=>rw [hb] at hn;cases hn;rw [aj hb];exact Bb h hg o
 | false=>rw [hb] at hn;exact t n vs hn o
theorem sB (w:World) (k:Nat) (os:Array Obj):Below w.heap.size w (grow (w.drewN k) os) :=
 ⟨rfl,rfl,rfl,by show w.heap.size≤(w.heap++os).size;simp,fun i hi=>heap_grow_old (w.drewN k) os hi⟩
end Go.Eng
